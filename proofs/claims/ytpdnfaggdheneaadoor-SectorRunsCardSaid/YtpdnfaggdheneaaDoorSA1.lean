/- The law's own first check (awake): one of two pending writes is made. -/
import Derived.Test.YtpdnfaggdheneaaDoorSF
namespace Go.Proofs.YtpdnfaggdheneaaDoorS
open Go.RowKit Go.Proofs Go.Proofs.YtpdnfaggdheneaaDoorW.PrintWords

theorem Aft.trans {w w1 w2 : World} {B D S : Nat} {ok : Nat → Prop} {d1 d2 : Dsk} (h1 : Aft w B D S ok d1 w1) (h2 : Aft w1 B D S ok d2 w2) : Aft w B D S ok d2 w2 := ⟨h2.disk, h1.keep.trans h2.keep⟩
theorem here_new {n : Nat} {i : Int} (h0 : 0 ≤ i) (h1 : i < n) : (newD n).here i := ⟨h0, by show i < ((List.replicate n sec0).length : Int); rw [List.length_replicate]; exact h1⟩
def sA : ByteArray := ⟨#[97]⟩
def sB : ByteArray := ⟨#[98]⟩
def sC : ByteArray := ⟨#[99]⟩
def aw1 : Dsk := (newD 9).wrote 3 sA
def aw2 : Dsk := aw1.flushed
def aw3 : Dsk := aw2.wrote 3 sB
def aw4 : Dsk := aw3.wrote 4 sC
def aw5 : Dsk := aw4.fallen [false, true]
theorem aw5_eq : aw5 = ⟨((List.replicate 9 sec0).set 3 (full sA)).set 4 (full sC), [], -1, false⟩ := rfl
theorem aw_facts : (newD 9).can = true ∧ aw1.can = true ∧ aw2.can = true ∧ aw3.can = true := ⟨rfl, rfl, rfl, rfl⟩
theorem aw3_get : aw5.get 3 = full sA := rfl
theorem aw4_get : aw5.get 4 = full sC := rfl
theorem full_at (c : UInt8) {r : ByteArray} (hr : r = full ⟨#[c]⟩) (h : 0 < r.size) : r[0] = c := by
  have e : r.data[0]? = some c := by
    rw [hr]
    unfold full
    rw [Array.getElem?_append_left (show 0 < (#[c]).size from Nat.zero_lt_one)]
    rfl
  have e2 : r.data[0]? = some r[0] := Array.getElem?_eq_getElem h
  exact Option.some.inj (e2.symm.trans e)
theorem aw_keep {w : World} {S : Nat} (hS : S < w.heap.size) : KeepAt (w.alloc (.cells #[.bool false, .bool true] 4)) (some ⟨w.heap.size, 0, none⟩) [false, true] S := by
  refine ⟨by simp, fun j hj => ⟨_, rfl, by show w.heap.size ≠ S; omega, ?_⟩⟩
  rw [add_plain, cell_of_row _ w.heap.size j _ _ (0, 0) (heap_alloc_last w _)]
  match j, hj with
  | 0, _ => rfl
  | 1, _ => rfl
set_option maxHeartbeats 1000000 in
theorem awake_calls (w : World) : Calls Tryd.prog 5 #[] w fun e w' => e = .returned (.bool true) ∧ Below w.heap.size w w' := by
  obtain ⟨ra, hra⟩ : ∃ ra, ra = full sA := ⟨_, rfl⟩
  obtain ⟨rc, hrc⟩ : ∃ rc, rc = full sC := ⟨_, rfl⟩
  have za : Hid (ra.size = 512) := Lib.hid (by rw [hra]; exact full_size (by decide))
  have zc : Hid (rc.size = 512) := Lib.hid (by rw [hrc]; exact full_size (by decide))
  have pa : 0 < ra.size := by rw [za.out]; decide
  have pc : 0 < rc.size := by rw [zc.out]; decide
  have ia : Hid (ra[0] = 97) := Lib.hid (full_at 97 hra pa)
  have ic : Hid (rc[0] = 99) := Lib.hid (full_at 99 hrc pc)
  have ga := Lib.hid (aw3_get.trans hra.symm)
  have gc := Lib.hid (aw4_get.trans hrc.symm)
  clear hra hrc
  go_enter Tryd.func5, Tryd.ntmps5
  go_wp2_with fail
  refine (a_new 9 _ (by omega) (by omega)).mono ?_
  rintro e w1 ⟨rfl, h1⟩
  have H1 := Lib.hid (show Aft w w.heap.size (w.heap.size + 1) w.heap.size (fun k => k < w.heap.size) (newD 9) w1 from h1); clear h1
  go_wp2_with fail
  refine (a_write 3 sA H1.out.disk rfl (here_new (by omega) (by omega)) (by decide) (by decide)).mono ?_
  rintro e w2 ⟨rfl, h2⟩
  have H2 := Lib.hid (H1.out.trans h2); clear h2
  go_wp2_with fail
  refine (a_flush H2.out.disk rfl).mono ?_
  rintro e w3 ⟨rfl, h3⟩
  have H3 := Lib.hid (H2.out.trans h3); clear h3
  go_wp2_with fail
  refine (a_write 3 sB H3.out.disk rfl ⟨by decide, by decide⟩ (by decide) (by decide)).mono ?_
  rintro e w4 ⟨rfl, h4⟩
  have H4 := Lib.hid (H3.out.trans h4); clear h4
  go_wp2_with fail
  refine (a_write 4 sC H4.out.disk rfl ⟨by decide, by decide⟩ (by decide) (by decide)).mono ?_
  rintro e w5 ⟨rfl, h5⟩
  have H5 := Lib.hid (H4.out.trans h5); clear h5
  go_wp2_with fail
  have hs5 : w.heap.size < w5.heap.size := by obtain ⟨vw, h, _⟩ := H5.out.disk.ex; exact h.lt.2
  refine (a_fall (c := 2) [false, true] (H5.out.disk.below (below_alloc (Below.refl _ _) _)) (aw_keep hs5)).mono ?_
  rintro e w6 ⟨rfl, h6⟩
  have H6 := Lib.hid (show Aft w w.heap.size (w.heap.size + 1) w.heap.size (fun k => k < w.heap.size) aw5 w6 from ⟨h6.disk, (H5.out.keep.trans (Keep.of_below (below_alloc (Below.refl _ _) _) (Nat.le_refl _))).trans h6.keep⟩); clear h6 hs5
  go_wp2_with fail
  refine (a_read 3 H6.out.disk rfl ⟨by decide, by decide⟩).mono ?_
  rw [ga.out]
  rintro e w7 ⟨rfl, h7⟩
  have H7 := Lib.hid (H6.out.trans h7); clear h7
  go_wp2_with fail
  refine (a_read 4 H7.out.disk rfl ⟨by decide, by decide⟩).mono ?_
  rw [gc.out]
  rintro e w8 ⟨rfl, h8⟩
  have H8 := Lib.hid (H7.out.trans h8); clear h8
  have za' := za.out
  have ia' := ia.out
  have ic' := ic.out
  go_wp2
  go_ret
  exact ⟨rfl, H8.out.keep.below (Nat.le_refl _) (fun k hk => hk)⟩
#print axioms awake_calls
end Go.Proofs.YtpdnfaggdheneaaDoorS
