/- Forms: Text, List, Num and the laws' awake. -/
import Derived.Test.YtehghdmfdinpjaaDoorFC
namespace Go.Proofs.YtehghdmfdinpjaaDoorF
open Go.RowKit Go.Proofs Go.Proofs.YtehghdmfdinpjaaDoorW.PrintWords Go.Proofs.YtehghdmfdinpjaaDoorW.PrintLast
open Go.Proofs.YtehghdmfdinpjaaDoor.PAll (S24 k24 z24)

set_option maxHeartbeats 1000000 in
set_option maxRecDepth 100000 in
theorem text_calls (w : World) (s : ByteArray) : Calls Tryd.prog 18 #[.string s] w fun e w' => e = .returned (.agg #[.bool false, .string s, .slice none 0 0]) ∧ Below w.heap.size w w' := by
  go_enter Tryd.func18, Tryd.ntmps18
  go_wp2_with (first | ((with_reducible refine gate_dst (N := 2) rfl ?_); refine box_event ?hg (N := 2) ?hd (cs := #[.bool false, .string (⟨#[]⟩ : ByteArray), .slice none 0 0]) (t := 24) ?hr ?_; (case hd => rfl); (case hg => rfl); (case hr => first | (go_simp; done) | (go_simp; rfl)); intro b2 hg2 wb hbox hb2; have HB1 := Lib.hid hb2; have BX := Lib.hid hbox; have G2 := Lib.hid hg2; clear hb2 hbox hg2; have a0 := (blk_cell BX.out 0).trans rfl; have a1 := (blk_cell BX.out 1).trans rfl; have a2 := (blk_cell BX.out 2).trans rfl; have f0 := blk_frozen BX.out 0; have f1 := blk_frozen BX.out 1; have f2 := blk_frozen BX.out 2))
  refine bodyPost_ret (results_cell_row rfl _ _ b2 24 #[.bool false, .string s, .slice none 0 0] (0, 0) _ rfl (heap_set3 BX.out _ _ _) Tryd.underlying24 rfl infoSzF) rfl ?_
  exact ⟨rfl, below_set3 HB1.out (Nat.le_of_eq G2.out.symm) _ _ _⟩
set_option maxHeartbeats 1000000 in
set_option maxRecDepth 100000 in
theorem list_calls (w : World) (A : Option Addr) (n c : Nat) : Calls Tryd.prog 21 #[.slice A n c] w fun e w' => e = .returned (.agg #[.bool true, .string ⟨#[]⟩, .slice A n c]) ∧ Below w.heap.size w w' := by
  go_enter Tryd.func21, Tryd.ntmps21
  go_wp2_with (first | ((with_reducible refine gate_dst (N := 2) rfl ?_); refine box_event ?hg (N := 2) ?hd (cs := #[.bool false, .string (⟨#[]⟩ : ByteArray), .slice none 0 0]) (t := 24) ?hr ?_; (case hd => rfl); (case hg => rfl); (case hr => first | (go_simp; done) | (go_simp; rfl)); intro b2 hg2 wb hbox hb2; have HB1 := Lib.hid hb2; have BX := Lib.hid hbox; have G2 := Lib.hid hg2; clear hb2 hbox hg2; have a0 := (blk_cell BX.out 0).trans rfl; have a1 := (blk_cell BX.out 1).trans rfl; have a2 := (blk_cell BX.out 2).trans rfl; have f0 := blk_frozen BX.out 0; have f1 := blk_frozen BX.out 1; have f2 := blk_frozen BX.out 2))
  refine bodyPost_ret (results_cell_row rfl _ _ b2 24 #[.bool true, .string (⟨#[]⟩ : ByteArray), .slice A n c] (0, 0) _ rfl (heap_set3 BX.out _ _ _) Tryd.underlying24 rfl infoSzF) rfl ?_
  exact ⟨rfl, below_set3 HB1.out (Nat.le_of_eq G2.out.symm) _ _ _⟩
theorem itoa_callsZ (n : Int) (h0 : -9223372036854775808 ≤ n) (h1 : n ≤ 9223372036854775807) {w : World} (h : TabAt w) :
    Calls Tryd.prog 35 #[.int .i64 n] w fun e w' => e = .returned (.string ⟨(Lib.itoa n).toArray⟩) ∧ Below w.heap.size w w' := by
  refine (Tryd.strconv_Itoa n h0 h1 w h).mono ?_
  rintro e w' ⟨rfl, k, os, rfl⟩
  exact ⟨rfl, Lib.below_grow _ w (Nat.le_refl _) k os⟩
set_option maxHeartbeats 1000000 in
set_option maxRecDepth 100000 in
theorem num_calls {w : World} (HT : TabAt w) (n : Int) (h0 : -9223372036854775808 ≤ n) (h1 : n ≤ 9223372036854775807) : Calls Tryd.prog 16 #[.int .i64 n] w fun e w' => e = .returned (.agg #[.bool false, .string ⟨(Lib.itoa n).toArray⟩, .slice none 0 0]) ∧ Below w.heap.size w w' := by
  have H0 := Lib.hid HT
  clear HT
  go_enter Tryd.func16, Tryd.ntmps16
  go_wp2_with (first | ((with_reducible refine gate_dst (N := 2) rfl ?_); refine box_event ?hg (N := 2) ?hd (cs := #[.bool false, .string (⟨#[]⟩ : ByteArray), .slice none 0 0]) (t := 24) ?hr ?_; (case hd => rfl); (case hg => rfl); (case hr => first | (go_simp; done) | (go_simp; rfl)); intro b2 hg2 wb hbox hb2; have HB1 := Lib.hid hb2; have BX := Lib.hid hbox; have G2 := Lib.hid hg2; clear hb2 hbox hg2) | (go_at_call 35; refine (itoa_callsZ n h0 h1 (tab_below H0.out HB1.out)).mono ?_; rintro e w3 ⟨rfl, hb3⟩; have HB3 := Lib.hid (HB1.out.trans (hb3.mono HB1.out.size)); have BX3 := Lib.hid (blk_below BX.out hb3); clear hb3) | (go_at_call 18; refine (text_calls _ _).mono ?_; rintro e w4 ⟨rfl, hb4⟩; have HB4 := Lib.hid (HB3.out.trans (hb4.mono HB3.out.size)); have BX4 := Lib.hid (blk_below BX3.out hb4); clear hb4; have a0 := (blk_cell BX4.out 0).trans rfl; have a1 := (blk_cell BX4.out 1).trans rfl; have a2 := (blk_cell BX4.out 2).trans rfl; have f0 := blk_frozen BX4.out 0; have f1 := blk_frozen BX4.out 1; have f2 := blk_frozen BX4.out 2))
  refine bodyPost_ret (results_cell_row rfl _ _ b2 24 #[.bool false, .string ⟨(Lib.itoa n).toArray⟩, .slice none 0 0] (0, 0) _ rfl (heap_set3 BX4.out _ _ _) Tryd.underlying24 rfl infoSzF) rfl ?_
  exact ⟨rfl, below_set3 HB4.out (Nat.le_of_eq G2.out.symm) _ _ _⟩
/-! ### awake -/
def awakeF : S24 := ⟨true, ⟨#[]⟩, [⟨false, ⟨#[97, 98]⟩, []⟩, ⟨true, ⟨#[]⟩, []⟩, ⟨false, ⟨#[45, 53]⟩, []⟩]⟩
theorem awake_write : writeF awakeF = (⟨#[40, 50, 58, 97, 98, 40, 41, 50, 58, 45, 53, 41]⟩, none) := by
  decide +kernel
theorem nil_C (w : World) : k24.C w none 0 [] := by
  obtain ⟨A, c, h1, h2, h3⟩ := Kd.R_reads (Kd.R_nil k24 24 w 0 (fun _ => True))
  cases h1
  exact h3
theorem awake_C {w : World} {g : Nat} (h : w.heap[g]? = some (.cells #[.bool false, .string ⟨#[97, 98]⟩, .slice none 0 0, .bool true, .string ⟨#[]⟩, .slice none 0 0, .bool false, .string ⟨#[45, 53]⟩, .slice none 0 0] 24 (0, 0))) : k24.C w (some ⟨g, 0, none⟩) 3 awakeF.f2 := by
  refine ⟨rfl, by decide, fun _ => ⟨⟨g, 0, none⟩, rfl, fun j p hp => ?_⟩⟩
  have hz : k24.sz = 3 := rfl
  rw [hz]
  have hc : ∀ i, w.cell? ((⟨g, 0, none⟩ : Addr).add i) = (#[.bool false, .string ⟨#[97, 98]⟩, .slice none 0 0, .bool true, .string ⟨#[]⟩, .slice none 0 0, .bool false, .string ⟨#[45, 53]⟩, .slice none 0 0] : Array Value)[i]? := fun i => by
    have e : (⟨g, 0, none⟩ : Addr).add i = ⟨g, i, none⟩ := by cases i <;> simp [Addr.add]
    rw [e]
    exact blk_cell h i
  match j, hp with
  | 0, hp =>
    cases hp
    refine ⟨_, rfl, Go.Proofs.YtehghdmfdinpjaaDoor.PAll.k24_mk w ⟨false, ⟨#[97, 98]⟩, []⟩ (Nat.le_refl _) (nil_C w), fun i u hu => ?_⟩
    rw [hc]
    match i, hu with
    | 0, hu => exact hu
    | 1, hu => exact hu
    | 2, hu => exact hu
  | 1, hp =>
    cases hp
    refine ⟨_, rfl, Go.Proofs.YtehghdmfdinpjaaDoor.PAll.k24_mk w ⟨true, ⟨#[]⟩, []⟩ (Nat.le_refl _) (nil_C w), fun i u hu => ?_⟩
    rw [hc]
    match i, hu with
    | 0, hu => exact hu
    | 1, hu => exact hu
    | 2, hu => exact hu
  | 2, hp =>
    cases hp
    refine ⟨_, rfl, Go.Proofs.YtehghdmfdinpjaaDoor.PAll.k24_mk w ⟨false, ⟨#[45, 53]⟩, []⟩ (Nat.le_refl _) (nil_C w), fun i u hu => ?_⟩
    rw [hc]
    match i, hu with
    | 0, hu => exact hu
    | 1, hu => exact hu
    | 2, hu => exact hu
theorem awake_num : (Lib.itoa (-5)).toArray = #[45, 53] := by decide +kernel
theorem awake_read : ∃ x, readF 40 ⟨#[40, 50, 58, 97, 98, 40, 41, 50, 58, 45, 53, 41]⟩ = some (x, none) ∧ x.f2.length = 3 := by
  exact ⟨awakeF, (by kernel_rfl), rfl⟩
set_option maxHeartbeats 1000000 in
set_option maxRecDepth 100000 in
theorem awake_calls {w : World} (HT : TabAt w) : Calls Tryd.prog 8 #[] w fun e w' => e = .returned (.bool true) ∧ Below w.heap.size w w' := by
  obtain ⟨x, hx, hx3⟩ := awake_read
  have H0 := Lib.hid HT
  clear HT
  go_enter Tryd.func8, Tryd.ntmps8
  go_wp2_with (first | (go_at_call 18; refine (text_calls _ _).mono ?_; rintro e w1 ⟨rfl, hb1⟩; have HB1 := Lib.hid hb1; clear hb1) | (go_at_call 21; refine (list_calls _ none 0 0).mono ?_; rintro e w2 ⟨rfl, hb2⟩; have HB2 := Lib.hid (HB1.out.trans (hb2.mono HB1.out.size)); clear hb2) | (go_at_call 16; refine (num_calls (tab_below H0.out HB2.out) (-5) (by omega) (by omega)).mono ?_; rintro e w3 ⟨rfl, hb3⟩; have HB3 := Lib.hid (HB2.out.trans (hb3.mono HB2.out.size)); clear hb3; rw [awake_num]) | (go_at_call 21; refine (list_calls _ (some ⟨w3.heap.size, 0, none⟩) 3 3).mono ?_; rintro e w4 ⟨rfl, hb4⟩; have HC4 := Lib.hid (awake_C (blk_below (blk_new w3 _) hb4)); have HB4 := Lib.hid (HB3.out.trans (((below_alloc (Below.refl _ _) _).trans (hb4.mono (below_alloc (Below.refl w3.heap.size w3) _).size)).mono HB3.out.size)); clear hb4) | (go_at_call 10; refine (write_calls (tab_below H0.out HB4.out) awakeF (some ⟨w3.heap.size, 0, none⟩) 3 HC4.out (by decide) (by decide)).mono ?_; rintro e w5 ⟨rfl, hb5⟩; have HB5 := Lib.hid (HB4.out.trans (hb5.mono HB4.out.size)); clear hb5; rw [awake_write]; simp only [errV]) | (go_at_call 14; refine (read_calls 40 _ x none hx).mono ?_; rintro e w6 ⟨v, rfl, ⟨A6, c6, rfl, hl6, _⟩, hb6⟩; have HB6 := Lib.hid (HB5.out.trans (hb6.mono HB5.out.size)); clear hb6; rw [hx3]; simp only [errV]))
  go_ret
  exact ⟨rfl, below_alloc HB6.out _⟩
#print axioms awake_calls
end Go.Proofs.YtehghdmfdinpjaaDoorF
