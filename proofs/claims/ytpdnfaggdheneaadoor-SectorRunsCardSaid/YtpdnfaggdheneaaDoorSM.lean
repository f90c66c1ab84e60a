/- Pending writes made, those that are kept or all. (Printed by mkSM.py.) -/
import Derived.Test.YtpdnfaggdheneaaDoorSK
namespace Go.Proofs.YtpdnfaggdheneaaDoorS
open Go.RowKit Go.Proofs Go.Proofs.YtpdnfaggdheneaaDoorW.PrintWords Go.Proofs.YtpdnfaggdheneaaDoorW.PrintLast

/-- What memory holds of 'keep': it lies apart from the sectors. -/
def KeepAt (w : World) (A : Option Addr) (keep : List Bool) (S : Nat) : Prop := keep.length ≤ 9223372036854775807 ∧ ∀ j, j < keep.length → ∃ ad, A = some ad ∧ ad.block ≠ S ∧ w.cell? (ad.add j) = some (.bool (keep.getD j false))
def MakeEnd (w : World) (B D S : Nat) (sure : List ByteArray) (wait : List Wr) (left : Int) (off : Bool) (keep : List Bool) (all : Bool) (e : Ending) (w' : World) : Prop :=
  e = .returned (.tuple #[]) ∧ Dk w' B D S (.slice none 0 0) (madeL keep all wait 0 sure) [] left off ∧ Keep w w' (fun k => k ≠ D ∧ k ≠ S)
theorem add_blk (a : Addr) (i : Nat) : (a.add i).block = a.block := by unfold Addr.add; split <;> rfl
set_option maxRecDepth 100000 in
set_option maxHeartbeats 4000000 in
theorem make_calls {w : World} {B D S : Nat} {vw : Value} {sure : List ByteArray} {wait : List Wr} {left : Int} {off : Bool} {A : Option Addr} {c : Nat} (keep : List Bool) (all : Bool) (h : Dk w B D S vw sure wait left off) (hat : ∀ x, x ∈ wait → 0 ≤ x.1 ∧ x.1 < sure.length) (hk : KeepAt w A keep S) :
    Calls Tryd.prog 23 #[.pointer (some ⟨D, 0, none⟩), .slice A keep.length c, .bool all] w (MakeEnd w B D S sure wait left off keep all) := by
  obtain ⟨AV, cv, rfl, hcv⟩ : ∃ AV cv, vw = .slice AV wait.length cv ∧ wait.length ≤ cv := by
    rcases h.row.2 with ⟨rfl, hn⟩ | ⟨g, cap, cur, rfl, _, _, hr⟩
    · have hw0 : wait.length = 0 := by omega
      exact ⟨none, 0, by rw [hw0], by omega⟩
    · exact ⟨_, _, rfl, by omega⟩
  have k0 := h.c0
  have k1 := h.c1
  have hkl := hk.1
  have H := Lib.hid h
  have HAT := Lib.hid hat
  have HK := Lib.hid hk
  have K0 := Lib.hid h.c0
  have DS := Lib.hid h.neDS
  clear h hat hk
  obtain ⟨Y, hY⟩ : ∃ Y : Array Value, Y = ((Value.int .i64 0) :: List.replicate 512 (Value.int .u8 0)).toArray := ⟨_, rfl⟩
  have hyz := (zero_of_info infoWr).1
  have hys : Y.size = 513 := by rw [hY]; simp
  rw [← hY] at hyz
  have HYS := Lib.hid hys
  have HYZ := Lib.hid hyz
  have hyne : (Y = #[]) = False := by rw [eq_iff_iff, iff_false]; rintro rfl; simp at hys
  clear hY hys
  go_enter Tryd.func23, Tryd.ntmps23
  go_wp2
  go_loopw [13] (fun v wr => ∃ (j : Nat) (cur : List ByteArray), v = .int .i64 j ∧ j ≤ wait.length ∧ Hid (cur = madeL keep all (wait.take j) 0 sure) ∧ Hid (cur.length = sure.length) ∧ Hid (∀ t, t ∈ cur → t.size = 512) ∧ Hid (wr.heap[S]? = some (.cells (secs cur).toArray 60 (0, 0))) ∧ Hid (Keep w wr (fun k => k ≠ S)))
    (fun v _ => wait.length - (intOf v).toNat)
  case atStart => exact ⟨0, sure, rfl, by omega, Lib.hid (by simp [madeL]), Lib.hid rfl, Lib.hid H.out.len, Lib.hid H.out.secs, Lib.hid (Keep.refl _ _)⟩
  case round =>
    obtain ⟨j, cur, rfl, hj, J2, J3, J4, J5, J6⟩ := hrel
    by_cases hjl : j < wait.length
    · have dj : decide ((j : Int) < (wait.length : Int)) = true := decide_eq_true (by omega)
      obtain ⟨g, cap, hAV, hgB, hgl⟩ := H.out.row.form (by omega)
      injection hAV with hA hcv2 hcv3
      subst hA
      subst hcv3
      have xw := H.out.wsize hjl
      have hgS : g ≠ S := fun e => H.out.neS (by rw [e]; rfl)
      have hrw : wr.rangeAt g (j * 513) (wrC (wait.getD j (0, ByteArray.empty))) := fun q v hv => (J6.out.cell (H.out.wrange hjl q v hv) hgS)
      obtain ⟨x, hx⟩ : ∃ x, x = wait.getD j (0, ByteArray.empty) := ⟨_, rfl⟩
      have hxm : x ∈ wait := by
        rw [hx, List.getD_eq_getElem?_getD, List.getElem?_eq_getElem hjl]
        exact List.getElem_mem _
      rw [← hx] at xw hrw
      have XA := Lib.hid (HAT.out x hxm)
      have HX := Lib.hid hx
      have XW := Lib.hid xw
      have HRW := Lib.hid hrw
      clear hx xw hrw hxm hgS
      have hwj : IntKind.i64.wrap ((j : Int) + 1) = ((j + 1 : Nat) : Int) := by rw [IntWalk.i64_in _ (by have := own_len H.out.row; omega)]; rfl
      have four : (all = true) ∨ (all = false ∧ ∃ ad, A = some ad ∧ j < keep.length ∧ Hid (keep.getD j false = true) ∧ Hid (wr.cell? (ad.add j) = some (.bool true))) ∨ (all = false ∧ ∃ ad, A = some ad ∧ j < keep.length ∧ Hid (keep.getD j false = false) ∧ Hid (wr.cell? (ad.add j) = some (.bool false))) ∨ (all = false ∧ ¬ j < keep.length ∧ Hid (keep.getD j false = false)) := by
        cases all with
        | true => exact .inl rfl
        | false =>
          by_cases hk : j < keep.length
          · obtain ⟨ad, h1, h2, h3⟩ := HK.out.2 j hk
            have h4 := J6.out.cell h3 (by rw [add_blk]; exact h2)
            cases hb : keep.getD j false with
            | true => exact .inr (.inl ⟨rfl, ad, h1, hk, Lib.hid rfl, Lib.hid (by rw [hb] at h4; exact h4)⟩)
            | false => exact .inr (.inr (.inl ⟨rfl, ad, h1, hk, Lib.hid rfl, Lib.hid (by rw [hb] at h4; exact h4)⟩))
          · exact .inr (.inr (.inr ⟨rfl, hk, Lib.hid (by rw [List.getD_eq_getElem?_getD, List.getElem?_eq_none (by omega)]; rfl)⟩))
      rcases four with rfl | ⟨rfl, ad, rfl, hkj, HKT, HKC⟩ | ⟨rfl, ad, rfl, hkj, HKT, HKC⟩ | ⟨rfl, hkj, HKT⟩
      · have hb : true = true := rfl
        go_wp2_with (first | ((with_reducible refine gate_dst (N := 17) rfl ?_); refine wpList_load_mid rfl 62 (.tmp 16) rfl g (j * 513) rfl (wrC x) _ HRW.out Tryd.underlying62 rfl (wr_info XW.out) ?_) | ((with_reducible refine gate_dst (N := 7) rfl ?_); refine box_event ?hg (N := 7) ?hd (cs := Y) (t := 62) ?hr ?_; (case hd => rfl); (case hg => rfl); (case hr => have hyz := HYZ.out; first | (go_simp; done) | (go_simp; rfl)); intro gb7 hg7 w32 hbox7 hb7; have HBX7 := Lib.hid hbox7; have HB7 := Lib.hid hb7; have HG7 := Lib.hid hg7; clear hbox7 hb7 hg7) | ((with_reducible refine gate_store (t := 62) (p := 7) rfl ?_); refine store_whole rfl 62 (.tmp 7) (.tmp 17) rfl gb7 (wrC x).toArray rfl rfl 62 Y HBX7.out (by rw [wr_info XW.out]; simp) (by rw [HYS.out]; simp [wrC_length XW.out]) (wrC_one x) ?_; intro w33 hw33 hk33; have HW33 := Lib.hid hw33; have HK33 := Lib.hid ((Keep.of_below (ok := fun k => k < wr.heap.size) HB7.out (Nat.le_refl _)).trans (hk33.mono (fun k _ h => by rw [HG7.out]; omega))); clear hw33 hk33))
        have KK5 : Keep wr w33.drew (fun k => k < wr.heap.size) := HK33.out.trans (Keep.drew _ _)
        obtain ⟨w35, hw35⟩ : ∃ w35, w35 = w33.drew := ⟨_, rfl⟩
        rw [← hw35] at KK5
        have hx35 : w35.heap[gb7]? = some (.cells (wrC x).toArray 62 (0, 0)) := by rw [hw35]; exact HW33.out
        have HW35 := Lib.hid hw35
        have A0 := Lib.hid (KK5.cell ((J6.out.cell (p := ⟨D, 0, none⟩) K0.out DS.out)) (World.block_lt_of_cell? _ _ (J6.out.cell (p := ⟨D, 0, none⟩) K0.out DS.out)))
        have A1 := Lib.hid (show w35.cell? ⟨gb7, 0, none⟩ = some (.int .i64 x.1) from (cell_of_row w35 gb7 0 _ _ (0, 0) hx35).trans rfl)
        have A2 := Lib.hid (show w35.rangeAt gb7 1 (secC x.2) from fun q v hv => by rw [cell_of_row w35 gb7 _ _ _ (0, 0) hx35, List.getElem?_toArray, Nat.add_comm 1 q]; exact hv)
        have HS35 := Lib.hid (KK5.heap J5.out (Array.getElem?_eq_some_iff.1 J5.out).1)
        have H35 := Lib.hid KK5
        clear KK5 hw35 hx35
        have xa0 := XA.out.1
        have xa1 := XA.out.2
        refine start_ (n := 10) (S := fun w' => w'.cell? ⟨D, 0, none⟩ = some (.slice (some ⟨S, 0, none⟩) sure.length sure.length) ∧ w'.cell? ⟨gb7, 0, none⟩ = some (.int .i64 x.1) ∧ w'.rangeAt gb7 1 (secC x.2)) (ds := [9]) #[false, false, false, false, false, false, false, false, false, false] (by kernel_rfl) rfl rfl ⟨(by rw [← HW35.out]; exact A0.out), (by rw [← HW35.out]; exact A1.out), (by rw [← HW35.out]; exact A2.out)⟩ (fun hHeld => ?_)
        rw [← HW35.out] at hHeld ⊢
        refine pure_ (i := 0) (N := some 31) (v := ?_) (a' := ?_) #[true, false, false, false, false, false, false, false, false, false] rfl rfl (by kernel_rfl) (fun _ _ _ h => h) (Or.inl ⟨by rfl, ?_⟩) ?_ ?_
        rotate_left
        · intro w'
          go_simp
          with_reducible rfl
        rotate_left
        · simp only [Act.put, List.setIfInBounds_toArray, List.set_cons_zero, List.set_cons_succ]
          rfl
        refine pure_ (i := 1) (N := some 32) (v := ?_) (a' := ?_) #[true, true, false, false, false, false, false, false, false, false] rfl rfl (by kernel_rfl) (fun _ _ _ h => h) (Or.inl ⟨by rfl, ?_⟩) ?_ ?_
        rotate_left
        · intro w'
          go_simp
          with_reducible rfl
        rotate_left
        · simp only [Act.put, List.setIfInBounds_toArray, List.set_cons_zero, List.set_cons_succ]
          rfl
        refine pure_ (i := 2) (N := some 33) (v := ?_) (a' := ?_) #[true, true, true, false, false, false, false, false, false, false] rfl rfl (by kernel_rfl) (fun _ _ _ h => h) (Or.inl ⟨by rfl, ?_⟩) ?_ ?_
        rotate_left
        · intro w'
          go_simp
          with_reducible rfl
        rotate_left
        · simp only [Act.put, List.setIfInBounds_toArray, List.set_cons_zero, List.set_cons_succ]
          rfl
        refine pure_ (i := 4) (N := some 35) (v := ?_) (a' := ?_) #[true, true, true, false, true, false, false, false, false, false] rfl rfl (by kernel_rfl) (fun _ _ _ h => h) (Or.inl ⟨by rfl, ?_⟩) ?_ ?_
        rotate_left
        · intro w'
          go_simp
          with_reducible rfl
        rotate_left
        · simp only [Act.put, List.setIfInBounds_toArray, List.set_cons_zero, List.set_cons_succ]
          rfl
        refine pure_ (i := 6) (N := some 37) (v := ?_) (a' := ?_) #[true, true, true, false, true, false, true, false, false, false] rfl rfl (by kernel_rfl) (fun _ _ _ h => h) (Or.inl ⟨by rfl, ?_⟩) ?_ ?_
        rotate_left
        · intro w'
          go_simp
          with_reducible rfl
        rotate_left
        · simp only [Act.put, List.setIfInBounds_toArray, List.set_cons_zero, List.set_cons_succ]
          rfl
        refine take_ (i := 3) (N := some 34) (v := ?_) (a' := ?_) #[true, true, true, true, true, false, true, false, false, false] rfl rfl (by kernel_rfl) (fun _ _ _ h => h) (Or.inl ⟨by rfl, ?_⟩) hHeld ?_ ?_
        rotate_left
        · rintro w' ⟨s0, s1, s2⟩
          go_simp
          with_reducible rfl
        rotate_left
        · simp only [Act.put, List.setIfInBounds_toArray, List.set_cons_zero, List.set_cons_succ]
          rfl
        refine take_ (i := 5) (N := some 36) (v := ?_) (a' := ?_) #[true, true, true, true, true, true, true, false, false, false] rfl rfl (by kernel_rfl) (fun _ _ _ h => h) (Or.inl ⟨by rfl, ?_⟩) hHeld ?_ ?_
        rotate_left
        · rintro w' ⟨s0, s1, s2⟩
          go_simp
          with_reducible rfl
        rotate_left
        · simp only [Act.put, List.setIfInBounds_toArray, List.set_cons_zero, List.set_cons_succ]
          rfl
        refine take_ (i := 7) (N := some 38) (v := .agg (secC x.2).toArray) (a' := ?_) #[true, true, true, true, true, true, true, true, false, false] rfl rfl (by kernel_rfl) (fun _ _ _ h => h) (Or.inl ⟨by rfl, ?_⟩) hHeld ?_ ?_
        · rintro w' ⟨s0, s1, s2⟩
          exact exec_load_mid 60 (.tmp 37) (by rfl) gb7 1 (by rfl) (secC x.2) _ s2 Tryd.underlying60 rfl (sec_info XW.out)
        rotate_left
        · simp only [Act.put, List.setIfInBounds_toArray, List.set_cons_zero, List.set_cons_succ]
          rfl
        refine pure_ (i := 8) (N := some 39) (v := ?_) (a' := ?_) #[true, true, true, true, true, true, true, true, true, false] rfl rfl (by kernel_rfl) (fun _ _ _ h => h) (Or.inl ⟨by rfl, ?_⟩) ?_ ?_
        rotate_left
        · intro w'
          go_simp
          with_reducible rfl
        rotate_left
        · simp only [Act.put, List.setIfInBounds_toArray, List.set_cons_zero, List.set_cons_succ]
          rfl
        refine last_ (i := 9) (N := none) #[true, true, true, true, true, true, true, true, true, true] rfl rfl (by kernel_rfl) (by decide) (fun K hK => ?_)
        refine skip_ (w1 := w35.setCells S (x.1.toNat * 512) (secC x.2)) (by rfl) rfl ?_ ?_
        · exact exec_store_mid 60 (.tmp 39) (.tmp 38) (by rfl) S (x.1.toNat * 512) (secC x.2) (by rfl) (by rfl) (sec_there HS35.out J4.out (by have := XA.out; rw [J3.out]; omega) (by simp [secC_length, XW.out])) (sec_info XW.out) (secC_one x.2)
        refine hK.out _ _ ?_
        clear hK K
        refine done_ (by kernel_rfl) ?_

        go_wp2
        have hput := put_sec HS35.out J4.out XW.out (i := x.1.toNat) (by have := XA.out; rw [J3.out]; omega)
        exact ⟨⟨j + 1, mk1 true x cur, by simp, by omega, Lib.hid (by rw [madeL_step _ _ _ _ hjl, ← HX.out, ← J2.out]; rfl), Lib.hid (by rw [mk1_length]; exact J3.out), Lib.hid (mk1_size J4.out XW.out), Lib.hid hput, Lib.hid (J6.out.trans ((H35.out.mono (fun k hk _ => hk)).trans (setCells_keep S _ (fun h => h rfl) _ _ _)))⟩, by simp [intOf]; omega⟩
      · skip
        go_wp2_with (first | ((with_reducible refine gate_dst (N := 17) rfl ?_); refine wpList_load_mid rfl 62 (.tmp 16) rfl g (j * 513) rfl (wrC x) _ HRW.out Tryd.underlying62 rfl (wr_info XW.out) ?_) | ((with_reducible refine gate_dst (N := 7) rfl ?_); refine box_event ?hg (N := 7) ?hd (cs := Y) (t := 62) ?hr ?_; (case hd => rfl); (case hg => rfl); (case hr => have hyz := HYZ.out; first | (go_simp; done) | (go_simp; rfl)); intro gb7 hg7 w32 hbox7 hb7; have HBX7 := Lib.hid hbox7; have HB7 := Lib.hid hb7; have HG7 := Lib.hid hg7; clear hbox7 hb7 hg7) | ((with_reducible refine gate_store (t := 62) (p := 7) rfl ?_); refine store_whole rfl 62 (.tmp 7) (.tmp 17) rfl gb7 (wrC x).toArray rfl rfl 62 Y HBX7.out (by rw [wr_info XW.out]; simp) (by rw [HYS.out]; simp [wrC_length XW.out]) (wrC_one x) ?_; intro w33 hw33 hk33; have HW33 := Lib.hid hw33; have HK33 := Lib.hid ((Keep.of_below (ok := fun k => k < wr.heap.size) HB7.out (Nat.le_refl _)).trans (hk33.mono (fun k _ h => by rw [HG7.out]; omega))); have kc : w33.cell? (ad.add j) = some (.bool true) := HK33.out.cell HKC.out (World.block_lt_of_cell? _ _ HKC.out); clear hw33 hk33))
        have KK5 : Keep wr w33.drew (fun k => k < wr.heap.size) := HK33.out.trans (Keep.drew _ _)
        obtain ⟨w35, hw35⟩ : ∃ w35, w35 = w33.drew := ⟨_, rfl⟩
        rw [← hw35] at KK5
        have hx35 : w35.heap[gb7]? = some (.cells (wrC x).toArray 62 (0, 0)) := by rw [hw35]; exact HW33.out
        have HW35 := Lib.hid hw35
        have A0 := Lib.hid (KK5.cell ((J6.out.cell (p := ⟨D, 0, none⟩) K0.out DS.out)) (World.block_lt_of_cell? _ _ (J6.out.cell (p := ⟨D, 0, none⟩) K0.out DS.out)))
        have A1 := Lib.hid (show w35.cell? ⟨gb7, 0, none⟩ = some (.int .i64 x.1) from (cell_of_row w35 gb7 0 _ _ (0, 0) hx35).trans rfl)
        have A2 := Lib.hid (show w35.rangeAt gb7 1 (secC x.2) from fun q v hv => by rw [cell_of_row w35 gb7 _ _ _ (0, 0) hx35, List.getElem?_toArray, Nat.add_comm 1 q]; exact hv)
        have HS35 := Lib.hid (KK5.heap J5.out (Array.getElem?_eq_some_iff.1 J5.out).1)
        have H35 := Lib.hid KK5
        clear KK5 hw35 hx35
        have xa0 := XA.out.1
        have xa1 := XA.out.2
        refine start_ (n := 10) (S := fun w' => w'.cell? ⟨D, 0, none⟩ = some (.slice (some ⟨S, 0, none⟩) sure.length sure.length) ∧ w'.cell? ⟨gb7, 0, none⟩ = some (.int .i64 x.1) ∧ w'.rangeAt gb7 1 (secC x.2)) (ds := [9]) #[false, false, false, false, false, false, false, false, false, false] (by kernel_rfl) rfl rfl ⟨(by rw [← HW35.out]; exact A0.out), (by rw [← HW35.out]; exact A1.out), (by rw [← HW35.out]; exact A2.out)⟩ (fun hHeld => ?_)
        rw [← HW35.out] at hHeld ⊢
        refine pure_ (i := 0) (N := some 31) (v := ?_) (a' := ?_) #[true, false, false, false, false, false, false, false, false, false] rfl rfl (by kernel_rfl) (fun _ _ _ h => h) (Or.inl ⟨by rfl, ?_⟩) ?_ ?_
        rotate_left
        · intro w'
          go_simp
          with_reducible rfl
        rotate_left
        · simp only [Act.put, List.setIfInBounds_toArray, List.set_cons_zero, List.set_cons_succ]
          rfl
        refine pure_ (i := 1) (N := some 32) (v := ?_) (a' := ?_) #[true, true, false, false, false, false, false, false, false, false] rfl rfl (by kernel_rfl) (fun _ _ _ h => h) (Or.inl ⟨by rfl, ?_⟩) ?_ ?_
        rotate_left
        · intro w'
          go_simp
          with_reducible rfl
        rotate_left
        · simp only [Act.put, List.setIfInBounds_toArray, List.set_cons_zero, List.set_cons_succ]
          rfl
        refine pure_ (i := 2) (N := some 33) (v := ?_) (a' := ?_) #[true, true, true, false, false, false, false, false, false, false] rfl rfl (by kernel_rfl) (fun _ _ _ h => h) (Or.inl ⟨by rfl, ?_⟩) ?_ ?_
        rotate_left
        · intro w'
          go_simp
          with_reducible rfl
        rotate_left
        · simp only [Act.put, List.setIfInBounds_toArray, List.set_cons_zero, List.set_cons_succ]
          rfl
        refine pure_ (i := 4) (N := some 35) (v := ?_) (a' := ?_) #[true, true, true, false, true, false, false, false, false, false] rfl rfl (by kernel_rfl) (fun _ _ _ h => h) (Or.inl ⟨by rfl, ?_⟩) ?_ ?_
        rotate_left
        · intro w'
          go_simp
          with_reducible rfl
        rotate_left
        · simp only [Act.put, List.setIfInBounds_toArray, List.set_cons_zero, List.set_cons_succ]
          rfl
        refine pure_ (i := 6) (N := some 37) (v := ?_) (a' := ?_) #[true, true, true, false, true, false, true, false, false, false] rfl rfl (by kernel_rfl) (fun _ _ _ h => h) (Or.inl ⟨by rfl, ?_⟩) ?_ ?_
        rotate_left
        · intro w'
          go_simp
          with_reducible rfl
        rotate_left
        · simp only [Act.put, List.setIfInBounds_toArray, List.set_cons_zero, List.set_cons_succ]
          rfl
        refine take_ (i := 3) (N := some 34) (v := ?_) (a' := ?_) #[true, true, true, true, true, false, true, false, false, false] rfl rfl (by kernel_rfl) (fun _ _ _ h => h) (Or.inl ⟨by rfl, ?_⟩) hHeld ?_ ?_
        rotate_left
        · rintro w' ⟨s0, s1, s2⟩
          go_simp
          with_reducible rfl
        rotate_left
        · simp only [Act.put, List.setIfInBounds_toArray, List.set_cons_zero, List.set_cons_succ]
          rfl
        refine take_ (i := 5) (N := some 36) (v := ?_) (a' := ?_) #[true, true, true, true, true, true, true, false, false, false] rfl rfl (by kernel_rfl) (fun _ _ _ h => h) (Or.inl ⟨by rfl, ?_⟩) hHeld ?_ ?_
        rotate_left
        · rintro w' ⟨s0, s1, s2⟩
          go_simp
          with_reducible rfl
        rotate_left
        · simp only [Act.put, List.setIfInBounds_toArray, List.set_cons_zero, List.set_cons_succ]
          rfl
        refine take_ (i := 7) (N := some 38) (v := .agg (secC x.2).toArray) (a' := ?_) #[true, true, true, true, true, true, true, true, false, false] rfl rfl (by kernel_rfl) (fun _ _ _ h => h) (Or.inl ⟨by rfl, ?_⟩) hHeld ?_ ?_
        · rintro w' ⟨s0, s1, s2⟩
          exact exec_load_mid 60 (.tmp 37) (by rfl) gb7 1 (by rfl) (secC x.2) _ s2 Tryd.underlying60 rfl (sec_info XW.out)
        rotate_left
        · simp only [Act.put, List.setIfInBounds_toArray, List.set_cons_zero, List.set_cons_succ]
          rfl
        refine pure_ (i := 8) (N := some 39) (v := ?_) (a' := ?_) #[true, true, true, true, true, true, true, true, true, false] rfl rfl (by kernel_rfl) (fun _ _ _ h => h) (Or.inl ⟨by rfl, ?_⟩) ?_ ?_
        rotate_left
        · intro w'
          go_simp
          with_reducible rfl
        rotate_left
        · simp only [Act.put, List.setIfInBounds_toArray, List.set_cons_zero, List.set_cons_succ]
          rfl
        refine last_ (i := 9) (N := none) #[true, true, true, true, true, true, true, true, true, true] rfl rfl (by kernel_rfl) (by decide) (fun K hK => ?_)
        refine skip_ (w1 := w35.setCells S (x.1.toNat * 512) (secC x.2)) (by rfl) rfl ?_ ?_
        · exact exec_store_mid 60 (.tmp 39) (.tmp 38) (by rfl) S (x.1.toNat * 512) (secC x.2) (by rfl) (by rfl) (sec_there HS35.out J4.out (by have := XA.out; rw [J3.out]; omega) (by simp [secC_length, XW.out])) (sec_info XW.out) (secC_one x.2)
        refine hK.out _ _ ?_
        clear hK K
        refine done_ (by kernel_rfl) ?_

        go_wp2
        have hput := put_sec HS35.out J4.out XW.out (i := x.1.toNat) (by have := XA.out; rw [J3.out]; omega)
        exact ⟨⟨j + 1, mk1 true x cur, by simp, by omega, Lib.hid (by rw [madeL_step _ _ _ _ hjl, ← HX.out, ← J2.out]; rw [HKT.out]; rfl), Lib.hid (by rw [mk1_length]; exact J3.out), Lib.hid (mk1_size J4.out XW.out), Lib.hid hput, Lib.hid (J6.out.trans ((H35.out.mono (fun k hk _ => hk)).trans (setCells_keep S _ (fun h => h rfl) _ _ _)))⟩, by simp [intOf]; omega⟩
      · skip
        go_wp2_with (first | ((with_reducible refine gate_dst (N := 17) rfl ?_); refine wpList_load_mid rfl 62 (.tmp 16) rfl g (j * 513) rfl (wrC x) _ HRW.out Tryd.underlying62 rfl (wr_info XW.out) ?_) | ((with_reducible refine gate_dst (N := 7) rfl ?_); refine box_event ?hg (N := 7) ?hd (cs := Y) (t := 62) ?hr ?_; (case hd => rfl); (case hg => rfl); (case hr => have hyz := HYZ.out; first | (go_simp; done) | (go_simp; rfl)); intro gb7 hg7 w32 hbox7 hb7; have HBX7 := Lib.hid hbox7; have HB7 := Lib.hid hb7; have HG7 := Lib.hid hg7; clear hbox7 hb7 hg7) | ((with_reducible refine gate_store (t := 62) (p := 7) rfl ?_); refine store_whole rfl 62 (.tmp 7) (.tmp 17) rfl gb7 (wrC x).toArray rfl rfl 62 Y HBX7.out (by rw [wr_info XW.out]; simp) (by rw [HYS.out]; simp [wrC_length XW.out]) (wrC_one x) ?_; intro w33 hw33 hk33; have HW33 := Lib.hid hw33; have HK33 := Lib.hid ((Keep.of_below (ok := fun k => k < wr.heap.size) HB7.out (Nat.le_refl _)).trans (hk33.mono (fun k _ h => by rw [HG7.out]; omega))); have kc : w33.cell? (ad.add j) = some (.bool false) := HK33.out.cell HKC.out (World.block_lt_of_cell? _ _ HKC.out); clear hw33 hk33))
        exact ⟨⟨j + 1, cur, by simp, by omega, Lib.hid (by rw [madeL_step _ _ _ _ hjl, ← HX.out, ← J2.out]; rw [HKT.out]; rfl), J3, J4, Lib.hid (HK33.out.heap J5.out (Array.getElem?_eq_some_iff.1 J5.out).1), Lib.hid (J6.out.trans (HK33.out.mono (fun k hk _ => hk)))⟩, by simp [intOf]; omega⟩
      · skip
        go_wp2_with (first | ((with_reducible refine gate_dst (N := 17) rfl ?_); refine wpList_load_mid rfl 62 (.tmp 16) rfl g (j * 513) rfl (wrC x) _ HRW.out Tryd.underlying62 rfl (wr_info XW.out) ?_) | ((with_reducible refine gate_dst (N := 7) rfl ?_); refine box_event ?hg (N := 7) ?hd (cs := Y) (t := 62) ?hr ?_; (case hd => rfl); (case hg => rfl); (case hr => have hyz := HYZ.out; first | (go_simp; done) | (go_simp; rfl)); intro gb7 hg7 w32 hbox7 hb7; have HBX7 := Lib.hid hbox7; have HB7 := Lib.hid hb7; have HG7 := Lib.hid hg7; clear hbox7 hb7 hg7) | ((with_reducible refine gate_store (t := 62) (p := 7) rfl ?_); refine store_whole rfl 62 (.tmp 7) (.tmp 17) rfl gb7 (wrC x).toArray rfl rfl 62 Y HBX7.out (by rw [wr_info XW.out]; simp) (by rw [HYS.out]; simp [wrC_length XW.out]) (wrC_one x) ?_; intro w33 hw33 hk33; have HW33 := Lib.hid hw33; have HK33 := Lib.hid ((Keep.of_below (ok := fun k => k < wr.heap.size) HB7.out (Nat.le_refl _)).trans (hk33.mono (fun k _ h => by rw [HG7.out]; omega))); clear hw33 hk33))
        exact ⟨⟨j + 1, cur, by simp, by omega, Lib.hid (by rw [madeL_step _ _ _ _ hjl, ← HX.out, ← J2.out]; rw [HKT.out]; rfl), J3, J4, Lib.hid (HK33.out.heap J5.out (Array.getElem?_eq_some_iff.1 J5.out).1), Lib.hid (J6.out.trans (HK33.out.mono (fun k hk _ => hk)))⟩, by simp [intOf]; omega⟩
    · have dj : decide ((j : Int) < (wait.length : Int)) = false := decide_eq_false (by omega)
      obtain rfl : j = wait.length := by omega
      have hdk : Dk wr B D S (.slice AV wait.length cv) sure wait left off → True := fun _ => trivial
      have k1' : wr.cell? ⟨D, 1, none⟩ = some (.slice AV wait.length cv) := J6.out.cell k1 DS.out
      have f1' : wr.frozen? ⟨D, 1, none⟩ = false := by
        have := J6.out.heap H.out.disk DS.out
        simp [World.frozen?, this]
      go_wp2
      go_end0
      have e : cur = madeL keep all wait 0 sure := by have := J2.out; rw [List.take_length] at this; exact this
      refine ⟨rfl, ?_, (J6.out.mono (fun k _ h => h.2)).trans (Keep.setCell _ _ _ (fun h => h.1 rfl))⟩
      rw [← e]
      refine setWait (vw := .slice AV wait.length cv) ?_ J5.out J4.out H.out.bD H.out.bS H.out.neDS ⟨by simp [wrs], .inl ⟨rfl, rfl⟩⟩ (by simp [Value.ownBlock]) (by simp [Value.ownBlock]) (fun x hx => by cases hx)
      rw [J3.out]
      exact J6.out.heap H.out.disk DS.out
#print axioms make_calls
end Go.Proofs.YtpdnfaggdheneaaDoorS
