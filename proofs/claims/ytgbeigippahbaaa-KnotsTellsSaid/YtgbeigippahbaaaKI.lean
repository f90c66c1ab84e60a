/- Knots: pushing to the heap and popping from it. (Printed by mkKI.py.) -/
import Derived.Test.YtgbeigippahbaaaKH
import Derived.Stop.Asserts
namespace Go.Proofs.YtgbeigippahbaaaK
open Go.RowKit Go.Proofs Go.Proofs.YtgbeigippahbaaaW.PrintWords Go.Proofs.YtgbeigippahbaaaW.PrintLast

def PushEnd (w : World) (B R : Nat) (v : Value) (xs : List Nat) (e : Ending) (w' : World) : Prop :=
  e = .returned (.tuple #[]) ∧ ∃ v', RAt w' B R v' xs ∧ RStep w w' R v v'
theorem slice_ready (y : Nat) (W : World) : (Instr.buildSlice 36 1 #[(0, iv y)]).run Try.prog W = .ok (.slice (some ⟨W.heap.size, 0, none⟩) 1 1) (W.alloc (.cells [iv y].toArray 3)) := by
  obtain ⟨i0, hi, hz⟩ := Option.map_eq_some_iff.1 infoInt
  injection hz with hz0 hz
  injection hz with hz1 hz2
  refine run_buildSlice W 36 3 1 _ [iv y].toArray i0 _ Try.underlying36 hi hz0 (by rw [hz1]; omega) (by rw [hz1]; omega) ?_
  rw [hz1]
  exact Great.fill_flat [iv y] _ (fun v hv => by rw [List.mem_singleton.1 hv]; rfl) (by simp)
theorem assert_int (x : Nat) (w : World) : (Instr.typeAssert (.iface 3 (.int .i64 (x : Int))) 20 3 false).run Try.prog w = .ok (.int .i64 (x : Int)) w := by kernel_rfl
theorem heap_one {w : World} {R : Nat} {v u : Value} (h : w.heap[R]? = some (.cells #[v] 36 (0, 0))) : (w.setCell ⟨R, 0, none⟩ u).heap[R]? = some (.cells #[u] 36 (0, 0)) := heap_set h u
/-- The list has grown, and is stored. -/
theorem RAt.grown {w w' : World} {B R : Nat} {v v' : Value} {xs ys : List Nat} (h : RAt w B R v xs) (hg : w.grownBy w' v.ownBlock) (ho : w'.ownsRow B 3 1 v' ys.length (ys.map iv)) (hat : v'.ownBlock = v.ownBlock ∨ ∃ k, v'.ownBlock = some k ∧ w.heap.size ≤ k) :
    RAt (w'.setCell ⟨R, 0, none⟩ v') B R v' ys ∧ RStep w (w'.setCell ⟨R, 0, none⟩ v') R v v' := by
  have hR : w'.heap[R]? = some (.cells #[v] 36 (0, 0)) := (hg.block R (Array.getElem?_eq_some_iff.1 h.cell).1 (fun e => h.ne e.symm)).trans h.cell
  have hne : v'.ownBlock ≠ some R := fun e => by
    rcases hat with hat | ⟨k, hk, hle⟩
    · exact h.ne (hat ▸ e)
    · rw [hk] at e
      injection e with e
      have := (Array.getElem?_eq_some_iff.1 h.cell).1
      omega
  exact ⟨⟨heap_one hR, own_keep ho (fun k hk => Below.heap_setCell _ _ _ _ (fun e => hne (by rw [hk, e]))), hne, h.base⟩, ⟨((Keep.of_grown hg).mono (fun k _ ho => fun e => ho.2 e)).trans (Keep.setCell _ _ _ (fun ho => ho.1 rfl)), hat⟩⟩
set_option maxRecDepth 100000 in
theorem mpush_calls {w : World} {B R x : Nat} {v : Value} {xs : List Nat} (h : RAt w B R v xs) (hs : xs.length ≤ 1000000) :
    Calls Try.prog 40 #[.pointer (some ⟨R, 0, none⟩), .iface 3 (.int .i64 (x : Int))] w (PushEnd w B R v (xs ++ [x])) := by
  obtain ⟨w5, hw5⟩ : ∃ w5, w5 = w.drew := ⟨_, rfl⟩
  have h5 : RAt w5 B R v xs := by rw [hw5]; exact ⟨h.cell, h.own, h.ne, h.base⟩
  have s5 : RStep w w5 R v v := by rw [hw5]; exact ⟨Keep.drew _ _, .inl rfl⟩
  have A0 := Lib.hid (show w5.cell? ⟨R, 0, none⟩ = some v from load_ready h5.cell)
  have AR := Lib.hid h5.own
  have AB := Lib.hid (show B ≤ w5.heap.size from Nat.le_trans h5.base (Nat.le_of_lt (Array.getElem?_eq_some_iff.1 h5.cell).1))
  have FR := Lib.hid (show w5.frozen? ⟨R, 0, none⟩ = false from frozen_at h5.cell)
  have GR := Lib.hid (show v.ownBlock ≠ some R from h5.ne)
  have RL := Lib.hid (show R < w5.heap.size from (Array.getElem?_eq_some_iff.1 h5.cell).1)
  have H5 := Lib.hid h5
  have S5 := Lib.hid s5
  have HS := Lib.hid hs
  have HW5 := Lib.hid hw5
  have ta := assert_int x
  clear hw5 h5 s5 h hs
  go_enter Try.func40, Try.ntmps40
  refine start_ (n := 10) (S := fun w' => w'.cell? ⟨R, 0, none⟩ = some v) (ds := [9]) #[false, false, false, false, false, false, false, false, false, false] (by kernel_rfl) rfl rfl ((by rw [← HW5.out]; exact A0.out)) (fun hHeld => ?_)
  rw [← HW5.out] at hHeld ⊢
  refine pure_ (i := 0) (N := some 4) (v := ?_) (a' := ?_) #[true, false, false, false, false, false, false, false, false, false] rfl rfl (by kernel_rfl) (fun _ _ _ h => h) (Or.inl ⟨by rfl, ?_⟩) ?_ ?_
  rotate_left
  · intro w'
    go_simp
    with_reducible rfl
  rotate_left
  · simp only [Act.put, List.setIfInBounds_toArray, List.set_cons_zero, List.set_cons_succ]
    rfl
  refine pure_ (i := 1) (N := some 5) (v := ?_) (a' := ?_) #[true, true, false, false, false, false, false, false, false, false] rfl rfl (by kernel_rfl) (fun _ _ _ h => h) (Or.inl ⟨by rfl, ?_⟩) ?_ ?_
  rotate_left
  · intro w'
    go_simp
    with_reducible rfl
  rotate_left
  · simp only [Act.put, List.setIfInBounds_toArray, List.set_cons_zero, List.set_cons_succ]
    rfl
  refine pure_ (i := 2) (N := some 6) (v := ?_) (a' := ?_) #[true, true, true, false, false, false, false, false, false, false] rfl rfl (by kernel_rfl) (fun _ _ _ h => h) (Or.inl ⟨by rfl, ?_⟩) ?_ ?_
  rotate_left
  · intro w'
    go_simp
    with_reducible rfl
  rotate_left
  · simp only [Act.put, List.setIfInBounds_toArray, List.set_cons_zero, List.set_cons_succ]
    rfl
  refine pure_ (i := 4) (N := some 8) (v := ?_) (a' := ?_) #[true, true, true, false, true, false, false, false, false, false] rfl rfl (by kernel_rfl) (fun _ _ _ h => h) (Or.inl ⟨by rfl, ?_⟩) ?_ ?_
  rotate_left
  · intro w'
    go_simp
    with_reducible rfl
  rotate_left
  · simp only [Act.put, List.setIfInBounds_toArray, List.set_cons_zero, List.set_cons_succ]
    rfl
  refine pure_ (i := 5) (N := some 9) (v := ?_) (a' := ?_) #[true, true, true, false, true, true, false, false, false, false] rfl rfl (by kernel_rfl) (fun _ _ _ h => h) (Or.inl ⟨by rfl, ?_⟩) ?_ ?_
  rotate_left
  · intro w'
    go_simp
    with_reducible rfl
  rotate_left
  · simp only [Act.put, List.setIfInBounds_toArray, List.set_cons_zero, List.set_cons_succ]
    rfl
  refine take_ (i := 3) (N := some 7) (v := ?_) (a' := ?_) #[true, true, true, true, true, true, false, false, false, false] rfl rfl (by kernel_rfl) (fun _ _ _ h => h) (Or.inl ⟨by rfl, ?_⟩) hHeld ?_ ?_
  rotate_left
  · intro w' s0
    go_simp
    with_reducible rfl
  rotate_left
  · simp only [Act.put, List.setIfInBounds_toArray, List.set_cons_zero, List.set_cons_succ]
    rfl
  refine one_ (i := 6) (N := some 10) #[true, true, true, true, true, true, true, false, false, false] rfl rfl (by kernel_rfl) (by decide) (fun K hK => ?_)
  refine value_ (v := .slice (some ⟨w5.heap.size, 0, none⟩) 1 1) (w1 := w5.alloc (.cells [iv x].toArray 3)) (by rfl) rfl (exec_bs rfl [(0, iv x)] (by simp only [List.map_toArray, List.map_cons, List.map_nil]; rfl) (slice_ready x w5)) ?_
  refine hK.out _ _ (pw_cell_below (below_alloc (Below.refl _ _) _) A0.out) (fun hHeld => ?_)
  clear hK K
  refine norm_ (a' := ?_) ?_ ?_
  rotate_left
  · show Act.put _ (some 10) _ = _
    simp only [Act.put, List.setIfInBounds_toArray, List.set_cons_zero, List.set_cons_succ]
    rfl
  refine one_ (i := 7) (N := some 11) #[true, true, true, true, true, true, true, true, false, false] rfl rfl (by kernel_rfl) (by decide) (fun K hK => ?_)
  refine step_append_cells (w0 := w5) B (by rfl) (.tmp 7) (.tmp 10) 36 3 _ 1 8 rfl Try.underlying36 infoInt rfl (by omega) (by omega) v xs.length (xs.map iv) [iv x] rfl rfl rfl (by simp [Value.oneCell']) AR.out (Below.refl _ _) AB.out (by have := HS.out; omega) ?_
  intro v1 w6 hown hbe hg hat
  have HOWN := Lib.hid hown; have HG := Lib.hid hg; have HAT := Lib.hid hat
  have b0 := HG.out.cell_keep A0.out GR.out
  have f2 : w6.frozen? ⟨R, 0, none⟩ = false := (World.frozen?_of_block (a := ⟨R, 0, none⟩) (HG.out.block R RL.out (fun e => GR.out e.symm))).trans FR.out
  obtain ⟨gv, cv, rfl, hgv1, hgv2⟩ := hown.form (by omega)
  clear hown hbe hg hat
  refine hK.out _ _ (b0) (fun hHeld => ?_)
  clear hK K
  refine norm_ (a' := ?_) ?_ ?_
  rotate_left
  · show Act.put _ (some 11) _ = _
    simp only [Act.put, List.setIfInBounds_toArray, List.set_cons_zero, List.set_cons_succ]
    rfl
  refine pure_ (i := 8) (N := some 12) (v := ?_) (a' := ?_) #[true, true, true, true, true, true, true, true, true, false] rfl rfl (by kernel_rfl) (fun _ _ _ h => h) (Or.inl ⟨by rfl, ?_⟩) ?_ ?_
  rotate_left
  · intro w'
    go_simp
    with_reducible rfl
  rotate_left
  · simp only [Act.put, List.setIfInBounds_toArray, List.set_cons_zero, List.set_cons_succ]
    rfl
  refine last_ (i := 9) (N := none) #[true, true, true, true, true, true, true, true, true, true] rfl rfl (by kernel_rfl) (by decide) (fun K hK => ?_)
  refine skip_ (w1 := ?_) (by rfl) rfl ?_ ?_
  rotate_left
  · go_simp
    rfl
  refine hK.out _ _ ?_
  clear hK K
  refine done_ (by kernel_rfl) ?_

  go_end0
  obtain ⟨r1, r2⟩ := RAt.grown (ys := xs ++ [x]) H5.out HG.out (by rw [List.length_append, List.map_append]; exact HOWN.out) HAT.out
  exact ⟨rfl, _, r1, S5.out.trans r2⟩
def MpopEnd (w : World) (B R : Nat) (v : Value) (xs : List Nat) (n : Nat) (e : Ending) (w' : World) : Prop :=
  e = .returned (.iface 3 (.int .i64 (at0 xs n : Int))) ∧ ∃ v', RAt w' B R v' (xs.take n) ∧ RStep w w' R v v'
set_option maxRecDepth 100000 in
theorem mpop_calls {w : World} {B R n : Nat} {v : Value} {xs : List Nat} (h : RAt w B R v xs) (hn : xs.length = n + 1) (hs : xs.length ≤ 1000001) :
    Calls Try.prog 39 #[.pointer (some ⟨R, 0, none⟩)] w (MpopEnd w B R v xs n) := by
  obtain ⟨g, c, rfl, hgR⟩ := h.form (by omega)
  obtain ⟨m, hm⟩ : ∃ m, m = xs.length := ⟨_, rfl⟩
  have hown := h.own
  rw [← hm] at hown h hs hn
  have hcap := (own_cap hown).1
  have hw : IntKind.i64.wrap ((m : Int) - 1) = (n : Int) := by rw [IntWalk.i64_in _ (by omega)]; omega
  have hnm : n < m := by omega
  have c1 := own_at hown hnm hm.symm
  obtain ⟨x, hx⟩ : ∃ x, x = at0 xs n := ⟨_, rfl⟩
  rw [← hx] at c1
  have c0 := load_ready h.cell
  have f0 : w.frozen? ⟨R, 0, none⟩ = false := frozen_at h.cell
  have HX := Lib.hid hx
  have HM := Lib.hid hm
  have HO := Lib.hid hown
  have H := Lib.hid h
  clear hx hm hn hown h
  go_enter Try.func39, Try.ntmps39
  go_wp2_with fail
  go_ret
  have hle : n ≤ xs.length := by rw [← HM.out]; omega
  have ht : (xs.take n).length = n := by rw [List.length_take]; omega
  refine ⟨by rw [HX.out]; rfl, .slice (some ⟨g, 0, none⟩) n c, ⟨heap_one H.out.cell, ?_, H.out.ne, H.out.base⟩, ⟨Keep.setCell _ _ _ (fun ho => ho.1 rfl), .inl rfl⟩⟩
  rw [ht, List.map_take]
  exact own_keep (own_take HO.out (by omega)) (fun k hk => Below.heap_setCell _ _ _ _ (fun e => H.out.ne (by have e' : k = R := e; rw [← e']; exact hk)))
def HpushEnd (w : World) (B R : Nat) (v : Value) (xs : List Nat) (x : Nat) (e : Ending) (w' : World) : Prop :=
  e = .returned (.tuple #[]) ∧ ∃ v' ys, RAt w' B R v' ys ∧ ys.Perm (xs ++ [x]) ∧ Hp (at0 ys) ys.length ∧ RStep w w' R v v'
set_option maxRecDepth 100000 in
theorem hpush_calls {w : World} {B R x : Nat} {v : Value} {xs : List Nat} (h : RAt w B R v xs) (hp : Hp (at0 xs) xs.length) (hs : xs.length ≤ 1000000) :
    Calls Try.prog 15 #[hv R, .iface 3 (.int .i64 (x : Int))] w (HpushEnd w B R v xs x) := by
  have n1 := nil_push ⟨R, 0, none⟩
  have n2 := nil_len ⟨R, 0, none⟩
  have m1 := meth_push ⟨R, 0, none⟩
  have H := Lib.hid h
  have HP := Lib.hid hp
  obtain ⟨m, hm⟩ : ∃ m, m = xs.length := ⟨_, rfl⟩
  obtain ⟨m1, hm1⟩ : ∃ m1, m1 = m + 1 := ⟨_, rfl⟩
  have hw : IntKind.i64.wrap ((m1 : Int) - 1) = (m : Int) := by rw [IntWalk.i64_in _ (by omega)]; omega
  have hl : (xs ++ [x]).length = m1 := by rw [List.length_append, ← hm, hm1]; rfl
  have hm1b : m1 ≤ 9223372036854775807 := by omega
  have hm1p : 0 < m1 := by omega
  have HM := Lib.hid (show m < (xs ++ [x]).length by rw [hl]; omega)
  have HL := Lib.hid hl
  have HU := Lib.hid (show UpI (at0 (xs ++ [x])) (xs ++ [x]).length m by
    have := hp_snoc x hp
    rw [← hm] at this
    rw [hl, hm1]
    exact this)
  have HS := Lib.hid hs
  clear h hp hs hl hm hm1
  go_enter Try.func15, Try.ntmps15
  go_wp2_with (first | (go_at_call 40; refine (mpush_calls H.out HS.out).mono ?_; rintro e w1 ⟨rfl, v1, hr1, hs1⟩; have HR1 := Lib.hid hr1; have HS1 := Lib.hid hs1; obtain ⟨g1, c1, rfl, _⟩ := hr1.form (by rw [HL.out]; exact hm1p); rw [HL.out] at HR1 HS1; have m2 := meth_len HR1.out.cell; clear hr1 hs1) | (go_at_call 16; refine (len_calls hm1b).mono ?_; rintro e w2 ⟨rfl, rfl⟩) | (go_at_call 20; refine (up_calls HR1.out HM.out HU.out).mono ?_; rintro e w3 ⟨rfl, ys, q1, q2, q3, q4⟩; have HQ := Lib.hid q1; have HQ2 := Lib.hid q2; have HQ3 := Lib.hid q3; have HQ4 := Lib.hid q4; clear q1 q2 q3 q4))
  go_end0
  exact ⟨rfl, _, ys, HQ.out, HQ2.out, by rw [HQ2.out.length_eq]; exact HQ3.out, HS1.out.trans HQ4.out⟩
def HpopEnd (w : World) (B R : Nat) (v : Value) (xs : List Nat) (e : Ending) (w' : World) : Prop :=
  ∃ m : Nat, e = .returned (.iface 3 (.int .i64 (m : Int))) ∧ ∃ v' ys, RAt w' B R v' ys ∧ xs.Perm (m :: ys) ∧ (∀ y, y ∈ xs → m ≤ y) ∧ Hp (at0 ys) ys.length ∧ RStep w w' R v v'
set_option maxRecDepth 100000 in
theorem hpop_calls {w : World} {B R : Nat} {v : Value} {xs : List Nat} (h : RAt w B R v xs) (hp : Hp (at0 xs) xs.length) (hpos : 0 < xs.length) (hs : xs.length ≤ 1000000) :
    Calls Try.prog 17 #[hv R] w (HpopEnd w B R v xs) := by
  obtain ⟨g, c, rfl, hgR⟩ := h.form hpos
  obtain ⟨n, hn⟩ : ∃ n, xs.length = n + 1 := ⟨xs.length - 1, by omega⟩
  obtain ⟨m, hm⟩ : ∃ m, m = xs.length := ⟨_, rfl⟩
  have n1 := nil_swap ⟨R, 0, none⟩
  have n2 := nil_len ⟨R, 0, none⟩
  have n3 := nil_pop ⟨R, 0, none⟩
  have m1 := meth_pop ⟨R, 0, none⟩
  have m2 := meth_len h.cell
  have m3 := meth_swap h.cell
  have hown := h.own
  rw [← hm] at hown h m2 m3 ⊢
  have hmn : m = n + 1 := by omega
  have hw : IntKind.i64.wrap ((m : Int) - 1) = (n : Int) := by rw [IntWalk.i64_in _ (by omega)]; omega
  have h0m : 0 < m := by omega
  have hnm : n < m := by omega
  have hmb : m ≤ 9223372036854775807 := by omega
  have H := Lib.hid h
  have HO := Lib.hid hown
  have HP := Lib.hid hp
  have HM := Lib.hid hm
  have HN := Lib.hid hn
  have HS := Lib.hid hs
  have hz : (swL xs 0 n).length = m := by rw [swL_len, ← hm]
  have HZ := Lib.hid hz
  have HZ1 := Lib.hid (show n < (swL xs 0 n).length by rw [hz]; omega)
  have HZ2 := Lib.hid (show (swL xs 0 n).length ≤ 1000000 by rw [hz]; omega)
  have HD := Lib.hid (hp_swap hn hp)
  clear h hown hp hm hn hs hz hmn hpos
  go_enter Try.func17, Try.ntmps17
  go_wp2_with (first | (go_at_call 16; refine (len_calls hmb).mono ?_; rintro e w2 ⟨rfl, rfl⟩) | (go_at_call 41; refine (swap_calls (i := 0) HO.out HM.out.symm h0m hnm).mono ?_; rintro e w1 ⟨rfl, hk, ho⟩; have HSW := Lib.hid (RAt.swapped (ys := swL xs 0 n) (by rw [← HM.out]; exact H.out) hk (by rw [← HM.out]; exact ho) (swL_len _ _ _)); clear hk ho) | (go_at_call 21; refine (down_calls HSW.out.1 HZ1.out HZ2.out HD.out).mono ?_; rintro e w3 ⟨⟨b, rfl⟩, ys, q1, q2, q3, q4, q5⟩; have HQ := Lib.hid q1; have HQ2 := Lib.hid q2; have HQ3 := Lib.hid q3; have HQ4 := Lib.hid q4; have HQ5 := Lib.hid q5; clear q1 q2 q3 q4 q5) | (go_at_call 39; refine (mpop_calls (n := n) HQ.out (by rw [HQ2.out.length_eq, swL_len, HN.out]) (by rw [HQ2.out.length_eq]; have := HZ2.out; omega)).mono ?_; rintro e w4 ⟨rfl, v4, q6, q7⟩; have HQ6 := Lib.hid q6; have HQ7 := Lib.hid q7; clear q6 q7))
  go_ret
  have hyl : ys.length = n + 1 := by rw [HQ2.out.length_eq, swL_len, HN.out]
  have e0 : at0 ys n = at0 xs 0 := by rw [HQ3.out, at0_swL (by rw [HN.out]; omega) (by rw [HN.out]; omega), sw_j]
  have hpm : xs.Perm ys := (swL_perm (xs := xs) (i := 0) (j := n) (by rw [HN.out]; omega) (by rw [HN.out]; omega)).symm.trans HQ2.out.symm
  refine ⟨at0 ys n, rfl, v4, ys.take n, HQ6.out, ?_, fun y hy => ?_, hp_take (by omega) HQ4.out, by have := (HSW.out.2.trans HQ5.out).trans HQ7.out; rw [← HM.out] at this; exact this⟩
  · refine hpm.trans ?_
    have := split_last hyl
    exact (List.Perm.of_eq this).trans (List.perm_append_comm)
  · obtain ⟨k, hk, rfl⟩ := mem_getD hy
    rw [e0]
    exact hp_min HP.out k hk
#print axioms hpush_calls
#print axioms hpop_calls
end Go.Proofs.YtgbeigippahbaaaK
