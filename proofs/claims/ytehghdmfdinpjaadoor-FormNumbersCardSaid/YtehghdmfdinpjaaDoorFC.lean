/- Forms: count and Small of the laws. -/
import Derived.Test.YtehghdmfdinpjaaDoorFR
namespace Go.Proofs.YtehghdmfdinpjaaDoorF
open Go.RowKit Go.Proofs Go.Proofs.YtehghdmfdinpjaaDoorW.PrintWords Go.Proofs.YtehghdmfdinpjaaDoorW.PrintLast
open Go.Proofs.YtehghdmfdinpjaaDoor.PAll (S24 k24 z24)

mutual
/-- count: whether it goes on, and the two sums. -/
def cntF : S24 → Nat → Nat → Nat → Bool × Nat × Nat
  | ⟨_, t, is⟩, n, b, d => if 3000 < n + 1 ∨ 80000 < b + t.size ∨ 1000 < d then (false, n + 1, b + t.size) else cntL is (n + 1) (b + t.size) (d + 1)
def cntL : List S24 → Nat → Nat → Nat → Bool × Nat × Nat
  | [], n, b, _ => (true, n, b)
  | x :: xs, n, b, d => if (cntF x n b d).1 then cntL xs (cntF x n b d).2.1 (cntF x n b d).2.2 d else cntF x n b d
end
mutual
/-- No text is longer than can be. -/
def tx : S24 → Prop
  | ⟨_, t, is⟩ => t.size ≤ 1000000000000000000 ∧ txL is
def txL : List S24 → Prop
  | [] => True
  | x :: xs => tx x ∧ txL xs
end
theorem txL_at : ∀ {is : List S24} {i : Nat} {x : S24}, txL is → is[i]? = some x → tx x
  | [], i, x, _, h => by simp at h
  | y :: is, 0, x, ht, h => by simp at h; subst h; rw [txL] at ht; exact ht.1
  | y :: is, i + 1, x, ht, h => by rw [txL] at ht; exact txL_at (is := is) (i := i) ht.2 (by simpa using h)
mutual
theorem cntF_bound : ∀ (x : S24) (n b d : Nat), n ≤ 3000 → b ≤ 80000 → (cntF x n b d).1 = true → (cntF x n b d).2.1 ≤ 3000 ∧ (cntF x n b d).2.2 ≤ 80000 ∧ n + 1 ≤ (cntF x n b d).2.1 ∧ b ≤ (cntF x n b d).2.2 ∧ wt x + 30 * n + b ≤ 30 * (cntF x n b d).2.1 + (cntF x n b d).2.2
  | ⟨l, t, is⟩, n, b, d, hn, hb, h => by
    rw [cntF] at h ⊢
    have hw : wt ⟨l, t, is⟩ = t.size + 30 + wtL is := by rw [wt]
    by_cases hc : 3000 < n + 1 ∨ 80000 < b + t.size ∨ 1000 < d
    · rw [if_pos hc] at h; cases h
    · rw [if_neg hc] at h ⊢
      have := cntL_bound is (n + 1) (b + t.size) (d + 1) (by omega) (by omega) h
      omega
theorem cntL_bound : ∀ (is : List S24) (n b d : Nat), n ≤ 3000 → b ≤ 80000 → (cntL is n b d).1 = true → (cntL is n b d).2.1 ≤ 3000 ∧ (cntL is n b d).2.2 ≤ 80000 ∧ n ≤ (cntL is n b d).2.1 ∧ b ≤ (cntL is n b d).2.2 ∧ wtL is + 30 * n + b ≤ 30 * (cntL is n b d).2.1 + (cntL is n b d).2.2
  | [], n, b, d, hn, hb, h => by
    rw [cntL, wtL]
    exact ⟨hn, hb, Nat.le_refl _, Nat.le_refl _, by show 0 + 30 * n + b ≤ 30 * n + b; omega⟩
  | x :: is, n, b, d, hn, hb, h => by
    have hw : wtL (x :: is) = wt x + wtL is := by rw [wtL]
    rw [cntL] at h ⊢
    by_cases hc : (cntF x n b d).1 = true
    · rw [if_pos hc] at h ⊢
      have h1 := cntF_bound x n b d hn hb hc
      have h2 := cntL_bound is _ _ d h1.1 h1.2.1 h
      omega
    · rw [if_neg hc] at h
      exact absurd h hc
end
theorem cntL_take {is : List S24} {i n b d : Nat} {x : S24} (h : is[i]? = some x) (ht : (cntL (is.take i) n b d).1 = true) :
    cntL (is.take (i + 1)) n b d = cntF x (cntL (is.take i) n b d).2.1 (cntL (is.take i) n b d).2.2 d := by
  induction is generalizing i n b with
  | nil => simp at h
  | cons y is ih =>
    cases i with
    | zero =>
      simp at h
      subst h
      rw [List.take_zero] at ht ⊢
      rw [List.take_succ_cons, List.take_zero]
      simp only [cntL]
      by_cases hc : (cntF y n b d).1 = true
      · rw [if_pos hc]; exact Prod.ext hc.symm rfl
      · rw [if_neg hc]
    | succ i =>
      rw [List.take_succ_cons] at ht ⊢
      simp only [cntL] at ht ⊢
      by_cases hc : (cntF y n b d).1 = true
      · rw [if_pos hc] at ht ⊢
        rw [ih (by simpa using h) ht, List.take_succ_cons]
        simp only [cntL]
        rw [if_pos hc]
      · rw [if_neg hc] at ht
        exact absurd ht hc
theorem cntL_stop {is : List S24} {i n b d : Nat} (h : (cntL (is.take i) n b d).1 = false) : cntL is n b d = cntL (is.take i) n b d := by
  induction is generalizing i n b with
  | nil => simp
  | cons y is ih =>
    cases i with
    | zero => simp [cntL] at h
    | succ i =>
      rw [List.take_succ_cons] at h ⊢
      simp only [cntL] at h ⊢
      by_cases hc : (cntF y n b d).1 = true
      · rw [if_pos hc] at h ⊢
        rw [if_pos hc]
        exact ih h
      · rw [if_neg hc, if_neg hc]
structure NB (w : World) (B gn gb n b : Nat) : Prop where
  bn : B ≤ gn
  bb : B ≤ gb
  ne : gn ≠ gb
  hn : w.heap[gn]? = some (.cells #[.int .i64 (n : Int)] 3 (0, 0))
  hb : w.heap[gb]? = some (.cells #[.int .i64 (b : Int)] 3 (0, 0))
theorem NB.below {w w' : World} {B gn gb n b : Nat} (h : NB w B gn gb n b) (hb : Below w.heap.size w w') : NB w' B gn gb n b := ⟨h.bn, h.bb, h.ne, blk_below h.hn hb, blk_below h.hb hb⟩
theorem NB.setN {w : World} {B gn gb n b : Nat} (h : NB w B gn gb n b) (m : Nat) : NB (w.setCell ⟨gn, 0, none⟩ (.int .i64 (m : Int))) B gn gb m b := ⟨h.bn, h.bb, h.ne, (heap_setF h.hn _).trans rfl, (Below.heap_setCell _ _ _ _ (fun e => h.ne e.symm)).trans h.hb⟩
theorem NB.setB {w : World} {B gn gb n b : Nat} (h : NB w B gn gb n b) (m : Nat) : NB (w.setCell ⟨gb, 0, none⟩ (.int .i64 (m : Int))) B gn gb n m := ⟨h.bn, h.bb, h.ne, (Below.heap_setCell _ _ _ _ (fun e => h.ne e)).trans h.hn, (heap_setF h.hb _).trans rfl⟩
def CntEnd (w0 : World) (gn gb : Nat) (r : Bool × Nat × Nat) (e : Ending) (w' : World) : Prop := e = .returned (.bool r.1) ∧ NB w' w0.heap.size gn gb r.2.1 r.2.2 ∧ Below w0.heap.size w0 w'
set_option maxHeartbeats 4000000 in
set_option maxRecDepth 100000 in
theorem count_calls {w0 : World} {gn gb : Nat} : ∀ (k : Nat) (x : S24), wt x ≤ k → tx x → ∀ (w : World) (A : Option Addr) (c n b d : Nat), NB w w0.heap.size gn gb n b → Below w0.heap.size w0 w → k24.C w0 A x.f2.length x.f2 → x.f2.length ≤ c → n ≤ 3000 → b ≤ 80000 → d ≤ 1001 →
    Calls Tryd.prog 23 #[.agg #[.bool x.f0, .string x.f1, .slice A x.f2.length c], .pointer (some ⟨gn, 0, none⟩), .pointer (some ⟨gb, 0, none⟩), .int .i64 (d : Int)] w (CntEnd w0 gn gb (cntF x n b d)) := by
  intro k
  induction k with
  | zero => intro x hx; have := wt_pos x; omega
  | succ k ih =>
  intro x hx htx w A c n b d hs hb hC hc hn3 hb8 hd
  obtain ⟨l, t, is⟩ := x
  simp only at hC hc ⊢
  obtain ⟨ln, hln⟩ : ∃ ln, ln = is.length := ⟨_, rfl⟩
  rw [← hln] at hC hc ⊢
  rw [tx] at htx
  have hts := htx.1
  have HTX := Lib.hid htx.2
  have HS := Lib.hid hs
  have HB := Lib.hid hb
  have HC := Lib.hid hC
  have HLN := Lib.hid hln
  have HX := Lib.hid hx
  have HI := Lib.hid ih
  obtain ⟨R, hR⟩ : ∃ R, R = cntF ⟨l, t, is⟩ n b d := ⟨_, rfl⟩
  rw [← hR]
  have HR := Lib.hid hR
  have hw1 : IntKind.i64.wrap ((n : Int) + 1) = ((n + 1 : Nat) : Int) := by rw [IntWalk.i64_in _ (by omega)]; rfl
  have hw2 : IntKind.i64.wrap ((b : Int) + (t.size : Int)) = ((b + t.size : Nat) : Int) := by rw [IntWalk.i64_in _ (by omega)]; rfl
  clear hs hb hC hln hx hR ih htx
  go_enter Tryd.func23, Tryd.ntmps23
  go_upto_region 1 with (first | ((with_reducible refine gate_dst (N := 4) rfl ?_); refine box_event ?hg (N := 4) ?hd (cs := #[.bool l, .string t, .slice A ln c]) (t := 24) ?hr ?_; (case hd => rfl); (case hg => rfl); (case hr => first | (go_simp; done) | (go_simp; rfl)); intro gx hg wb hbox hb2; have HB2 := Lib.hid (HB.out.trans (hb2.mono HB.out.size)); have HS2 := Lib.hid (HS.out.below hb2); have BX := Lib.hid hbox; have GX := Lib.hid (show gn < gx ∧ gb < gx from ⟨by rw [hg]; exact blk_lt HS.out.hn, by rw [hg]; exact blk_lt HS.out.hb⟩); clear hb2 hbox hg HB HS))
  have n0 := (blk_cell HS2.out.hn 0).trans rfl
  have nf := blk_frozen HS2.out.hn 0
  go_upto_region 2 with fail
  obtain ⟨w3, hw3⟩ : ∃ w3, w3 = wb.setCell ⟨gn, 0, none⟩ (.int .i64 ((n : Int) + 1)) := ⟨_, rfl⟩
  rw [← hw3]
  have h3 : NB w3 w0.heap.size gn gb (n + 1) b := by rw [hw3]; exact HS2.out.setN (n + 1)
  have hb3 : Below w0.heap.size w0 w3 := by rw [hw3]; exact HB2.out.setCell (p := ⟨gn, 0, none⟩) HS2.out.bn _
  have hx3 : w3.heap[gx]? = some (.cells #[.bool l, .string t, .slice A ln c] 24 (0, 0)) := by rw [hw3]; exact (Below.heap_setCell _ _ _ _ (fun e => by have := GX.out.1; have e' : gx = gn := e; omega)).trans BX.out
  obtain ⟨w5, hw5⟩ : ∃ w5, w5 = w3.drew := ⟨_, rfl⟩
  have hd5 : Below w3.heap.size w3 w5 := by rw [hw5]; exact below_drew (Below.refl _ _)
  have H5 := Lib.hid (h3.below hd5)
  have HB5 := Lib.hid (hb3.trans (hd5.mono hb3.size))
  have BX5 := Lib.hid (blk_below hx3 hd5)
  have CB := Lib.hid ((blk_cell H5.out.hb 0).trans rfl)
  have FZ := Lib.hid (blk_frozen H5.out.hb 0)
  have HW5 := Lib.hid hw5
  clear hw3 h3 hb3 hx3 hd5 hw5 BX HB2 HS2 n0 nf
  refine start_ (n := 9) (S := fun w' => w'.cell? ⟨gx, 1, none⟩ = some (.string t) ∧ w'.cell? ⟨gb, 0, none⟩ = some (.int .i64 (b : Int))) (ds := [8]) #[false, false, false, false, false, false, false, false, false] (by kernel_rfl) rfl rfl ⟨(by rw [← HW5.out]; exact (blk_cell BX5.out 1).trans rfl), (by rw [← HW5.out]; exact CB.out)⟩ (fun hHeld => ?_)
  rw [← HW5.out] at hHeld ⊢
  refine pure_ (i := 0) (N := some 16) (v := ?_) (a' := ?_) #[true, false, false, false, false, false, false, false, false] rfl rfl (by kernel_rfl) (fun _ _ _ h => h) (Or.inl ⟨by rfl, ?_⟩) ?_ ?_
  rotate_left
  · intro w'
    go_simp
    with_reducible rfl
  rotate_left
  · simp only [Act.put, List.setIfInBounds_toArray, List.set_cons_zero, List.set_cons_succ]
    rfl
  refine pure_ (i := 1) (N := some 17) (v := ?_) (a' := ?_) #[true, true, false, false, false, false, false, false, false] rfl rfl (by kernel_rfl) (fun _ _ _ h => h) (Or.inl ⟨by rfl, ?_⟩) ?_ ?_
  rotate_left
  · intro w'
    go_simp
    with_reducible rfl
  rotate_left
  · simp only [Act.put, List.setIfInBounds_toArray, List.set_cons_zero, List.set_cons_succ]
    rfl
  refine pure_ (i := 3) (N := some 19) (v := ?_) (a' := ?_) #[true, true, false, true, false, false, false, false, false] rfl rfl (by kernel_rfl) (fun _ _ _ h => h) (Or.inl ⟨by rfl, ?_⟩) ?_ ?_
  rotate_left
  · intro w'
    go_simp
    with_reducible rfl
  rotate_left
  · simp only [Act.put, List.setIfInBounds_toArray, List.set_cons_zero, List.set_cons_succ]
    rfl
  refine take_ (i := 2) (N := some 18) (v := ?_) (a' := ?_) #[true, true, true, true, false, false, false, false, false] rfl rfl (by kernel_rfl) (fun _ _ _ h => h) (Or.inl ⟨by rfl, ?_⟩) hHeld ?_ ?_
  rotate_left
  · rintro w' ⟨s0, s1⟩
    go_simp
    with_reducible rfl
  rotate_left
  · simp only [Act.put, List.setIfInBounds_toArray, List.set_cons_zero, List.set_cons_succ]
    rfl
  refine take_ (i := 4) (N := some 20) (v := ?_) (a' := ?_) #[true, true, true, true, true, false, false, false, false] rfl rfl (by kernel_rfl) (fun _ _ _ h => h) (Or.inl ⟨by rfl, ?_⟩) hHeld ?_ ?_
  rotate_left
  · rintro w' ⟨s0, s1⟩
    go_simp
    with_reducible rfl
  rotate_left
  · simp only [Act.put, List.setIfInBounds_toArray, List.set_cons_zero, List.set_cons_succ]
    rfl
  refine pure_ (i := 5) (N := some 21) (v := ?_) (a' := ?_) #[true, true, true, true, true, true, false, false, false] rfl rfl (by kernel_rfl) (fun _ _ _ h => h) (Or.inl ⟨by rfl, ?_⟩) ?_ ?_
  rotate_left
  · intro w'
    go_simp
    with_reducible rfl
  rotate_left
  · simp only [Act.put, List.setIfInBounds_toArray, List.set_cons_zero, List.set_cons_succ]
    rfl
  refine pure_ (i := 6) (N := some 22) (v := ?_) (a' := ?_) #[true, true, true, true, true, true, true, false, false] rfl rfl (by kernel_rfl) (fun _ _ _ h => h) (Or.inl ⟨by rfl, ?_⟩) ?_ ?_
  rotate_left
  · intro w'
    go_simp
    with_reducible rfl
  rotate_left
  · simp only [Act.put, List.setIfInBounds_toArray, List.set_cons_zero, List.set_cons_succ]
    rfl
  refine pure_ (i := 7) (N := some 23) (v := ?_) (a' := ?_) #[true, true, true, true, true, true, true, true, false] rfl rfl (by kernel_rfl) (fun _ _ _ h => h) (Or.inl ⟨by rfl, ?_⟩) ?_ ?_
  rotate_left
  · intro w'
    go_simp
    with_reducible rfl
  rotate_left
  · simp only [Act.put, List.setIfInBounds_toArray, List.set_cons_zero, List.set_cons_succ]
    rfl
  refine last_ (i := 8) (N := none) #[true, true, true, true, true, true, true, true, true] rfl rfl (by kernel_rfl) (by decide) (fun K hK => ?_)
  have fz := FZ.out
  have cb := CB.out
  refine skip_ (w1 := ?_) (by rfl) rfl ?_ ?_
  rotate_left
  · go_simp
    rfl
  refine hK.out _ _ ?_
  clear hK K
  refine done_ (by kernel_rfl) ?_

  obtain ⟨w6, hw6⟩ : ∃ w6, w6 = w5.setCell ⟨gb, 0, none⟩ (.int .i64 ((b : Int) + (t.size : Int))) := ⟨_, rfl⟩
  rw [← hw6]
  have h6 : NB w6 w0.heap.size gn gb (n + 1) (b + t.size) := by rw [hw6]; exact H5.out.setB (b + t.size)
  have hb6 : Below w0.heap.size w0 w6 := by rw [hw6]; exact HB5.out.setCell (p := ⟨gb, 0, none⟩) H5.out.bb _
  have hx6 : w6.heap[gx]? = some (.cells #[.bool l, .string t, .slice A ln c] 24 (0, 0)) := by rw [hw6]; exact (Below.heap_setCell _ _ _ _ (fun e => by have := GX.out.2; have e' : gx = gb := e; omega)).trans BX5.out
  have hR6 : R = if 3000 < n + 1 ∨ 80000 < b + t.size ∨ 1000 < d then (false, n + 1, b + t.size) else cntL is (n + 1) (b + t.size) (d + 1) := by rw [HR.out, cntF]
  obtain ⟨m, hm⟩ : ∃ m, m = n + 1 := ⟨_, rfl⟩
  obtain ⟨q, hq⟩ : ∃ q, q = b + t.size := ⟨_, rfl⟩
  rw [← hm, ← hq] at h6 hR6
  have c0 := (blk_cell h6.hn 0).trans rfl
  have c1 := (blk_cell h6.hb 0).trans rfl
  have c2 := (blk_cell hx6 2).trans rfl
  have H6 := Lib.hid h6
  have HB6 := Lib.hid hb6
  have HR6 := Lib.hid hR6
  have HX6 := Lib.hid (show wtL is ≤ k by have := HX.out; rw [wt] at this; omega)
  clear hw6 h6 hb6 hx6 hR6 HR H5 HB5 BX5 CB FZ HW5 hw1 hw2 hm hq
  by_cases hcc : 3000 < m ∨ 80000 < q ∨ 1000 < d
  · as_aux_lemma =>
    have hd3 : decide ((m : Int) > 3000) = true ∨ (decide ((m : Int) > 3000) = false ∧ decide ((q : Int) > 80000) = true) ∨ (decide ((m : Int) > 3000) = false ∧ decide ((q : Int) > 80000) = false ∧ decide ((d : Int) > 1000) = true) := by
      simp only [decide_eq_true_eq, decide_eq_false_iff_not]
      omega
    have HCC := Lib.hid hcc
    clear hcc
    rcases hd3 with d1 | ⟨d1, d2⟩ | ⟨d1, d2, d3⟩
    all_goals
      go_wp2_with fail
      go_ret
      refine ⟨?_, ?_, HB6.out⟩
      · rw [HR6.out, if_pos HCC.out]; rfl
      · rw [HR6.out, if_pos HCC.out]; exact H6.out
  · as_aux_lemma =>
    have d1 : decide ((m : Int) > 3000) = false := decide_eq_false (by omega)
    have d2 : decide ((q : Int) > 80000) = false := decide_eq_false (by omega)
    have d3 : decide ((d : Int) > 1000) = false := decide_eq_false (by omega)
    have hm3 : m ≤ 3000 := by omega
    have hq8 : q ≤ 80000 := by omega
    have hd1 : d ≤ 1000 := by omega
    have hR7 : R = cntL is m q (d + 1) := by rw [HR6.out, if_neg hcc]
    have HR7 := Lib.hid hR7
    have hwd : IntKind.i64.wrap ((d : Int) + 1) = ((d + 1 : Nat) : Int) := by rw [IntWalk.i64_in _ (by omega)]; rfl
    clear hcc hR7 HR6
    go_wp2_with fail
    go_loopw [41] (fun a wr => ∃ i : Nat, a = .int .i64 (i : Int) ∧ i ≤ ln ∧ Hid ((cntL (is.take i) m q (d + 1)).1 = true) ∧ Hid (NB wr w0.heap.size gn gb (cntL (is.take i) m q (d + 1)).2.1 (cntL (is.take i) m q (d + 1)).2.2) ∧ Hid (Below w0.heap.size w0 wr)) (fun a _ => ln - (intOf a).toNat)
    case atStart => exact ⟨0, rfl, Nat.zero_le _, Lib.hid rfl, H6, HB6⟩
    case round =>
      obtain ⟨i, rfl, hi, HTi, HNi, HBi⟩ := hrel
      have hbd := cntL_bound (is.take i) m q (d + 1) hm3 hq8 HTi.out
      by_cases hin : i < ln
      · have e1 : decide ((i : Int) < (ln : Int)) = true := decide_eq_true (by omega)
        have hwi : IntKind.i64.wrap ((i : Int) + 1) = ((i + 1 : Nat) : Int) := by rw [IntWalk.i64_in _ (by have hw := wtL_ge (is.take i); rw [List.length_take] at hw; have := HLN.out; omega)]; rfl
        obtain ⟨ad, A2, cc2, rfl, e0, e1', e2, hl2, hC2⟩ := Go.Proofs.YtehghdmfdinpjaaDoor.PAll.at_T24 HC.out (i : Int) (by omega) (by omega)
        rw [Int.toNat_natCast] at e0 e1' e2
        obtain ⟨x, hx⟩ : ∃ x, x = Go.Proofs.YtehghdmfdinpjaaDoor.PAll.rd_T24 is (i : Int) := ⟨_, rfl⟩
        rw [← hx] at e0 e1' e2 hl2 hC2
        have hxi : is[i]? = some x := by
          rw [hx]
          have : i < is.length := by have := HLN.out; omega
          simp [Go.Proofs.YtehghdmfdinpjaaDoor.PAll.rd_T24, List.getD, List.getElem?_eq_getElem this]
        have X0 := HBi.out.cell (World.block_lt_of_cell? w0 _ e0) |>.trans e0
        have X1 := HBi.out.cell (World.block_lt_of_cell? w0 _ e1') |>.trans e1'
        have X2 := HBi.out.cell (World.block_lt_of_cell? w0 _ e2) |>.trans e2
        have ha : Below wr.heap.size wr (wr.alloc (.cells #[.bool x.f0, .string x.f1, .slice A2 x.f2.length cc2] 24)) := below_alloc (Below.refl _ _) _
        have hwt := wtL_at hxi
        have htk := cntL_take (n := m) (b := q) (d := d + 1) hxi HTi.out
        obtain ⟨r, hr⟩ : ∃ r, r = cntL (is.take (i + 1)) m q (d + 1) := ⟨_, rfl⟩
        have HP := Lib.hid (HI.out x (by have := HX6.out; omega) (txL_at HTX.out hxi) (wr.alloc (.cells #[.bool x.f0, .string x.f1, .slice A2 x.f2.length cc2] 24)) A2 cc2 (cntL (is.take i) m q (d + 1)).2.1 (cntL (is.take i) m q (d + 1)).2.2 (d + 1) (HNi.out.below ha) (HBi.out.trans (ha.mono HBi.out.size)) hC2 hl2 hbd.1 hbd.2.1 (by omega))
        rw [← htk, ← hr, show ((d + 1 : Nat) : Int) = (d : Int) + 1 from rfl] at HP
        have HRR := Lib.hid hr
        clear ha hwt htk hr hC2 hxi hx e0 e1' e2 hbd
        obtain ⟨ro, rn, rb⟩ := r
        cases ro with
        | true =>
          go_wp2_with (first | (go_at_call 23; refine HP.out.mono ?_; rintro e w7 ⟨rfl, hs7, hb7⟩; have HS7 := Lib.hid hs7; have HB7 := Lib.hid hb7; clear hs7 hb7))
          go_roundw
          case rel => exact ⟨i + 1, rfl, hin, Lib.hid (by rw [← HRR.out]), Lib.hid (by rw [← HRR.out]; exact HS7.out), HB7⟩
          case measure => simp only [intOf] at *; omega
        | false =>
          go_wp2_with (first | (go_at_call 23; refine HP.out.mono ?_; rintro e w7 ⟨rfl, hs7, hb7⟩; have HS7 := Lib.hid hs7; have HB7 := Lib.hid hb7; clear hs7 hb7))
          go_ret
          have hst : R = cntL (is.take (i + 1)) m q (d + 1) := HR7.out.trans (cntL_stop (by rw [← HRR.out]))
          rw [← HRR.out] at hst
          refine ⟨?_, ?_, HB7.out⟩
          · rw [hst]; rfl
          · rw [hst]; exact HS7.out
      · have e1 : decide ((i : Int) < (ln : Int)) = false := decide_eq_false (by omega)
        obtain rfl : ln = i := by omega
        have htk : is.take ln = is := List.take_of_length_le (by rw [HLN.out]; exact Nat.le_refl _)
        rw [htk, ← HR7.out] at HNi HTi
        clear hbd htk
        go_wp2_with fail
        go_ret
        exact ⟨by rw [HTi.out]; rfl, HNi.out, HBi.out⟩
/-- Small. -/
def smallF (x : S24) : Bool := (cntF x 0 0 0).1
theorem smallF_wt {x : S24} (h : smallF x = true) : wt x ≤ 170000 := by
  have := cntF_bound x 0 0 0 (by omega) (by omega) h
  omega
set_option maxHeartbeats 4000000 in
set_option maxRecDepth 100000 in
theorem small_calls {w : World} (x : S24) (htx : tx x) (A : Option Addr) (c : Nat) (hC : k24.C w A x.f2.length x.f2) (hc : x.f2.length ≤ c) :
    Calls Tryd.prog 9 #[.agg #[.bool x.f0, .string x.f1, .slice A x.f2.length c]] w fun e w' => e = .returned (.bool (smallF x)) ∧ Below w.heap.size w w' := by
  have HB0 := Lib.hid (Below.refl w.heap.size w)
  have HC := Lib.hid hC
  clear hC
  go_enter Tryd.func9, Tryd.ntmps9
  go_upto_region 1 with (first | ((with_reducible refine gate_dst (N := 1) rfl ?_); refine box_event ?hg (N := 1) ?hd (cs := #[.bool x.f0, .string x.f1, .slice A x.f2.length c]) (t := 24) ?hr ?_; (case hd => rfl); (case hg => rfl); (case hr => first | (go_simp; done) | (go_simp; rfl)); intro gx hg wb hbox hb2; have HB1 := Lib.hid hb2; have BX := Lib.hid hbox; clear hb2 hbox hg))
  go_upto_region 2 with fail
  obtain ⟨w2, hw2⟩ : ∃ w2, w2 = (wb.alloc (.cells #[.int .i64 0] 3)).alloc (.cells #[.int .i64 0] 3) := ⟨_, rfl⟩
  rw [← hw2]
  have h1 : Below wb.heap.size wb (wb.alloc (.cells #[.int .i64 0] 3)) := below_alloc (Below.refl _ _) _
  have hsz : (wb.alloc (.cells #[.int .i64 0] 3)).heap.size = wb.heap.size + 1 := Array.size_push _
  have h2 : Below wb.heap.size wb w2 := by rw [hw2]; exact below_alloc h1 _
  have hnb : NB w2 wb.heap.size wb.heap.size (wb.heap.size + 1) 0 0 := by
    refine ⟨Nat.le_refl _, by omega, by omega, ?_, ?_⟩
    · rw [hw2]
      exact blk_below (blk_new wb _) (below_alloc (Below.refl _ _) _)
    · rw [hw2, ← hsz]
      exact blk_new _ _
  have HP := count_calls (wt x) x (Nat.le_refl _) htx w2 A c 0 0 0 hnb h2 (Kd.C_below HC.out HB1.out) hc (by omega) (by omega) (by omega)
  rw [show ((0 : Nat) : Int) = 0 from rfl] at HP
  have b0 := (blk_cell (blk_below BX.out h2) 0).trans rfl
  have b1 := (blk_cell (blk_below BX.out h2) 1).trans rfl
  have b2 := (blk_cell (blk_below BX.out h2) 2).trans rfl
  have HPP := Lib.hid HP
  clear HP hnb h1 hsz h2 hw2
  go_wp2_with (first | (go_at_call 23; refine HPP.out.mono ?_; rintro e w7 ⟨rfl, hs7, hb7⟩))
  go_ret
  exact ⟨rfl, HB1.out.trans (hb7.mono HB1.out.size)⟩
#print axioms count_calls
#print axioms small_calls
end Go.Proofs.YtehghdmfdinpjaaDoorF
