/- Row by row, the least cost comes out; and what edits.Diff computes. Plain Lean, no program. -/
import Derived.Test.YtkjjjkjgendnfaaDoorHp
namespace Go.Proofs.YtkjjjkjgendnfaaDoorE

/-! ### The least cost -/
theorem alB_in {a b : List ByteArray} {i j : Nat} (hi : i < a.length) (hj : j < b.length) : alB a b i j = alike a b i j := by simp [alB, hi, hj]
theorem getD_set {l : List Int} {j p : Nat} {v : Int} (h : j < l.length) : (l.set j v).getD p 0 = if p = j then v else l.getD p 0 := by
  rw [List.getD_eq_getElem?_getD, List.getElem?_set]
  by_cases e : j = p
  · subst e; simp [h]
  · rw [if_neg e, if_neg (fun h => e h.symm), ← List.getD_eq_getElem?_getD]
theorem initGo_law : ∀ (r j : Nat) (row : List Int), j + r ≤ row.length → (initGo r j row).length = row.length ∧ (∀ p, p < j + r → (p < j → row.getD p 0 = p) → (initGo r j row).getD p 0 = p)
  | 0, j, row, _ => ⟨rfl, fun p hp h => h (by omega)⟩
  | r + 1, j, row, hl => by
    obtain ⟨e1, e2⟩ := initGo_law r (j + 1) (row.set j (j : Int)) (by rw [List.length_set]; omega)
    refine ⟨by rw [initGo, e1, List.length_set], ?_⟩
    intro p hp h
    rw [initGo]
    refine e2 p (by omega) (fun hpj => ?_)
    rw [getD_set (by omega)]
    by_cases e : p = j
    · rw [if_pos e, e]
    · rw [if_neg e]; exact h (by omega)
theorem rowGo_law (a b : List ByteArray) (i : Nat) (hi : i < a.length) : ∀ (r j : Nat) (row : List Int) (old : Int), j + r = b.length → row.length = b.length + 1 →
    (∀ p, p ≤ j → row.getD p 0 = Dst (alB a b) (i + 1) p) → (∀ p, j < p → p ≤ b.length → row.getD p 0 = Dst (alB a b) i p) → old = Dst (alB a b) i j →
    (rowGo a b i r j row old).length = b.length + 1 ∧ ∀ p, p ≤ b.length → (rowGo a b i r j row old).getD p 0 = Dst (alB a b) (i + 1) p
  | 0, j, row, old, hj, hl, h1, _, _ => ⟨hl, fun p hp => h1 p (by omega)⟩
  | r + 1, j, row, old, hj, hl, h1, h2, ho => by
    rw [rowGo]
    refine rowGo_law a b i hi r (j + 1) _ _ (by omega) (by rw [List.length_set]; exact hl) ?_ ?_ ?_
    · intro p hp
      rw [getD_set (by omega)]
      by_cases e : p = j + 1
      · subst e
        rw [if_pos rfl, h2 (j + 1) (by omega) (by omega), h1 j (by omega), ho]
        unfold cellV
        have ha := alB_in hi (show j < b.length by omega)
        by_cases hc : alike a b i j = true
        · rw [if_pos hc, Dst_al (by rw [ha]; exact hc)]
        · rw [if_neg hc, Dst_no (by rw [ha]; simpa using hc)]
          split <;> omega
      · rw [if_neg e]; exact h1 p (by omega)
    · intro p hp hp'
      rw [getD_set (by omega), if_neg (by omega)]
      exact h2 p (by omega) hp'
    · exact h2 (j + 1) (by omega) (by omega)
theorem leastGo_law (a b : List ByteArray) : ∀ (r i : Nat) (row : List Int), i + r = a.length → row.length = b.length + 1 → (∀ p, p ≤ b.length → row.getD p 0 = Dst (alB a b) i p) →
    ∀ p, p ≤ b.length → (leastGo a b r i row).getD p 0 = Dst (alB a b) a.length p
  | 0, i, row, hi, _, h => by
    obtain rfl : i = a.length := by omega
    exact h
  | r + 1, i, row, hi, hl, h => by
    rw [leastGo]
    have h0 := h 0 (by omega)
    rw [h0]
    obtain ⟨e1, e2⟩ := rowGo_law a b i (by omega) b.length 0 (row.set 0 ((i : Int) + 1)) (Dst (alB a b) i 0) (by omega) (by rw [List.length_set]; exact hl) (by
      intro p hp
      obtain rfl : p = 0 := by omega
      rw [getD_set (by omega), if_pos rfl, Dst_z]
      omega) (by
      intro p hp hp'
      rw [getD_set (by omega), if_neg (by omega)]
      exact h p hp') rfl
    exact leastGo_law a b r (i + 1) _ (by omega) e1 e2
theorem leastL_law (a b : List ByteArray) : leastL a b = Dst (alB a b) a.length b.length := by
  unfold leastL
  obtain ⟨e1, e2⟩ := initGo_law (b.length + 1) 0 (List.replicate (b.length + 1) 0) (by simp)
  refine leastGo_law a b a.length 0 _ (by omega) (by rw [e1]; simp) (fun p hp => ?_) b.length (by omega)
  rw [e2 p (by omega) (fun h => by omega), Dst_0]

/-! ### Diff -/
theorem preGo_law (a b : List ByteArray) : ∀ (f i : Nat), (∀ q, q < i → preB a b q = true) → ∀ q, q < preGo a b f i → preB a b q = true
  | 0, _, h => h
  | f + 1, i, h => by
    rw [preGo]
    split
    · rename_i hc
      refine preGo_law a b f (i + 1) (fun q hq => ?_)
      by_cases e : q = i
      · rw [e]; exact hc
      · exact h q (by omega)
    · exact h
theorem sufGo_law (a b : List ByteArray) (p : Nat) : ∀ (f i : Nat), (∀ q, q < i → sufB a b p q = true) → ∀ q, q < sufGo a b p f i → sufB a b p q = true
  | 0, _, h => h
  | f + 1, i, h => by
    rw [sufGo]
    split
    · rename_i hc
      refine sufGo_law a b p f (i + 1) (fun q hq => ?_)
      by_cases e : q = i
      · rw [e]; exact hc
      · exact h q (by omega)
    · exact h
theorem preL_law {a b : List ByteArray} {q : Nat} (h : q < preL a b) : preB a b q = true := preGo_law a b a.length 0 (fun q hq => by omega) q h
theorem sufL_law {a b : List ByteArray} {p q : Nat} (h : q < sufL a b p) : sufB a b p q = true := sufGo_law a b p a.length 0 (fun q hq => by omega) q h
theorem preL_le (a b : List ByteArray) : preL a b ≤ a.length ∧ preL a b ≤ b.length := by
  rcases Nat.eq_zero_or_pos (preL a b) with e | e
  · omega
  · have := preB_le (preL_law (a := a) (b := b) (q := preL a b - 1) (by omega))
    omega
theorem sufL_le (a b : List ByteArray) : sufL a b (preL a b) + preL a b ≤ a.length ∧ sufL a b (preL a b) + preL a b ≤ b.length := by
  have := preL_le a b
  rcases Nat.eq_zero_or_pos (sufL a b (preL a b)) with e | e
  · omega
  · have := sufB_le (sufL_law (a := a) (b := b) (p := preL a b) (q := sufL a b (preL a b) - 1) (by omega))
    omega
theorem mid_length (l : List ByteArray) (p s : Nat) : (mid l p s).length = l.length - s - p := by
  unfold mid
  rw [List.length_drop, List.length_take]
  omega
theorem mid_get (l : List ByteArray) (p s i : Nat) (h : i < l.length - s - p) : (mid l p s).getD i ByteArray.empty = l.getD (p + i) ByteArray.empty := by
  unfold mid
  rw [List.getD_eq_getElem?_getD, List.getD_eq_getElem?_getD, List.getElem?_drop, List.getElem?_take, if_pos (by omega)]
theorem diff_mids (A B : List ByteArray) : Mids A B (diffX A B) (diffY A B) (preL A B) := by
  have := sufL_le A B
  unfold diffX diffY
  refine ⟨by rw [mid_length]; omega, by rw [mid_length]; omega, fun i hi => ?_, fun i hi => ?_⟩
  · rw [mid_length] at hi
    exact mid_get A _ _ i hi
  · rw [mid_length] at hi
    exact mid_get B _ _ i hi
theorem alike_eq {a b : List ByteArray} {i j : Nat} (h : alike a b i j = true) : a.getD i ByteArray.empty = b.getD j ByteArray.empty := by
  simp only [alike, beq_iff_eq] at h
  exact bytes_eq h
theorem diff_inv0 (A B : List ByteArray) : ∀ n, n ≤ preL A B → InvH A B [] n n 0
  | 0, _ => InvH.nil A B
  | n + 1, h => by
    have hp := preL_law (a := A) (b := B) (q := n) (by omega)
    have := preB_le hp
    simp only [preB, Bool.and_eq_true, decide_eq_true_eq] at hp
    exact (diff_inv0 A B n (by omega)).keep this.1 this.2 (alike_eq hp.2.2)
theorem diff_ends (A B : List ByteArray) : preL A B + (diffX A B).length + sufL A B (preL A B) = A.length ∧ preL A B + (diffY A B).length + sufL A B (preL A B) = B.length := by
  have := sufL_le A B
  unfold diffX diffY
  rw [mid_length, mid_length]
  omega
theorem diff_tail (A B : List ByteArray) {q : Nat} (h : q < sufL A B (preL A B)) : alike A B (preL A B + (diffX A B).length + q) (preL A B + (diffY A B).length + q) = true := by
  have h1 := sufL_law (a := A) (b := B) (p := preL A B) (q := sufL A B (preL A B) - 1 - q) (by omega)
  simp only [sufB, Bool.and_eq_true, decide_eq_true_eq] at h1
  obtain ⟨e1, e2⟩ := diff_ends A B
  have := h1.2.2
  rw [show A.length - 1 - (sufL A B (preL A B) - 1 - q) = preL A B + (diffX A B).length + q by omega, show B.length - 1 - (sufL A B (preL A B) - 1 - q) = preL A B + (diffY A B).length + q by omega] at this
  exact this
theorem diff_drop (A B : List ByteArray) : A.drop (preL A B + (diffX A B).length) = B.drop (preL A B + (diffY A B).length) := by
  obtain ⟨e1, e2⟩ := diff_ends A B
  apply List.ext_getElem?
  intro q
  rw [List.getElem?_drop, List.getElem?_drop]
  by_cases hq : q < sufL A B (preL A B)
  · have := alike_eq (diff_tail A B hq)
    rw [List.getD_eq_getElem?_getD, List.getD_eq_getElem?_getD] at this
    rw [List.getElem?_eq_getElem (by omega), List.getElem?_eq_getElem (by omega)] at this ⊢
    simpa using this
  · rw [List.getElem?_eq_none (by omega), List.getElem?_eq_none (by omega)]
theorem diff_least (A B : List ByteArray) : Dst (alB A B) A.length B.length = Dst (alB (diffX A B) (diffY A B)) (diffX A B).length (diffY A B).length := by
  obtain ⟨e1, e2⟩ := diff_ends A B
  have m := diff_mids A B
  have h1 := Dst_suf (al := alB A B) (i := preL A B + (diffX A B).length) (j := preL A B + (diffY A B).length) (sufL A B (preL A B)) (fun q hq => by
    rw [alB_in (by omega) (by omega)]
    exact diff_tail A B hq)
  rw [e1, e2] at h1
  rw [h1, Dst_pre (al := alB A B) (p := preL A B) (fun i hi => by
    have hp := preL_law (a := A) (b := B) hi
    have := preB_le hp
    rw [alB_in this.1 this.2]
    simp only [preB, Bool.and_eq_true, decide_eq_true_eq] at hp
    exact hp.2.2) _ _ _ rfl]
  refine Dst_congr _ _ _ rfl (fun i j hi hj => ?_)
  rw [alB_in (by have := m.la; omega) (by have := m.lb; omega), alB_in hi hj]
  unfold alike
  rw [m.ga i hi, m.gb j hj]
theorem InvH.done {A B : List ByteArray} {H : List Hk} {X Y : Nat} {n : Int} (h : InvH A B H X Y n) (he : A.drop X = B.drop Y) : applyL A H = B := by
  unfold applyL
  have h0 := h.at0
  have h1 := h.at1
  have hx := h.x1
  have e : A.drop (apL A H ([], 0)).2.toNat = (A.take X).drop (apL A H ([], 0)).2.toNat ++ A.drop X := by
    generalize (apL A H ([], 0)).2 = t at *
    conv => lhs; rw [← List.take_append_drop X A]
    rw [List.drop_append_of_le_length]
    rw [List.length_take]
    omega
  rw [e, ← List.append_assoc, h.out, he, List.take_append_drop]
/-- What edits.Diff computes: edits of A, B comes of them, and they cost the least, or all of the middle parts where the least is above 100. -/
theorem diffL_law (A B : List ByteArray) : RightL A.length (-1) (diffL A B) ∧ applyL A (diffL A B) = B ∧ (costL (diffL A B) = leastL A B ∨ (100 < leastL A B ∧ leastL A B ≤ costL (diffL A B))) ∧ costL (diffL A B) ≤ (A.length : Int) + B.length ∧ (diffL A B = [] ↔ A = B) := by
  have m := diff_mids A B
  obtain ⟨e1, e2⟩ := diff_ends A B
  have hle := diff_least A B
  have hll := leastL_law A B
  have hin := diff_inv0 A B (preL A B) (Nat.le_refl _)
  have hup := Dst_up (al := alB A B) A.length B.length
  -- no edits of lists that differ
  have hnil : ∀ H, H = [] → applyL A H = B → A = B := by
    intro H hH h
    rw [hH] at h
    simpa [applyL, apL] using h
  have hsame : A = B → Dst (alB A B) A.length B.length = 0 := by
    rintro rfl
    have := Dst_suf (al := alB A A) (i := 0) (j := 0) A.length (fun q hq => by rw [Nat.zero_add, alB_in hq hq]; simp [alike])
    rw [Nat.zero_add] at this
    rw [this, Dst_0]
  unfold diffL
  by_cases h0 : (diffX A B).length + (diffY A B).length = 0
  · rw [if_pos h0]
    have ha : applyL A [] = B := InvH.done (X := preL A B) (Y := preL A B) hin (by
      have := diff_drop A B
      rw [show (diffX A B).length = 0 by omega, show (diffY A B).length = 0 by omega] at this
      exact this)
    have hab := hnil [] rfl ha
    refine ⟨trivial, ha, .inl ?_, by simp only [costL]; omega, ⟨fun _ => hab, fun _ => rfl⟩⟩
    rw [hll, hsame hab]
    rfl
  · rw [if_neg h0]
    rcases walkL_law (diffX A B) (diffY A B) with ⟨w1, w2⟩ | ⟨w1, w2, w3⟩
    · rw [if_neg (by rw [w1]; exact Bool.false_ne_true)]
      have hi : InvH A B [((preL A B : Int), ((diffX A B).length : Int), diffY A B)] (preL A B + (diffX A B).length) (preL A B + (diffY A B).length) ((diffX A B).length + (diffY A B).length : Int) := by
        refine ⟨by omega, by omega, ⟨⟨by simp only; omega, by simp only; omega, by simp only; omega, by simp only; omega, by simp only; omega⟩, trivial⟩, ?_, ?_, ?_, ?_⟩
        · simp only [apL, List.foldl_cons, List.foldl_nil, ap1]; omega
        · simp only [apL, List.foldl_cons, List.foldl_nil, ap1]; omega
        · simp only [apL, List.foldl_cons, List.foldl_nil, ap1]
          have ho := hin.out
          simp only [apL, List.foldl_nil, List.nil_append] at ho
          rw [List.nil_append, show ((preL A B : Int)).toNat = preL A B by omega, ho, show ((preL A B : Int) + ((diffX A B).length : Int)).toNat = preL A B + (diffX A B).length by omega, drop_take_self, List.append_nil]
          have hY : diffY A B = (B.take (preL A B + (diffY A B).length)).drop (preL A B) := by
            rw [show preL A B + (diffY A B).length = B.length - sufL A B (preL A B) by omega]
            rfl
          conv => lhs; rw [hY]
          have hl := List.take_append_drop (preL A B) (B.take (preL A B + (diffY A B).length))
          rw [List.take_take, show min (preL A B) (preL A B + (diffY A B).length) = preL A B by omega] at hl
          exact hl
        · simp [costL]
      refine ⟨hi.right, hi.done (diff_drop A B), .inr (by rw [hll, hle, hi.cost]; have := Dst_up (al := alB (diffX A B) (diffY A B)) (diffX A B).length (diffY A B).length; omega), by rw [hi.cost]; omega, ⟨fun h => absurd h (List.cons_ne_nil _ _), fun h => ?_⟩⟩
      have := hsame h
      rw [hle] at this
      omega
    · rw [if_pos w1]
      have hi := (InvH.way m hin w3 (by omega) (by omega)).1
      rw [show ((diffX A B).length : Int).toNat = (diffX A B).length by omega, show ((diffY A B).length : Int).toNat = (diffY A B).length by omega] at hi
      have he : hunksL (preL A B) (walkL (diffX A B) (diffY A B)).1 (diffY A B) = ((walkL (diffX A B) (diffY A B)).1.foldl (hstep (preL A B) (diffY A B)) ([], none)).1 ++ ((walkL (diffX A B) (diffY A B)).1.foldl (hstep (preL A B) (diffY A B)) ([], none)).2.toList := hunksGo_fold _ _ _ _ _
      rw [← he] at hi
      have ha := hi.done (diff_drop A B)
      have hc := hi.cost
      rw [w2, ← hle] at hc
      refine ⟨hi.right, ha, .inl (by rw [hc, hll]), by rw [hc]; omega, ⟨fun h => hnil _ h ha, fun h => ?_⟩⟩
      have h1 := hsame h
      rw [hle, ← w2] at h1
      rw [List.eq_nil_of_length_eq_zero h1]
      rfl
/-- The steps of Diff may be made into hunks. -/
theorem diff_stepsOk (A B : List ByteArray) (ha : A.length ≤ 1000) (hb : B.length ≤ 1000) (hw : (walkL (diffX A B) (diffY A B)).2 = true) : stepsOk (preL A B) (walkL (diffX A B) (diffY A B)).1 (diffY A B) = true := by
  obtain ⟨e1, e2⟩ := diff_ends A B
  rcases walkL_law (diffX A B) (diffY A B) with ⟨w1, _⟩ | ⟨_, w2, w3⟩
  · rw [hw] at w1; cases w1
  · have hb := w3.bounds
    have hu := Dst_up (al := alB (diffX A B) (diffY A B)) (diffX A B).length (diffY A B).length
    simp only [stepsOk, Bool.and_eq_true, decide_eq_true_eq, List.all_eq_true, Bool.or_eq_true, Bool.not_eq_true']
    refine ⟨by omega, by omega, by omega, fun s hs => ?_⟩
    have h := hb s hs
    refine ⟨h.1, by omega, ?_⟩
    cases hp : s.2.2 with
    | false => exact .inl rfl
    | true => exact .inr ⟨h.2.2.1, h.2.2.2 hp⟩
theorem Dst_turn {al : Nat → Nat → Bool} : ∀ (n i j : Nat), i + j = n → Dst al i j = Dst (fun p q => al q p) j i := by
  intro n
  induction n using Nat.strongRecOn with
  | _ n ih =>
    intro i j hn
    cases i with
    | zero => rw [Dst_0, Dst_z]
    | succ i =>
      cases j with
      | zero => rw [Dst_0, Dst_z]
      | succ j =>
        have e1 := ih (i + j) (by omega) i j rfl
        have e2 := ih (i + (j + 1)) (by omega) i (j + 1) rfl
        have e3 := ih (i + 1 + j) (by omega) (i + 1) j rfl
        by_cases e : al i j = true
        · rw [Dst_al e, Dst_al (al := fun p q => al q p) e, e1]
        · have e' : al i j = false := by simpa using e
          rw [Dst_no e', Dst_no (al := fun p q => al q p) e', e2, e3]
          omega
theorem leastL_turn (a b : List ByteArray) : leastL a b = leastL b a := by
  rw [leastL_law, leastL_law, Dst_turn _ _ _ rfl]
  congr 1
  refine Dst_congr _ _ _ rfl (fun i j hi hj => ?_)
  rw [alB_in hj hi, alB_in hi hj]
  unfold alike
  rw [Bool.eq_iff_iff, beq_iff_eq, beq_iff_eq]
  exact ⟨Eq.symm, Eq.symm⟩
theorem costL_ge {M : Int} : ∀ (H : List Hk) (e : Int), RightL M e H → (H.length : Int) ≤ costL H
  | [], _, _ => by simp [costL]
  | h :: t, _, hr => by
    have ih := costL_ge t _ hr.2
    have h3 := hr.1.2.2.1
    have h5 := hr.1.2.2.2.2
    simp only [List.length_cons, costL]
    omega
end Go.Proofs.YtkjjjkjgendnfaaDoorE
