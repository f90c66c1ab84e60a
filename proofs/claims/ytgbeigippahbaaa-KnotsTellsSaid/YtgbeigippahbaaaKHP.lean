/- Knots, the plain law of a heap: numbers in a list, the least on top. -/
namespace Go.Proofs.YtgbeigippahbaaaK

def Hp (a : Nat → Nat) (m : Nat) : Prop := ∀ k, 1 ≤ k → k < m → a ((k - 1) / 2) ≤ a k
def UpI (a : Nat → Nat) (m j : Nat) : Prop := (∀ k, 1 ≤ k → k < m → k ≠ j → a ((k - 1) / 2) ≤ a k) ∧ ∀ k, 1 ≤ k → k < m → (k - 1) / 2 = j → 1 ≤ j → a ((j - 1) / 2) ≤ a k
def DnI (a : Nat → Nat) (m i : Nat) : Prop := (∀ k, 1 ≤ k → k < m → (k - 1) / 2 ≠ i → a ((k - 1) / 2) ≤ a k) ∧ ∀ k, 1 ≤ k → k < m → (k - 1) / 2 = i → 1 ≤ i → a ((i - 1) / 2) ≤ a k
def sw (a : Nat → Nat) (i j : Nat) : Nat → Nat := fun k => if k = j then a i else if k = i then a j else a k
section
variable {a : Nat → Nat} {m i j : Nat}
theorem sw_j : sw a i j j = a i := if_pos rfl
theorem sw_i (h : i ≠ j) : sw a i j i = a j := by unfold sw; rw [if_neg h, if_pos rfl]
theorem sw_o {k : Nat} (h : k ≠ j) (h' : k ≠ i) : sw a i j k = a k := by unfold sw; rw [if_neg h, if_neg h']
theorem up_stop (h : UpI a m j) (h' : 1 ≤ j → a ((j - 1) / 2) ≤ a j) : Hp a m := fun k h1 h2 => by
  by_cases e : k = j
  · subst e; exact h' h1
  · exact h.1 k h1 h2 e
theorem up_step (h : UpI a m j) (hj : 1 ≤ j) (hjm : j < m) (hi : i = (j - 1) / 2) (hl : a j < a i) : UpI (sw a i j) m i := by
  have hij : i ≠ j := by omega
  refine ⟨fun k h1 h2 h3 => ?_, fun k h1 h2 h3 h4 => ?_⟩
  · by_cases ek : k = j
    · subst ek
      rw [← hi, sw_i hij, sw_j]
      omega
    · rw [sw_o ek h3]
      by_cases e2 : (k - 1) / 2 = j
      · rw [e2, sw_j]
        have := h.2 k h1 h2 e2 hj
        rw [← hi] at this
        exact this
      · by_cases e3 : (k - 1) / 2 = i
        · rw [e3, sw_i hij]
          have := h.1 k h1 h2 ek
          rw [e3] at this
          omega
        · rw [sw_o e2 e3]
          exact h.1 k h1 h2 ek
  · have e1 : sw a i j ((i - 1) / 2) = a ((i - 1) / 2) := sw_o (by omega) (by omega)
    have h5 := h.1 i h4 (by omega) hij
    rw [e1]
    by_cases ek : k = j
    · subst ek
      rw [sw_j]
      exact h5
    · rw [sw_o ek (by omega)]
      have := h.1 k h1 h2 ek
      rw [h3] at this
      omega
theorem dn_stop (h : DnI a m i) (h' : ∀ k, 1 ≤ k → k < m → (k - 1) / 2 = i → a i ≤ a k) : Hp a m := fun k h1 h2 => by
  by_cases e : (k - 1) / 2 = i
  · rw [e]; exact h' k h1 h2 e
  · exact h.1 k h1 h2 e
/-- j is the lesser child of i. -/
theorem dn_step (h : DnI a m i) (hj : 1 ≤ j) (hjm : j < m) (hi : (j - 1) / 2 = i) (hc : ∀ k, 1 ≤ k → k < m → (k - 1) / 2 = i → a j ≤ a k) (hl : a j < a i) : DnI (sw a i j) m j := by
  have hij : i ≠ j := by omega
  refine ⟨fun k h1 h2 h3 => ?_, fun k h1 h2 h3 h4 => ?_⟩
  · by_cases ek : k = j
    · subst ek
      rw [hi, sw_i hij, sw_j]
      omega
    · by_cases e3 : (k - 1) / 2 = i
      · rw [e3, sw_i hij, sw_o ek (by omega)]
        exact hc k h1 h2 e3
      · rw [sw_o h3 e3]
        by_cases e4 : k = i
        · subst e4
          rw [sw_i hij]
          exact h.2 j hj hjm hi h1
        · rw [sw_o ek e4]
          exact h.1 k h1 h2 e3
  · rw [hi, sw_i hij, sw_o (by omega) (by omega)]
    have := h.1 k h1 h2 (by omega)
    rw [h3] at this
    exact this
theorem hp_min (h : Hp a m) : ∀ k, k < m → a 0 ≤ a k := fun k => by
  induction k using Nat.strongRecOn with
  | ind k ih =>
    intro hk
    by_cases e : k = 0
    · rw [e]; exact Nat.le_refl _
    · exact Nat.le_trans (ih ((k - 1) / 2) (by omega) (by omega)) (h k (by omega) hk)
end
def at0 (xs : List Nat) (k : Nat) : Nat := xs.getD k 0
def swL (xs : List Nat) (i j : Nat) : List Nat := (xs.set i (at0 xs j)).set j (at0 xs i)
theorem swL_len (xs : List Nat) (i j : Nat) : (swL xs i j).length = xs.length := by simp [swL]
theorem at0_get {xs : List Nat} {k : Nat} (h : k < xs.length) : at0 xs k = xs[k] := by
  unfold at0; rw [List.getD_eq_getElem?_getD, List.getElem?_eq_getElem h]; rfl
theorem at0_swL {xs : List Nat} {i j : Nat} (hi : i < xs.length) (hj : j < xs.length) : at0 (swL xs i j) = sw (at0 xs) i j := by
  funext k
  unfold sw swL
  show ((xs.set i (at0 xs j)).set j (at0 xs i)).getD k 0 = _
  rw [List.getD_eq_getElem?_getD]
  by_cases e : k = j
  · rw [if_pos e, e, List.getElem?_set_self (by simpa using hj)]
    rfl
  · rw [if_neg e, List.getElem?_set_ne (Ne.symm e)]
    by_cases e2 : k = i
    · rw [if_pos e2, e2, List.getElem?_set_self hi]
      rfl
    · rw [if_neg e2, List.getElem?_set_ne (Ne.symm e2)]
      rfl
theorem swL_perm {xs : List Nat} {i j : Nat} (hi : i < xs.length) (hj : j < xs.length) : (swL xs i j).Perm xs := by
  unfold swL
  rw [at0_get hi, at0_get hj]
  exact List.set_set_perm hi hj
/-- One more at the end, then up. -/
theorem hp_snoc {xs : List Nat} (x : Nat) (h : Hp (at0 xs) xs.length) : UpI (at0 (xs ++ [x])) (xs.length + 1) xs.length := by
  have e : ∀ k, k < xs.length → at0 (xs ++ [x]) k = at0 xs k := fun k hk => by
    unfold at0; rw [List.getD_eq_getElem?_getD, List.getD_eq_getElem?_getD, List.getElem?_append_left hk]
  refine ⟨fun k h1 h2 h3 => ?_, fun k h1 h2 h3 _ => by omega⟩
  rw [e k (by omega), e ((k - 1) / 2) (by omega)]
  exact h k h1 (by omega)
/-- The first and the last changed: all but the last, from the top down. -/
theorem hp_swap {xs : List Nat} {n : Nat} (hn : xs.length = n + 1) (h : Hp (at0 xs) xs.length) : DnI (at0 (swL xs 0 n)) n 0 := by
  rw [at0_swL (by omega) (by omega)]
  refine ⟨fun k h1 h2 h3 => ?_, fun k _ _ _ h4 => by omega⟩
  rw [sw_o (by omega) (by omega), sw_o (by omega) (by omega)]
  exact h k h1 (by omega)
theorem hp_take {xs : List Nat} {n : Nat} (hn : n ≤ xs.length) (h : Hp (at0 xs) n) : Hp (at0 (xs.take n)) (xs.take n).length := by
  have e : ∀ k, k < n → at0 (xs.take n) k = at0 xs k := fun k hk => by
    unfold at0; rw [List.getD_eq_getElem?_getD, List.getD_eq_getElem?_getD, List.getElem?_take_of_lt hk]
  rw [List.length_take, Nat.min_eq_left hn]
  intro k h1 h2
  rw [e k h2, e _ (by omega)]
  exact h k h1 h2
theorem split_last {xs : List Nat} {n : Nat} (hn : xs.length = n + 1) : xs = xs.take n ++ [at0 xs n] := by
  rw [at0_get (by omega), ← List.take_succ_eq_append_getElem, ← hn, List.take_length]
#print axioms hp_min
end Go.Proofs.YtgbeigippahbaaaK
