/- Plain lemmas on rows of triples: their cells, a store of one, a reversal by exchanges from both ends. -/
import Derived.Test.YtkjjjkjgendnfaaDoorM
namespace Go.Proofs.YtkjjjkjgendnfaaDoorR

abbrev St := Int × Int × Bool
def cellsOf (s : St) : List Value := [.int .i64 s.1, .int .i64 s.2.1, .bool s.2.2]
def flat (l : List St) : List Value := l.flatMap cellsOf

theorem flat_nil : flat [] = [] := rfl
theorem flat_cons (s : St) (l : List St) : flat (s :: l) = .int .i64 s.1 :: .int .i64 s.2.1 :: .bool s.2.2 :: flat l := rfl
theorem flat_append (l m : List St) : flat (l ++ m) = flat l ++ flat m := by simp [flat]
theorem flat_length (l : List St) : (flat l).length = l.length * 3 := by
  induction l with
  | nil => rfl
  | cons s l ih => simp [flat_cons, ih]; omega

theorem flat_get (l : List St) : ∀ (i : Nat) (h : i < l.length),
    (flat l)[i * 3]? = some (.int .i64 l[i].1) ∧ (flat l)[i * 3 + 1]? = some (.int .i64 l[i].2.1) ∧ (flat l)[i * 3 + 2]? = some (.bool l[i].2.2) := by
  induction l with
  | nil => intro i h; simp at h
  | cons s l ih =>
    intro i h
    cases i with
    | zero => simp [flat_cons]
    | succ i =>
      have h' : i < l.length := by simpa using h
      obtain ⟨h1, h2, h3⟩ := ih i h'
      rw [show (i + 1) * 3 = i * 3 + 3 by omega]
      refine ⟨?_, ?_, ?_⟩
      · simpa [flat_cons] using h1
      · simpa [flat_cons] using h2
      · simpa [flat_cons] using h3

theorem flat_set (l : List St) : ∀ (i : Nat) (x : St), i < l.length →
    flat (l.set i x) = (((flat l).set (i * 3) (.int .i64 x.1)).set (i * 3 + 1) (.int .i64 x.2.1)).set (i * 3 + 2) (.bool x.2.2) := by
  induction l with
  | nil => intro i x h; simp at h
  | cons s l ih =>
    intro i x h
    cases i with
    | zero => simp [flat_cons]
    | succ i =>
      have h' : i < l.length := by simpa using h
      rw [show (i + 1) * 3 = i * 3 + 3 by omega]
      simp only [List.set_cons_succ, flat_cons]
      rw [ih i x h']

/-- After k exchanges from both ends. -/
def Turned (l m : List St) (k : Nat) : Prop := m.length = l.length ∧ ∀ p (h : p < l.length) (h' : p < m.length), m[p] = if p < k ∨ l.length ≤ p + k then l[l.length - 1 - p] else l[p]

theorem Turned.start (l : List St) : Turned l l 0 := ⟨rfl, fun p h h' => by rw [if_neg (by omega)]⟩

theorem Turned.step {l m : List St} {k : Nat} (h : Turned l m k) (hk : k + k + 1 < l.length) (h1 : k < m.length) (h2 : l.length - 1 - k < m.length) :
    Turned l ((m.set k m[l.length - 1 - k]).set (l.length - 1 - k) m[k]) (k + 1) := by
  obtain ⟨hl, hm⟩ := h
  refine ⟨by simp [hl], fun p hp hp' => ?_⟩
  rw [List.getElem_set]
  by_cases e1 : l.length - 1 - k = p
  · rw [if_pos e1, if_pos (by omega), hm k (by omega) h1, if_neg (by omega)]
    congr 1
    omega
  · rw [if_neg e1, List.getElem_set]
    by_cases e2 : k = p
    · rw [if_pos e2, if_pos (by omega), hm _ (by omega) h2, if_neg (by omega)]
      congr 1
      omega
    · rw [if_neg e2, hm p hp (by omega)]
      by_cases c : p < k ∨ l.length ≤ p + k
      · rw [if_pos c, if_pos (by omega)]
      · rw [if_neg c, if_neg (by omega)]

theorem Turned.done {l m : List St} {k : Nat} (h : Turned l m k) (hk : l.length ≤ k + k + 1) : m = l.reverse := by
  obtain ⟨hl, hm⟩ := h
  apply List.ext_getElem
  · simp [hl]
  · intro p h1 h2
    rw [List.getElem_reverse, hm p (by omega) h1]
    by_cases c : p < k ∨ l.length ≤ p + k
    · rw [if_pos c]
    · rw [if_neg c]
      congr 1
      omega
end Go.Proofs.YtkjjjkjgendnfaaDoorR
