/- The way that edits.walk finds: its cost is the least, and it leads from the beginning to the end. Plain Lean, no program. -/
import Derived.Test.YtkjjjkjgendnfaaDoorMy
namespace Go.Proofs.YtkjjjkjgendnfaaDoorE

theorem innerL_law (a b : List ByteArray) (far : Int → Int) (d : Nat) : ∀ (r j : Nat) (now : Int → Int), j + r = d + 1 → (∀ i : Nat, i < j → now (2 * (i : Int) - d) = nowX a b far (2 * (i : Int) - d) d) →
    (∃ now', innerL a b far d r j now = some now' ∧ (∀ i : Nat, i ≤ d → now' (2 * (i : Int) - d) = nowX a b far (2 * (i : Int) - d) d) ∧
      ∀ i : Nat, j ≤ i → i ≤ d → ¬ ((a.length : Int) ≤ nowX a b far (2 * (i : Int) - d) d ∧ (b.length : Int) ≤ nowX a b far (2 * (i : Int) - d) d - (2 * (i : Int) - d))) ∨
    (innerL a b far d r j now = none ∧ ∃ i : Nat, i ≤ d ∧ (a.length : Int) ≤ nowX a b far (2 * (i : Int) - d) d ∧ (b.length : Int) ≤ nowX a b far (2 * (i : Int) - d) d - (2 * (i : Int) - d))
  | 0, j, now, hj, h => .inl ⟨now, rfl, fun i hi => h i (by omega), fun i h1 h2 => by omega⟩
  | r + 1, j, now, hj, h => by
    by_cases hc : (a.length : Int) ≤ nowX a b far (2 * (j : Int) - d) d ∧ (b.length : Int) ≤ nowX a b far (2 * (j : Int) - d) d - (2 * (j : Int) - d)
    · exact .inr ⟨innerL_done hc.1 hc.2, j, by omega, hc.1, hc.2⟩
    · rw [innerL_go hc]
      rcases innerL_law a b far d r (j + 1) (put1 now (2 * (j : Int) - d) (nowX a b far (2 * (j : Int) - d) d)) (by omega) (by
        intro i hi
        unfold put1
        by_cases e : i = j
        · rw [e, if_pos rfl]
        · rw [if_neg (by omega)]
          exact h i (by omega)) with ⟨now', h1, h2, h3⟩ | ⟨h1, h2⟩
      · refine .inl ⟨now', h1, h2, ?_⟩
        intro i hi hd
        by_cases e : i = j
        · rw [e]; exact hc
        · exact h3 i (by omega) hd
      · exact .inr ⟨h1, h2⟩

/-- What is known when round d begins: T (i + 1) holds the farthest of round i. -/
def TrailOk (a b : List ByteArray) (d : Nat) (T : Nat → Int → Int) : Prop :=
  T 0 = put1 (fun _ => 0) 1 0 ∧ ∀ i : Nat, i < d → ∀ k : Int, -(i : Int) ≤ k → k ≤ i → (k + i) % 2 = 0 → Good (alB a b) i k (T (i + 1) k)

theorem TrailOk.now {a b : List ByteArray} {d : Nat} {T : Nat → Int → Int} (h : TrailOk a b d T) {k : Int} (k0 : -(d : Int) ≤ k) (k1 : k ≤ d) (k2 : (k + d) % 2 = 0) : Good (alB a b) d k (nowX a b (T d) k d) := by
  cases d with
  | zero =>
    have hk : k = 0 := by omega
    rw [hk, h.1]
    exact Good.first a b
  | succ d =>
    have := Good.next (a := a) (b := b) (d := d) (far := T (d + 1)) (fun k q0 q1 q2 => h.2 d (by omega) k q0 q1 q2) (k := k) (by omega) (by omega) (by omega)
    rw [show ((d + 1 : Nat) : Int) = (d : Int) + 1 by omega]
    exact this
theorem Good.uniq {al : Nat → Nat → Bool} {d : Nat} {k x x' : Int} (h : Good al d k x) (h' : Good al d k x') : x = x' := by
  have e1 := h'.far x.toNat (x - k).toNat (by have := h.x0; have := h.y0; omega) h.way
  have e2 := h.far x'.toNat (x' - k).toNat (by have := h'.x0; have := h'.y0; omega) h'.way
  have := h.x0
  have := h'.x0
  omega

theorem outerL_law (a b : List ByteArray) : ∀ (r : Nat) (Ts : List (Int → Int)) (far : Int → Int), TrailOk a b Ts.length (trailF (Ts ++ [far])) → Ts.length ≤ Dst (alB a b) a.length b.length →
    (outerL a b r Ts far = none ∧ Ts.length + r ≤ Dst (alB a b) a.length b.length) ∨
    (∃ T, outerL a b r Ts far = some (backL T (Dst (alB a b) a.length b.length) a.length b.length []).reverse ∧ TrailOk a b (Dst (alB a b) a.length b.length) T ∧ Dst (alB a b) a.length b.length < Ts.length + r)
  | 0, Ts, far, hT, hD => .inl ⟨rfl, hD⟩
  | r + 1, Ts, far, hT, hD => by
    have hG := fun k => hT.now (k := k)
    rw [trailF_snoc] at hG
    rcases innerL_law a b far Ts.length (Ts.length + 1) 0 (fun _ => 0) (by omega) (fun i hi => by omega) with ⟨now, h1, h2, h3⟩ | ⟨h1, i, h2, h3, h4⟩
    · -- this round isn't the last one
      have hne : Ts.length ≠ Dst (alB a b) a.length b.length := by
        intro he
        have hf := Dst_far (al := alB a b) a.length b.length
        have hp := Dst_par (al := alB a b) _ a.length b.length rfl
        rw [← he] at hf hp
        have hi := h3 ((a.length + Ts.length - b.length) / 2) (by omega) (by omega)
        rw [show (2 * ((((a.length + Ts.length - b.length) / 2 : Nat)) : Int) - Ts.length) = (a.length : Int) - b.length by omega] at hi
        have hg := hG ((a.length : Int) - b.length) (by omega) (by omega) (by omega)
        have := hg.far a.length b.length rfl (by rw [← he]; exact Nat.le_refl _)
        exact hi ⟨this, by omega⟩
      rw [outerL_go h1]
      have hT' : TrailOk a b (Ts ++ [far]).length (trailF ((Ts ++ [far]) ++ [now])) := by
        rw [List.length_append, List.length_singleton]
        refine ⟨by rw [trailF_old now (by simp)]; exact hT.1, ?_⟩
        intro i hi k k0 k1 k2
        by_cases e : i = Ts.length
        · subst e
          have hs := trailF_snoc (Ts ++ [far]) now
          rw [List.length_append, List.length_singleton] at hs
          rw [hs]
          have := h2 ((k + Ts.length) / 2).toNat (by omega)
          rw [show (2 * ((((k + Ts.length) / 2).toNat : Nat) : Int) - Ts.length) = k by omega] at this
          rw [this]
          exact hG k k0 k1 k2
        · rw [trailF_old now (by simp; omega)]
          exact hT.2 i (by omega) k k0 k1 k2
      rcases outerL_law a b r (Ts ++ [far]) now hT' (by simp; omega) with ⟨e1, e2⟩ | ⟨T, e1, e2, e3⟩
      · exact .inl ⟨e1, by simp at e2; omega⟩
      · exact .inr ⟨T, e1, e2, by simp at e3; omega⟩
    · have he : Ts.length = Dst (alB a b) a.length b.length := by
        have hg := hG (2 * (i : Int) - Ts.length) (by omega) (by omega) (by omega)
        have hw := hg.way
        generalize nowX a b far (2 * (i : Int) - Ts.length) Ts.length = x at *
        have hp := Dst_past (al := alB a b) (alB_I a b) (alB_J a b) (x.toNat - a.length) ((x - (2 * (i : Int) - Ts.length)).toNat - b.length)
        rw [show a.length + (x.toNat - a.length) = x.toNat by omega, show b.length + ((x - (2 * (i : Int) - Ts.length)).toNat - b.length) = (x - (2 * (i : Int) - Ts.length)).toNat by omega] at hp
        omega
      rw [outerL_end h1]
      refine .inr ⟨trailF (Ts ++ [far]), ?_, ?_, by omega⟩
      · rw [he]
      · rw [← he]; exact hT

/-! ### The steps lead from the beginning to the end -/
/-- The lines from (i, j) on are alike, n of them. -/
def Alike (a b : List ByteArray) (x y : Int) (n : Nat) : Prop := ∀ q : Nat, q < n → alB a b (x.toNat + q) (y.toNat + q) = true
inductive Way (a b : List ByteArray) : List St → Int → Int → Prop
  | nil {n : Nat} : Alike a b 0 0 n → Way a b [] n n
  | put {S : List St} {x' y' : Int} {n : Nat} : Way a b S x' y' → Alike a b x' (y' + 1) n → Way a b (S ++ [(x', y', true)]) (x' + n) (y' + 1 + n)
  | cut {S : List St} {x' y' : Int} {n : Nat} : Way a b S x' y' → Alike a b (x' + 1) y' n → Way a b (S ++ [(x', y', false)]) (x' + 1 + n) (y' + n)

theorem snake_run (a b : List ByteArray) (k : Int) : ∀ (f : Nat) (x : Int), 0 ≤ x → 0 ≤ x - k → ∃ n : Nat, snake a b k f x = x + n ∧ Alike a b x (x - k) n
  | 0, x, h0, h1 => ⟨0, by simp [snake], fun q hq => by omega⟩
  | f + 1, x, h0, h1 => by
    by_cases hc : snB a b k x = true
    · have hs := alB_snB (a := a) (b := b) h0 h1
      rw [snake_goB hc]
      obtain ⟨n, e1, e2⟩ := snake_run a b k f (x + 1) (by omega) (by omega)
      refine ⟨n + 1, by rw [e1]; omega, ?_⟩
      intro q hq
      cases q with
      | zero => rw [Nat.add_zero, Nat.add_zero, ← hs]; exact hc
      | succ q =>
        have := e2 q (by omega)
        rw [show (x + 1).toNat + q = x.toNat + (q + 1) by omega, show (x + 1 - k).toNat + q = (x - k).toNat + (q + 1) by omega] at this
        exact this
    · have hc' : snB a b k x = false := by simpa using hc
      rw [snake_stopB hc']
      exact ⟨0, by omega, fun q hq => by omega⟩

theorem backL_law (a b : List ByteArray) (T : Nat → Int → Int) : ∀ (d : Nat) (x y : Int) (l : List St), TrailOk a b d T → -(d : Int) ≤ x - y → x - y ≤ d → (x - y + d) % 2 = 0 → Good (alB a b) d (x - y) x →
    ∃ S, backL T d x y l = l ++ S.reverse ∧ S.length = d ∧ Way a b S x y
  | 0, x, y, l, hT, k0, k1, k2, hg => by
    have hk : x - y = 0 := by omega
    rw [hk] at hg
    have hx := hg.uniq (Good.first a b)
    have e : nowX a b (put1 (fun _ => 0) 1 0) 0 0 = snake a b 0 a.length 0 := by
      unfold nowX startX
      simp [decB, put1]
    rw [e] at hx
    obtain ⟨n, e1, e2⟩ := snake_run a b 0 a.length 0 (by omega) (by omega)
    refine ⟨[], by simp [backL], rfl, ?_⟩
    have hx' : x = n := by omega
    have hy' : y = n := by omega
    rw [hx', hy']
    exact .nil e2
  | d + 1, x, y, l, hT, k0, k1, k2, hg => by
    have hT' : TrailOk a b d T := ⟨hT.1, fun i hi => hT.2 i (by omega)⟩
    have hG := hT.2 d (by omega)
    have hx := hg.uniq (hT.now (k := x - y) k0 k1 k2)
    unfold nowX at hx
    rw [show ((d + 1 : Nat) : Int) = (d : Int) + 1 by omega] at hx k0 k1 k2
    by_cases hd : decB (T (d + 1)) (x - y) ((d : Int) + 1) = true
    · have hd' : x - y = -((d : Int) + 1) ∨ (x - y ≠ (d : Int) + 1 ∧ T (d + 1) (x - y - 1) < T (d + 1) (x - y + 1)) := by
        simpa [decB] using hd
      have hk : x - y ≠ (d : Int) + 1 := by
        rcases hd' with e | e
        · omega
        · exact e.1
      rw [backL_put hd]
      have hs : startX (T (d + 1)) (x - y) ((d : Int) + 1) = T (d + 1) (x - y + 1) := by unfold startX; rw [if_pos hd]
      rw [hs] at hx
      have hg' := hG (x - y + 1) (by omega) (by omega) (by omega)
      generalize hX : T (d + 1) (x - y + 1) = X at *
      have g0 := hg'.x0
      have g1 := hg'.y0
      obtain ⟨S, e1, e2, e3⟩ := backL_law a b T d X (X - (x - y) - 1) (l ++ [(X, X - (x - y) - 1, true)]) hT' (by omega) (by omega) (by omega) (by rw [show X - (X - (x - y) - 1) = x - y + 1 by omega]; exact hg')
      obtain ⟨n, f1, f2⟩ := snake_run a b (x - y) a.length X g0 (by omega)
      refine ⟨S ++ [(X, X - (x - y) - 1, true)], by rw [e1]; simp, by simp [e2], ?_⟩
      have hw := Way.put (n := n) e3 (by rw [show X - (x - y) - 1 + 1 = X - (x - y) by omega]; exact f2)
      rw [show X + (n : Int) = x by omega, show X - (x - y) - 1 + 1 + (n : Int) = y by omega] at hw
      exact hw
    · have hd0 : decB (T (d + 1)) (x - y) ((d : Int) + 1) = false := by simpa using hd
      have hd' : x - y ≠ -((d : Int) + 1) ∧ (x - y ≠ (d : Int) + 1 → ¬ T (d + 1) (x - y - 1) < T (d + 1) (x - y + 1)) := by
        simpa [decB] using hd
      rw [backL_cut hd0]
      have hs : startX (T (d + 1)) (x - y) ((d : Int) + 1) = T (d + 1) (x - y - 1) + 1 := by unfold startX; rw [if_neg hd]
      rw [hs] at hx
      have hg' := hG (x - y - 1) (by omega) (by omega) (by omega)
      generalize hX : T (d + 1) (x - y - 1) = X at *
      have g0 := hg'.x0
      have g1 := hg'.y0
      obtain ⟨S, e1, e2, e3⟩ := backL_law a b T d X (X - (x - y) + 1) (l ++ [(X, X - (x - y) + 1, false)]) hT' (by omega) (by omega) (by omega) (by rw [show X - (X - (x - y) + 1) = x - y - 1 by omega]; exact hg')
      obtain ⟨n, f1, f2⟩ := snake_run a b (x - y) a.length (X + 1) (by omega) (by omega)
      refine ⟨S ++ [(X, X - (x - y) + 1, false)], by rw [e1]; simp, by simp [e2], ?_⟩
      have hw := Way.cut (n := n) e3 (by rw [show X + 1 - (x - y) = X - (x - y) + 1 by omega] at f2; exact f2)
      rw [show X + 1 + (n : Int) = x by omega, show X - (x - y) + 1 + (n : Int) = y by omega] at hw
      exact hw

theorem walkL_law (a b : List ByteArray) :
    ((walkL a b).2 = false ∧ 100 < Dst (alB a b) a.length b.length) ∨
    ((walkL a b).2 = true ∧ (walkL a b).1.length = Dst (alB a b) a.length b.length ∧ Way a b (walkL a b).1 a.length b.length) := by
  have hup := Dst_up (al := alB a b) a.length b.length
  have hT : TrailOk a b ([] : List (Int → Int)).length (trailF ([] ++ [put1 (fun _ => 0) 1 0])) := ⟨rfl, fun i hi => by simp at hi⟩
  rcases outerL_law a b (roundsL a b) [] (put1 (fun _ => 0) 1 0) hT (by simp) with ⟨e1, e2⟩ | ⟨T, e1, e2, e3⟩
  · refine .inl ⟨by simp [walkL, walkO, e1], ?_⟩
    simp only [roundsL, List.length_nil] at e2
    omega
  · have hf := Dst_far (al := alB a b) a.length b.length
    have hp := Dst_par (al := alB a b) _ a.length b.length rfl
    obtain ⟨S, f1, f2, f3⟩ := backL_law a b T (Dst (alB a b) a.length b.length) a.length b.length [] e2 (by omega) (by omega) (by omega) (by
      refine ⟨by omega, by omega, by rw [show ((a.length : Int)).toNat = a.length by omega, show ((a.length : Int) - (a.length - b.length)).toNat = b.length by omega]; exact Nat.le_refl _, ?_⟩
      intro i j hk hij
      refine Int.not_lt.1 (fun hlt => ?_)
      have := Dst_past (al := alB a b) (alB_I a b) (alB_J a b) (i - a.length) (i - a.length)
      rw [show a.length + (i - a.length) = i by omega, show b.length + (i - a.length) = j by omega] at this
      omega)
    have hw : (walkL a b).1 = S := by simp [walkL, walkO, e1, f1]
    exact .inr ⟨by simp [walkL, walkO, e1], by rw [hw, f2], by rw [hw]; exact f3⟩
end Go.Proofs.YtkjjjkjgendnfaaDoorE
