/- The least cost of a way through the grid of two lists, and what Myers's rounds know of it: plain Lean, no program. -/
import Derived.Test.YtkjjjkjgendnfaaDoorEdP
namespace Go.Proofs.YtkjjjkjgendnfaaDoorE

/-- The least cost of a way from the grid's beginning to (i, j); al i j: a step on the diagonal from (i, j) costs nothing. -/
def Dst (al : Nat → Nat → Bool) : Nat → Nat → Nat
  | 0, j => j
  | i + 1, 0 => i + 1
  | i + 1, j + 1 => if al i j then Dst al i j else 1 + min (Dst al i (j + 1)) (Dst al (i + 1) j)
  termination_by i j => i + j

section
variable {al : Nat → Nat → Bool}
theorem Dst_0 (j : Nat) : Dst al 0 j = j := by rw [Dst]
theorem Dst_z (i : Nat) : Dst al i 0 = i := by cases i <;> rw [Dst]
theorem Dst_al {i j : Nat} (h : al i j = true) : Dst al (i + 1) (j + 1) = Dst al i j := by rw [Dst, if_pos h]
theorem Dst_no {i j : Nat} (h : al i j = false) : Dst al (i + 1) (j + 1) = 1 + min (Dst al i (j + 1)) (Dst al (i + 1) j) := by rw [Dst, if_neg (by rw [h]; exact Bool.false_ne_true)]
theorem Dst_lip : ∀ (n i j : Nat), i + j = n → (Dst al i j ≤ Dst al (i + 1) j + 1 ∧ Dst al (i + 1) j ≤ Dst al i j + 1) ∧ (Dst al i j ≤ Dst al i (j + 1) + 1 ∧ Dst al i (j + 1) ≤ Dst al i j + 1) := by
  intro n
  induction n using Nat.strongRecOn with
  | _ n ih =>
    intro i j hn
    refine ⟨?_, ?_⟩
    · cases j with
      | zero => rw [Dst_z, Dst_z]; omega
      | succ j =>
        cases i with
        | zero =>
          have h1 := (ih j (by omega) 0 j (by omega)).1
          rw [Dst_0] at h1
          rw [Dst_0]
          by_cases e : al 0 j = true
          · rw [Dst_al e, Dst_0]; omega
          · rw [Dst_no (by simpa using e), Dst_0]; omega
        | succ i =>
          have h1 := ih (i + 1 + j) (by omega) (i + 1) j rfl
          have e1 := h1.1
          have e2 := h1.2
          by_cases e : al (i + 1) j = true
          · rw [Dst_al e]; omega
          · rw [Dst_no (i := i + 1) (by simpa using e)]; omega
    · cases i with
      | zero => rw [Dst_0, Dst_0]; omega
      | succ i =>
        cases j with
        | zero =>
          have h1 := (ih i (by omega) i 0 (by omega)).2
          rw [Dst_z] at h1
          rw [Dst_z]
          by_cases e : al i 0 = true
          · rw [Dst_al e, Dst_z]; omega
          · rw [Dst_no (by simpa using e), Dst_z]; omega
        | succ j =>
          have h1 := ih (i + (j + 1)) (by omega) i (j + 1) rfl
          have e1 := h1.1
          have e2 := h1.2
          by_cases e : al i (j + 1) = true
          · rw [Dst_al e]; omega
          · rw [Dst_no (j := j + 1) (by simpa using e)]; omega
theorem Dst_i (i j : Nat) : Dst al i j ≤ Dst al (i + 1) j + 1 ∧ Dst al (i + 1) j ≤ Dst al i j + 1 := (Dst_lip _ i j rfl).1
theorem Dst_j (i j : Nat) : Dst al i j ≤ Dst al i (j + 1) + 1 ∧ Dst al i (j + 1) ≤ Dst al i j + 1 := (Dst_lip _ i j rfl).2
theorem Dst_diag (i j : Nat) : Dst al i j ≤ Dst al (i + 1) (j + 1) := by
  by_cases e : al i j = true
  · rw [Dst_al e]; exact Nat.le_refl _
  · rw [Dst_no (by simpa using e)]
    have h1 := Dst_j (al := al) i j
    have h2 := Dst_i (al := al) i j
    omega
theorem Dst_diags (i j n : Nat) : Dst al i j ≤ Dst al (i + n) (j + n) := by
  induction n with
  | zero => exact Nat.le_refl _
  | succ n ih => exact Nat.le_trans ih (Dst_diag _ _)
theorem Dst_far (i j : Nat) : i ≤ Dst al i j + j ∧ j ≤ Dst al i j + i := by
  constructor
  · induction j with
    | zero => rw [Dst_z]; omega
    | succ j ih => have := (Dst_j (al := al) i j); omega
  · induction i with
    | zero => rw [Dst_0]; omega
    | succ i ih => have := (Dst_i (al := al) i j); omega
theorem Dst_up (i j : Nat) : Dst al i j ≤ i + j := by
  induction j with
  | zero => rw [Dst_z]; omega
  | succ j ih => have := (Dst_j (al := al) i j).2; omega
theorem Dst_par : ∀ (n i j : Nat), i + j = n → Dst al i j % 2 = (i + j) % 2 := by
  intro n
  induction n using Nat.strongRecOn with
  | _ n ih =>
    intro i j hn
    cases i with
    | zero => rw [Dst_0]; omega
    | succ i =>
      cases j with
      | zero => rw [Dst_z]
      | succ j =>
        by_cases e : al i j = true
        · rw [Dst_al e, ih (i + j) (by omega) i j rfl]; omega
        · rw [Dst_no (by simpa using e)]
          have h1 := ih (i + (j + 1)) (by omega) i (j + 1) rfl
          have h2 := ih (i + 1 + j) (by omega) (i + 1) j rfl
          omega
theorem Dst_pastI {N i : Nat} (h : ∀ i j, N ≤ i → al i j = false) (hi : N ≤ i) (j : Nat) : Dst al (i + 1) j = Dst al i j + 1 := by
  induction j with
  | zero => rw [Dst_z, Dst_z]
  | succ j ih =>
    rw [Dst_no (h i j hi), ih]
    have := Dst_j (al := al) i j
    omega
theorem Dst_pastJ {M j : Nat} (h : ∀ i j, M ≤ j → al i j = false) (hj : M ≤ j) (i : Nat) : Dst al i (j + 1) = Dst al i j + 1 := by
  induction i with
  | zero => rw [Dst_0, Dst_0]
  | succ i ih =>
    rw [Dst_no (h i j hj), ih]
    have := Dst_i (al := al) i j
    omega
theorem Dst_past {N M : Nat} (h1 : ∀ i j, N ≤ i → al i j = false) (h2 : ∀ i j, M ≤ j → al i j = false) (p q : Nat) : Dst al (N + p) (M + q) = Dst al N M + p + q := by
  induction q with
  | zero =>
    induction p with
    | zero => rfl
    | succ p ih => rw [← Nat.add_assoc, Dst_pastI h1 (by omega), ih]; omega
  | succ q ih => rw [← Nat.add_assoc, Dst_pastJ h2 (by omega), ih]; omega
theorem Dst_congr {al' : Nat → Nat → Bool} : ∀ (n i j : Nat), i + j = n → (∀ i' j', i' < i → j' < j → al i' j' = al' i' j') → Dst al i j = Dst al' i j := by
  intro n
  induction n using Nat.strongRecOn with
  | _ n ih =>
    intro i j hn h
    cases i with
    | zero => rw [Dst_0, Dst_0]
    | succ i =>
      cases j with
      | zero => rw [Dst_z, Dst_z]
      | succ j =>
        have h0 := h i j (by omega) (by omega)
        have e1 := ih (i + j) (by omega) i j rfl (fun i' j' a b => h i' j' (by omega) (by omega))
        have e2 := ih (i + (j + 1)) (by omega) i (j + 1) rfl (fun i' j' a b => h i' j' (by omega) (by omega))
        have e3 := ih (i + 1 + j) (by omega) (i + 1) j rfl (fun i' j' a b => h i' j' (by omega) (by omega))
        by_cases e : al i j = true
        · rw [Dst_al e, Dst_al (by rw [← h0]; exact e), e1]
        · have e' : al i j = false := by simpa using e
          rw [Dst_no e', Dst_no (by rw [← h0]; exact e'), e2, e3]
theorem Dst_pre {p : Nat} (h : ∀ i, i < p → al i i = true) : ∀ (n i j : Nat), i + j = n → Dst al (p + i) (p + j) = Dst (fun i j => al (p + i) (p + j)) i j := by
  have h0 : Dst al p p = 0 := by
    induction p with
    | zero => rw [Dst_0]
    | succ p ih => rw [Dst_al (h p (by omega)), ih (fun i hi => h i (by omega))]
  have hI : ∀ i, Dst al (p + i) p = i := by
    intro i
    have h1 := Dst_far (al := al) (p + i) p
    have h2 : Dst al (p + i) p ≤ i := by
      induction i with
      | zero => rw [Nat.add_zero, h0]; omega
      | succ i ih => have := ih (Dst_far _ _); have := (Dst_i (al := al) (p + i) p).2; rw [← Nat.add_assoc]; omega
    omega
  have hJ : ∀ j, Dst al p (p + j) = j := by
    intro j
    have h1 := Dst_far (al := al) p (p + j)
    have h2 : Dst al p (p + j) ≤ j := by
      induction j with
      | zero => rw [Nat.add_zero, h0]; omega
      | succ j ih => have := ih (Dst_far _ _); have := (Dst_j (al := al) p (p + j)).2; rw [← Nat.add_assoc]; omega
    omega
  intro n
  induction n using Nat.strongRecOn with
  | _ n ih =>
    intro i j hn
    cases i with
    | zero => rw [Dst_0]; exact hJ j
    | succ i =>
      cases j with
      | zero => rw [Dst_z]; exact hI (i + 1)
      | succ j =>
        have e1 := ih (i + j) (by omega) i j rfl
        have e2 := ih (i + (j + 1)) (by omega) i (j + 1) rfl
        have e3 := ih (i + 1 + j) (by omega) (i + 1) j rfl
        rw [← Nat.add_assoc] at e2
        rw [← Nat.add_assoc] at e3
        rw [← Nat.add_assoc, ← Nat.add_assoc]
        by_cases e : al (p + i) (p + j) = true
        · rw [Dst_al e, Dst_al (al := fun i j => al (p + i) (p + j)) e, e1]
        · have e' : al (p + i) (p + j) = false := by simpa using e
          rw [Dst_no e', Dst_no (al := fun i j => al (p + i) (p + j)) e', e2, e3]
theorem Dst_suf {i j : Nat} (n : Nat) (h : ∀ q, q < n → al (i + q) (j + q) = true) : Dst al (i + n) (j + n) = Dst al i j := by
  induction n with
  | zero => rfl
  | succ n ih => rw [← Nat.add_assoc, ← Nat.add_assoc, Dst_al (h n (by omega)), ih (fun q hq => h q (by omega))]
end

/-! ### What a round knows -/
/-- The lines at i and j are there and alike. -/
def alB (a b : List ByteArray) (i j : Nat) : Bool := decide (i < a.length) && (decide (j < b.length) && alike a b i j)
theorem alB_I (a b : List ByteArray) : ∀ i j, a.length ≤ i → alB a b i j = false := by
  intro i j h
  simp [alB, Nat.not_lt.2 h]
theorem alB_J (a b : List ByteArray) : ∀ i j, b.length ≤ j → alB a b i j = false := by
  intro i j h
  simp [alB, Nat.not_lt.2 h]
theorem alB_snB {a b : List ByteArray} {k x : Int} (h0 : 0 ≤ x) (h1 : 0 ≤ x - k) : snB a b k x = alB a b x.toNat (x - k).toNat := by
  unfold snB alB alike
  have e1 : decide (x < (a.length : Int)) = decide (x.toNat < a.length) := by rw [decide_eq_decide]; omega
  have e2 : decide (x - k < (b.length : Int)) = decide ((x - k).toNat < b.length) := by rw [decide_eq_decide]; omega
  rw [e1, e2, decide_eq_true h1, Bool.true_and]

/-- On diagonal k, d edits lead to x, and no farther. -/
structure Good (al : Nat → Nat → Bool) (d : Nat) (k x : Int) : Prop where
  x0 : 0 ≤ x
  y0 : 0 ≤ x - k
  way : Dst al x.toNat (x - k).toNat ≤ d
  far : ∀ i j : Nat, (i : Int) - j = k → Dst al i j ≤ d → (i : Int) ≤ x

theorem snake_end (a b : List ByteArray) (k : Int) : ∀ (f : Nat) (x : Int), 0 ≤ x → 0 ≤ x - k → (a.length : Int) ≤ x + f →
    0 ≤ snake a b k f x - k ∧ alB a b (snake a b k f x).toNat (snake a b k f x - k).toNat = false ∧ Dst (alB a b) (snake a b k f x).toNat (snake a b k f x - k).toNat = Dst (alB a b) x.toNat (x - k).toNat
  | 0, x, h0, h1, h2 => ⟨h1, alB_I a b _ _ (by simp only [snake]; omega), rfl⟩
  | f + 1, x, h0, h1, h2 => by
    by_cases hc : snB a b k x = true
    · have hs := alB_snB (a := a) (b := b) h0 h1
      rw [snake_goB hc]
      obtain ⟨e1, e2, e3⟩ := snake_end a b k f (x + 1) (by omega) (by omega) (by omega)
      refine ⟨e1, e2, ?_⟩
      rw [e3, show (x + 1).toNat = x.toNat + 1 by omega, show (x + 1 - k).toNat = (x - k).toNat + 1 by omega]
      exact Dst_al (by rw [← hs]; exact hc)
    · have hc' : snB a b k x = false := by simpa using hc
      rw [snake_stopB hc']
      exact ⟨h1, by rw [← alB_snB h0 h1]; exact hc', rfl⟩

/-- The farthest of round d, from those of the round before. -/
theorem Good.next {a b : List ByteArray} {d : Nat} {far : Int → Int} (h : ∀ k : Int, -(d : Int) ≤ k → k ≤ d → (k + d) % 2 = 0 → Good (alB a b) d k (far k)) {k : Int} (k0 : -((d : Int) + 1) ≤ k) (k1 : k ≤ (d : Int) + 1) (k2 : (k + d + 1) % 2 = 0) :
    Good (alB a b) (d + 1) k (nowX a b far k ((d : Int) + 1)) := by
  have lo : k ≠ -((d : Int) + 1) → Good (alB a b) d (k - 1) (far (k - 1)) := fun hk => h (k - 1) (by omega) (by omega) (by omega)
  have hi : k ≠ (d : Int) + 1 → Good (alB a b) d (k + 1) (far (k + 1)) := fun hk => h (k + 1) (by omega) (by omega) (by omega)
  -- the start lies within, costs at most d + 1, and is past both neighbours
  have hs : 0 ≤ startX far k ((d : Int) + 1) ∧ 0 ≤ startX far k ((d : Int) + 1) - k ∧ Dst (alB a b) (startX far k ((d : Int) + 1)).toNat (startX far k ((d : Int) + 1) - k).toNat ≤ d + 1 ∧
      (k ≠ -((d : Int) + 1) → far (k - 1) + 1 ≤ startX far k ((d : Int) + 1)) ∧ (k ≠ (d : Int) + 1 → far (k + 1) ≤ startX far k ((d : Int) + 1)) := by
    unfold startX
    by_cases hd : decB far k ((d : Int) + 1) = true
    · rw [if_pos hd]
      have hd' : k = -((d : Int) + 1) ∨ (k ≠ (d : Int) + 1 ∧ far (k - 1) < far (k + 1)) := by
        simpa [decB] using hd
      have hk : k ≠ (d : Int) + 1 := by
        rcases hd' with e | e
        · omega
        · exact e.1
      have g := hi hk
      refine ⟨g.x0, by have := g.y0; omega, ?_, ?_, fun _ => Int.le_refl _⟩
      · have h1 := (Dst_j (al := alB a b) (far (k + 1)).toNat (far (k + 1) - (k + 1)).toNat).2
        have h2 := g.way
        have h3 := g.y0
        rw [show (far (k + 1) - k).toNat = (far (k + 1) - (k + 1)).toNat + 1 by omega]
        omega
      · intro hk'
        rcases hd' with e | e
        · exact absurd e hk'
        · have := e.2; omega
    · rw [if_neg hd]
      have hd' : k ≠ -((d : Int) + 1) ∧ (k ≠ (d : Int) + 1 → ¬ far (k - 1) < far (k + 1)) := by
        simpa [decB] using hd
      have g := lo hd'.1
      refine ⟨by have := g.x0; omega, by have := g.y0; omega, ?_, fun _ => Int.le_refl _, ?_⟩
      · have h1 := (Dst_i (al := alB a b) (far (k - 1)).toNat (far (k - 1) - (k - 1)).toNat).2
        have h2 := g.way
        have h3 := g.y0
        have h4 := g.x0
        rw [show (far (k - 1) + 1).toNat = (far (k - 1)).toNat + 1 by omega, show (far (k - 1) + 1 - k).toNat = (far (k - 1) - (k - 1)).toNat by omega]
        omega
      · intro hk'
        have := hd'.2 hk'
        omega
  obtain ⟨s0, s1, s2, s3, s4⟩ := hs
  obtain ⟨e1, e2, e3⟩ := snake_end a b k a.length (startX far k ((d : Int) + 1)) s0 s1 (by omega)
  have e0 := snake_le a b k a.length (startX far k ((d : Int) + 1))
  change startX far k ((d : Int) + 1) ≤ nowX a b far k ((d : Int) + 1) at e0
  change 0 ≤ nowX a b far k ((d : Int) + 1) - k at e1
  change alB a b (nowX a b far k ((d : Int) + 1)).toNat (nowX a b far k ((d : Int) + 1) - k).toNat = false at e2
  change Dst (alB a b) (nowX a b far k ((d : Int) + 1)).toNat (nowX a b far k ((d : Int) + 1) - k).toNat = _ at e3
  generalize nowX a b far k ((d : Int) + 1) = e at *
  generalize startX far k ((d : Int) + 1) = s at *
  refine ⟨by omega, e1, by omega, ?_⟩
  intro i j hk hij
  refine Int.not_lt.1 (fun hlt => ?_)
  -- the point right past the end would be cheap
  have hp : Dst (alB a b) (e.toNat + 1) ((e - k).toNat + 1) ≤ d + 1 := by
    have := Dst_diags (al := alB a b) (e.toNat + 1) ((e - k).toNat + 1) (i - (e.toNat + 1))
    rw [show e.toNat + 1 + (i - (e.toNat + 1)) = i by omega, show (e - k).toNat + 1 + (i - (e.toNat + 1)) = j by omega] at this
    omega
  rw [Dst_no e2] at hp
  have f1 := Dst_far (al := alB a b) e.toNat ((e - k).toNat + 1)
  have f2 := Dst_far (al := alB a b) (e.toNat + 1) (e - k).toNat
  rcases Nat.le_total (Dst (alB a b) e.toNat ((e - k).toNat + 1)) (Dst (alB a b) (e.toNat + 1) (e - k).toNat) with hm | hm
  · have hD : Dst (alB a b) e.toNat ((e - k).toNat + 1) ≤ d := by omega
    have hk' : k ≠ -((d : Int) + 1) := by omega
    have := (lo hk').far e.toNat ((e - k).toNat + 1) (by omega) hD
    have := s3 hk'
    omega
  · have hD : Dst (alB a b) (e.toNat + 1) (e - k).toNat ≤ d := by omega
    have hk' : k ≠ (d : Int) + 1 := by omega
    have := (hi hk').far (e.toNat + 1) (e - k).toNat (by omega) hD
    have := s4 hk'
    omega
/-- The first round. -/
theorem Good.first (a b : List ByteArray) : Good (alB a b) 0 0 (nowX a b (put1 (fun _ => 0) 1 0) 0 0) := by
  obtain ⟨e1, e2, e3⟩ := snake_end a b 0 a.length 0 (by omega) (by omega) (by omega)
  have e0 := snake_le a b 0 a.length 0
  have hx : nowX a b (put1 (fun _ => 0) 1 0) 0 0 = snake a b 0 a.length 0 := by
    unfold nowX startX
    simp [decB, put1]
  rw [hx]
  generalize snake a b 0 a.length 0 = e at *
  refine ⟨e0, e1, by rw [e3]; simp [Dst_0], ?_⟩
  intro i j hk hij
  refine Int.not_lt.1 (fun hlt => ?_)
  have hp : Dst (alB a b) (e.toNat + 1) ((e - 0).toNat + 1) ≤ 0 := by
    have := Dst_diags (al := alB a b) (e.toNat + 1) ((e - 0).toNat + 1) (i - (e.toNat + 1))
    rw [show e.toNat + 1 + (i - (e.toNat + 1)) = i by omega, show (e - 0).toNat + 1 + (i - (e.toNat + 1)) = j by omega] at this
    omega
  rw [Dst_no e2] at hp
  omega
end Go.Proofs.YtkjjjkjgendnfaaDoorE
