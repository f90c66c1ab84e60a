/- Knots, the plain law: the rounds of the walk keep what is known, and come to an end. -/
import Derived.Test.YtgbeigippahbaaaKP
namespace Go.Proofs.YtgbeigippahbaaaK

def sumR (f : Nat → Nat) : Nat → Nat
  | 0 => 0
  | k + 1 => sumR f k + f k
theorem sumR_congr {f g : Nat → Nat} : ∀ {n : Nat}, (∀ j, j < n → g j = f j) → sumR g n = sumR f n
  | 0, _ => rfl
  | n + 1, h => by rw [sumR, sumR, sumR_congr (fun j hj => h j (by omega)), h n (by omega)]
theorem sumR_upd {f g : Nat → Nat} {v : Nat} : ∀ {n : Nat}, v < n → (∀ j, j ≠ v → g j = f j) → sumR g n + f v = sumR f n + g v
  | n + 1, hv, h => by
    rw [sumR, sumR]
    by_cases e : v = n
    · rw [sumR_congr (fun j hj => h j (by omega)), e]
      omega
    · have := sumR_upd (n := n) (by omega) h
      rw [h n (Ne.symm e)]
      omega
def fw (adj : Nat → List Nat) (x : Nat × Nat) : Nat := if x.2 = 0 then 0 else (adj x.1).length + 1 - x.2
/-- How many rounds are to come at most. -/
def mu (adj : Nat → List Nat) (n : Nat) (t : T) : Nat := sumR (fun v => if t.seen v = 0 then (adj v).length + 1 else 0) n + (t.work.map (fw adj)).sum
structure Side (n : Nat) (t : T) : Prop where
  cnt : t.count + sumR (fun v => if t.seen v = 0 then 1 else 0) n = n
  stk : t.stack.length ≤ t.count
  wk : t.work.length ≤ t.count + 1
  wk' : ∀ v i W, t.work = (v, i + 1) :: W → t.work.length ≤ t.count
def PhA (adj : Nat → List Nat) (n : Nat) (t : T) : Prop :=
  match t.work with
  | [] => Core adj n t [] none
  | (v, 0) :: W => Core adj n t (unbump W) none ∧ t.seen v = 0 ∧ v < n ∧ ∀ p i Q, W = (p, i) :: Q → 1 ≤ i ∧ i ≤ (adj p).length ∧ (adj p).getD (i - 1) 0 = v
  | (v, i + 1) :: W => Core adj n t ((v, i) :: W) (some ((adj v).getD i 0)) ∧ i < (adj v).length ∧ 0 < t.seen ((adj v).getD i 0)
theorem bump_unbump {W : List (Nat × Nat)} (h : ∀ p i Q, W = (p, i) :: Q → 1 ≤ i) : bump (unbump W) = W := by
  match W, h with
  | [], _ => rfl
  | (p, i) :: Q, h =>
    have := h p i Q rfl
    show (p, i - 1 + 1) :: Q = _
    rw [Nat.sub_add_cancel this]
section
variable {adj : Nat → List Nat} {n : Nat} {t : T}
/-- A round's first part: the top is entered. -/
theorem PhA.enter {v i : Nat} {W : List (Nat × Nat)} (h : PhA adj n t) (hw : t.work = (v, i) :: W) : Core adj n (enter adj v i t) ((v, i) :: W) none := by
  unfold PhA at h
  rw [hw] at h
  match i, h with
  | 0, h =>
    obtain ⟨h1, h2, h3, h4⟩ := h
    have := h1.visit h3 h2 (fun p a Q hP => by
      match W, h4, hP with
      | (q, j) :: Q', h4, hP =>
        obtain ⟨g1, g2, g3⟩ := h4 q j Q' rfl
        have e : (q, j - 1) :: Q' = (p, a) :: Q := hP
        injection e with e1 e2
        injection e1 with e3 e4
        subst e3 e4
        exact ⟨by omega, g3⟩)
    rw [bump_unbump (fun p i Q e => (h4 p i Q e).1)] at this
    exact this
  | i + 1, h =>
    obtain ⟨h1, h2, h3⟩ := h
    exact h1.account h2 rfl h3
theorem enter_seen {v i : Nat} (u : Nat) : (enter adj v i t).seen u = if i = 0 ∧ u = v then t.count + 1 else t.seen u := by
  unfold Go.Proofs.YtgbeigippahbaaaK.enter
  by_cases hi : i = 0
  · rw [if_pos hi]
    show upd t.seen v (t.count + 1) u = _
    unfold upd
    by_cases e : u = v
    · rw [if_pos e, if_pos ⟨hi, e⟩]
    · rw [if_neg e, if_neg (fun h => e h.2)]
  · rw [if_neg hi, if_neg (fun h => hi h.1)]
    unfold account
    split <;> rfl
theorem enter_work {v i : Nat} : (enter adj v i t).work = t.work := by
  unfold Go.Proofs.YtgbeigippahbaaaK.enter
  split
  · rfl
  · unfold account
    split <;> rfl
theorem PhA.step (hadj : ∀ v u, v < n → u ∈ adj v → u < n) (h : PhA adj n t) : PhA adj n (step adj t) := by
  match hw : t.work with
  | [] =>
    unfold Go.Proofs.YtgbeigippahbaaaK.step
    rw [hw]
    exact h
  | (v, i) :: W =>
    have hc := h.enter hw
    obtain ⟨t1, ht1⟩ : ∃ t1, t1 = Go.Proofs.YtgbeigippahbaaaK.enter adj v i t := ⟨_, rfl⟩
    rw [← ht1] at hc
    have hv : v ∈ t1.stack := (hc.pn _ List.mem_cons_self).2
    have hvn := (hc.sn v hv).1
    have hiv : i ≤ (adj v).length := (hc.pn _ List.mem_cons_self).1
    unfold Go.Proofs.YtgbeigippahbaaaK.step
    rw [hw]
    simp only [← ht1]
    by_cases hlt : i < (adj v).length
    · rw [if_pos hlt]
      have hum := getD_mem hlt
      by_cases hs : t1.seen ((adj v).getD i 0) = 0
      · rw [if_pos hs]
        refine ⟨hc.work _, hs, hadj v _ hvn hum, fun p j Q e => ?_⟩
        injection e with e1 e2
        injection e1 with e3 e4
        subst e3 e4
        exact ⟨by omega, by omega, rfl⟩
      · rw [if_neg hs]
        exact ⟨(hc.pend _).work _, hlt, Nat.pos_of_ne_zero hs⟩
    · rw [if_neg hlt]
      have hd : i = (adj v).length := by omega
      by_cases hl : t1.low v < t1.seen v
      · rw [if_pos hl]
        match W, hc with
        | [], hc => exact absurd hl hc.root
        | (p, a) :: Q, hc =>
          have hp := hc.pop hd hl
          obtain ⟨l1, l2, l3⟩ := hc.link.1
          have l3' : (adj p).getD (a - 1) 0 = v := l3
          match a, l1 with
          | a + 1, _ =>
            refine ⟨?_, by omega, ?_⟩
            · rw [show (adj p).getD a 0 = v from l3']
              exact hp.work _
            · rw [show (adj p).getD a 0 = v from l3']
              exact (hc.sn v hv).2.2
      · rw [if_neg hl]
        have hk := Core.closeV (hc.work W) hd hl
        match W, hc, hk with
        | [], _, hk => exact hk
        | (p, a) :: Q, hc, hk =>
          obtain ⟨l1, l2, l3⟩ := hc.link.1
          have l3' : (adj p).getD (a - 1) 0 = v := l3
          match a, l1 with
          | a + 1, _ =>
            refine ⟨?_, by omega, ?_⟩
            · rw [show (adj p).getD a 0 = v from l3']
              exact hk.pend v
            · rw [show (adj p).getD a 0 = v from l3']
              exact (hc.sn v hv).2.2
theorem step_seen {v i : Nat} {W : List (Nat × Nat)} (hw : t.work = (v, i) :: W) (u : Nat) : (Go.Proofs.YtgbeigippahbaaaK.step adj t).seen u = if i = 0 ∧ u = v then t.count + 1 else t.seen u := by
  rw [← enter_seen (adj := adj)]
  unfold Go.Proofs.YtgbeigippahbaaaK.step
  rw [hw]
  simp only []
  split
  · split <;> rfl
  · split <;> rfl
theorem step_work {v i : Nat} {W : List (Nat × Nat)} (hw : t.work = (v, i) :: W) : (Go.Proofs.YtgbeigippahbaaaK.step adj t).work = W ∨ (i < (adj v).length ∧ ((Go.Proofs.YtgbeigippahbaaaK.step adj t).work = (v, i + 1) :: W ∨ (Go.Proofs.YtgbeigippahbaaaK.step adj t).work = ((adj v).getD i 0, 0) :: (v, i + 1) :: W)) := by
  unfold Go.Proofs.YtgbeigippahbaaaK.step
  rw [hw]
  simp only []
  split
  · rename_i h
    right
    refine ⟨h, ?_⟩
    split
    · exact .inr rfl
    · exact .inl rfl
  · left
    split <;> rfl
theorem step_count {v i : Nat} {W : List (Nat × Nat)} (hw : t.work = (v, i) :: W) : (Go.Proofs.YtgbeigippahbaaaK.step adj t).count = if i = 0 then t.count + 1 else t.count := by
  have e : (enter adj v i t).count = if i = 0 then t.count + 1 else t.count := by
    unfold Go.Proofs.YtgbeigippahbaaaK.enter
    split
    · rfl
    · unfold account
      split <;> rfl
  rw [← e]
  unfold Go.Proofs.YtgbeigippahbaaaK.step
  rw [hw]
  simp only []
  split
  · split <;> rfl
  · split <;> rfl
theorem step_stack {v i : Nat} {W : List (Nat × Nat)} (hw : t.work = (v, i) :: W) : (Go.Proofs.YtgbeigippahbaaaK.step adj t).stack.length ≤ if i = 0 then t.stack.length + 1 else t.stack.length := by
  have e : (enter adj v i t).stack.length = if i = 0 then t.stack.length + 1 else t.stack.length := by
    unfold Go.Proofs.YtgbeigippahbaaaK.enter
    split
    · show (t.stack ++ [v]).length = _
      rw [List.length_append]
      rfl
    · unfold account
      split <;> rfl
  rw [← e]
  unfold Go.Proofs.YtgbeigippahbaaaK.step
  rw [hw]
  simp only []
  split
  · split <;> exact Nat.le_refl _
  · split
    · exact Nat.le_refl _
    · show (List.take _ _).length ≤ _
      rw [List.length_take]
      exact Nat.min_le_right _ _
/-- What the top is, before a round. -/
theorem PhA.top {v i : Nat} {W : List (Nat × Nat)} (h : PhA adj n t) (hw : t.work = (v, i) :: W) : v < n ∧ i ≤ (adj v).length ∧ (i = 0 → t.seen v = 0) ∧ (0 < i → 0 < t.seen v) := by
  unfold PhA at h
  rw [hw] at h
  match i, h with
  | 0, h => exact ⟨h.2.2.1, Nat.zero_le _, fun _ => h.2.1, fun h0 => by omega⟩
  | i + 1, h =>
    have hv := (h.1.pn _ List.mem_cons_self).2
    exact ⟨(h.1.sn v hv).1, h.2.1, fun h0 => by omega, fun _ => (h.1.sn v hv).2.2⟩
theorem PhA.less (h : PhA adj n t) (hw : t.work ≠ []) : mu adj n (Go.Proofs.YtgbeigippahbaaaK.step adj t) < mu adj n t := by
  match hw' : t.work with
  | [] => exact absurd hw' hw
  | (v, i) :: W =>
    obtain ⟨hv, hi, hs, hs'⟩ := h.top hw'
    have hseen := step_seen (adj := adj) hw'
    have hwork := step_work (adj := adj) hw'
    unfold mu
    rw [hw', List.map_cons, List.sum_cons]
    by_cases hi0 : i = 0
    · have h1 := sumR_upd (f := fun v => if t.seen v = 0 then (adj v).length + 1 else 0) (g := fun v => if (Go.Proofs.YtgbeigippahbaaaK.step adj t).seen v = 0 then (adj v).length + 1 else 0) hv (fun j hj => by
        show (if (Go.Proofs.YtgbeigippahbaaaK.step adj t).seen j = 0 then _ else _) = _
        rw [show (Go.Proofs.YtgbeigippahbaaaK.step adj t).seen j = t.seen j by rw [hseen j]; exact if_neg (fun e => hj e.2)])
      have e1 : (Go.Proofs.YtgbeigippahbaaaK.step adj t).seen v ≠ 0 := by rw [hseen v, if_pos ⟨hi0, rfl⟩]; omega
      simp only [if_neg e1, if_pos (hs hi0)] at h1
      have f0 : fw adj (v, i) = 0 := if_pos hi0
      rcases hwork with e | ⟨hlt, e | e⟩
      · rw [e]; omega
      · rw [e, List.map_cons, List.sum_cons]
        have f1 : fw adj (v, i + 1) = (adj v).length + 1 - (i + 1) := if_neg (Nat.succ_ne_zero i)
        omega
      · rw [e, List.map_cons, List.sum_cons, List.map_cons, List.sum_cons]
        have f1 : fw adj (v, i + 1) = (adj v).length + 1 - (i + 1) := if_neg (Nat.succ_ne_zero i)
        have f2 : fw adj ((adj v).getD i 0, 0) = 0 := if_pos rfl
        omega
    · have h1 : sumR (fun v => if (Go.Proofs.YtgbeigippahbaaaK.step adj t).seen v = 0 then (adj v).length + 1 else 0) n = sumR (fun v => if t.seen v = 0 then (adj v).length + 1 else 0) n := sumR_congr (fun j _ => by
        show (if (Go.Proofs.YtgbeigippahbaaaK.step adj t).seen j = 0 then _ else _) = _
        rw [show (Go.Proofs.YtgbeigippahbaaaK.step adj t).seen j = t.seen j by rw [hseen j]; exact if_neg (fun e => hi0 e.1)])
      rw [h1]
      have f0 : fw adj (v, i) = (adj v).length + 1 - i := if_neg hi0
      rcases hwork with e | ⟨hlt, e | e⟩
      · rw [e]; omega
      · rw [e, List.map_cons, List.sum_cons]
        have f1 : fw adj (v, i + 1) = (adj v).length + 1 - (i + 1) := if_neg (Nat.succ_ne_zero i)
        omega
      · rw [e, List.map_cons, List.sum_cons, List.map_cons, List.sum_cons]
        have f1 : fw adj (v, i + 1) = (adj v).length + 1 - (i + 1) := if_neg (Nat.succ_ne_zero i)
        have f2 : fw adj ((adj v).getD i 0, 0) = 0 := if_pos rfl
        omega
theorem Side.step (s : Side n t) (h : PhA adj n t) (hw : t.work ≠ []) : Side n (Go.Proofs.YtgbeigippahbaaaK.step adj t) := by
  match hw' : t.work with
  | [] => exact absurd hw' hw
  | (v, i) :: W =>
    obtain ⟨hv, hi, hs, hs'⟩ := h.top hw'
    have hseen := step_seen (adj := adj) hw'
    have hwork := step_work (adj := adj) hw'
    have hcount := step_count (adj := adj) hw'
    have hstack := step_stack (adj := adj) hw'
    have s1 := s.cnt
    have s2 := s.stk
    have s3 := s.wk
    have s4 : 0 < i → t.work.length ≤ t.count := fun h0 => s.wk' v (i - 1) W (by rw [hw', Nat.sub_add_cancel h0])
    rw [hw', List.length_cons] at s3 s4
    by_cases hi0 : i = 0
    · have h1 := sumR_upd (f := fun v => if t.seen v = 0 then 1 else 0) (g := fun v => if (Go.Proofs.YtgbeigippahbaaaK.step adj t).seen v = 0 then 1 else 0) hv (fun j hj => by
        show (if (Go.Proofs.YtgbeigippahbaaaK.step adj t).seen j = 0 then _ else _) = _
        rw [show (Go.Proofs.YtgbeigippahbaaaK.step adj t).seen j = t.seen j by rw [hseen j]; exact if_neg (fun e => hj e.2)])
      have e1 : (Go.Proofs.YtgbeigippahbaaaK.step adj t).seen v ≠ 0 := by rw [hseen v, if_pos ⟨hi0, rfl⟩]; omega
      simp only [if_neg e1, if_pos (hs hi0)] at h1
      rw [if_pos hi0] at hcount hstack
      refine ⟨by omega, by omega, ?_, fun v' i' W' e' => ?_⟩
      · rcases hwork with e | ⟨_, e | e⟩ <;> rw [e] <;> first | omega | (simp only [List.length_cons]; omega)
      · rcases hwork with e | ⟨_, e | e⟩
        · rw [e]; omega
        · rw [e, List.length_cons]; omega
        · rw [e] at e'
          injection e' with e1 _
          injection e1 with _ e2
          cases e2
    · have h1 : sumR (fun v => if (Go.Proofs.YtgbeigippahbaaaK.step adj t).seen v = 0 then 1 else 0) n = sumR (fun v => if t.seen v = 0 then 1 else 0) n := sumR_congr (fun j _ => by
        show (if (Go.Proofs.YtgbeigippahbaaaK.step adj t).seen j = 0 then _ else _) = _
        rw [show (Go.Proofs.YtgbeigippahbaaaK.step adj t).seen j = t.seen j by rw [hseen j]; exact if_neg (fun e => hi0 e.1)])
      rw [if_neg hi0] at hcount hstack
      have := s4 (by omega)
      refine ⟨by omega, by omega, ?_, fun v' i' W' e' => ?_⟩
      · rcases hwork with e | ⟨_, e | e⟩ <;> rw [e] <;> first | omega | (simp only [List.length_cons]; omega)
      · rcases hwork with e | ⟨_, e | e⟩
        · rw [e]; omega
        · rw [e, List.length_cons]; omega
        · rw [e] at e'
          injection e' with e1 _
          injection e1 with _ e2
          cases e2
theorem Side.count_le (s : Side n t) : t.count ≤ n := by have := s.cnt; omega
/-- At the beginning, and for each root. -/
def t0 : T := ⟨fun _ => 0, fun _ => 0, fun _ => 0, fun _ => false, [], [], 0⟩
theorem sumR_one : ∀ n, sumR (fun _ => 1) n = n
  | 0 => rfl
  | n + 1 => by rw [sumR, sumR_one n]
theorem core0 : Core adj n t0 [] none :=
  ⟨(fun x hx => by cases hx), List.Pairwise.nil, trivial, (fun x hx => by cases hx), (fun x hx => by cases hx), List.Pairwise.nil, fun _ => Nat.le_refl _, fun _ _ => rfl, (fun x hx => by cases hx), (fun x hx => by cases hx), (fun x hx => by cases hx), (fun x hx => by cases hx), (fun x hx => by cases hx), (fun c hc => by cases hc), (fun c hc => by cases hc)⟩
theorem side0 : Side n t0 := ⟨by show 0 + sumR (fun v => if (0 : Nat) = 0 then 1 else 0) n = n; simp only [if_true]; rw [sumR_one]; omega, Nat.le_refl _, Nat.zero_le _, (fun v i W e => by cases e)⟩
theorem Core.idle (h : Core adj n t [] none) : t.stack = [] := by
  match hs : t.stack with
  | [] => rfl
  | u :: r =>
    obtain ⟨p, hp, _⟩ := h.seg u (by rw [hs]; exact List.mem_cons_self)
    cases hp
theorem root_start (h : Core adj n t [] none) (s : Side n t) {r : Nat} (hr : r < n) (hs : t.seen r = 0) : PhA adj n { t with work := [(r, 0)] } ∧ Side n { t with work := [(r, 0)] } :=
  ⟨⟨h.work _, hs, hr, (fun p i Q e => by cases e)⟩, ⟨s.cnt, s.stk, (by show 1 ≤ t.count + 1; omega), (fun v i W e => by injection e with e1 _; injection e1 with _ e2; cases e2)⟩⟩
/-- The least of each thing's knot. -/
def LeastOK (adj : Nat → List Nat) (n : Nat) (least : Nat → Nat) : Prop := ∀ v, v < n → Rc adj v (least v) ∧ Rc adj (least v) v ∧ ∀ w, Rc adj v w → Rc adj w v → least v ≤ w
theorem all_told (h : Core adj n t [] none) (hs : ∀ v, v < n → 0 < t.seen v) : LeastOK adj n t.least := fun v hv => by
  refine h.c3 v (hs v hv) ?_
  cases ho : t.opn v with
  | false => rfl
  | true =>
    have := h.so v ho
    rw [h.idle] at this
    cases this
end
#print axioms all_told
#print axioms PhA.step
end Go.Proofs.YtgbeigippahbaaaK
