/- Knots, the plain law: an order of all things, the least that is free first. -/
import Derived.Test.YtgbeigippahbaaaKT
namespace Go.Proofs.YtgbeigippahbaaaK

/-- v is not yet told, and all from which an edge leads to it are. -/
def Free (adj : Nat → List Nat) (n : Nat) (L : List Nat) (v : Nat) : Prop := v < n ∧ v ∉ L ∧ ∀ u, u < n → v ∈ adj u → u ∈ L
inductive Greedy (adj : Nat → List Nat) (n : Nat) : List Nat → Prop
  | nil : Greedy adj n []
  | snoc {L : List Nat} {v : Nat} : Greedy adj n L → Free adj n L v → (∀ u, Free adj n L u → v ≤ u) → Greedy adj n (L ++ [v])
section
variable {adj : Nat → List Nat} {n : Nat}
theorem Greedy.lt {L : List Nat} (h : Greedy adj n L) : ∀ v, v ∈ L → v < n := by
  induction h with
  | nil => intro v hv; cases hv
  | snoc _ hf _ ih =>
    intro v hv
    rcases List.mem_append.1 hv with hv | hv
    · exact ih v hv
    · rw [List.mem_singleton.1 hv]; exact hf.1
theorem Greedy.nodup {L : List Nat} (h : Greedy adj n L) : L.Nodup := by
  induction h with
  | nil => exact List.nodup_nil
  | snoc _ hf _ ih =>
    refine List.nodup_append.2 ⟨ih, by simp, fun a ha b hb => ?_⟩
    rw [List.mem_singleton.1 hb]
    intro e
    exact hf.2.1 (e ▸ ha)
theorem Greedy.preds {L : List Nat} (h : Greedy adj n L) : ∀ v, v ∈ L → ∀ u, u < n → v ∈ adj u → u ∈ L := by
  induction h with
  | nil => intro v hv; cases hv
  | snoc _ hf _ ih =>
    intro v hv u hu hvu
    rcases List.mem_append.1 hv with hv | hv
    · exact List.mem_append_left _ (ih v hv u hu hvu)
    · rw [List.mem_singleton.1 hv] at hvu
      exact List.mem_append_left _ (hf.2.2 u hu hvu)
theorem nodup_len : ∀ {n : Nat} {L : List Nat}, L.Nodup → (∀ v, v ∈ L → v < n) → L.length ≤ n
  | 0, L, _, h => by
    cases L with
    | nil => exact Nat.le_refl _
    | cons x L => exact absurd (h x List.mem_cons_self) (by omega)
  | n + 1, L, hd, h => by
    have h1 : (L.erase n).Nodup := hd.erase n
    have h2 := nodup_len (n := n) h1 (fun v hv => by
      have e := (hd.mem_erase_iff).1 hv
      have := h v e.2
      omega)
    have h3 : L.length ≤ (L.erase n).length + 1 := by
      rw [List.length_erase]
      split <;> omega
    omega
theorem Greedy.len {L : List Nat} (h : Greedy adj n L) : L.length ≤ n := nodup_len h.nodup h.lt
/-- A list of n different numbers below n has all of them. -/
theorem nodup_full : ∀ {n : Nat} {L : List Nat}, L.Nodup → (∀ v, v ∈ L → v < n) → n ≤ L.length → ∀ v, v < n → v ∈ L
  | n, L, hd, h, hl, v, hv => by
    by_cases e : v ∈ L
    · exact e
    · have := nodup_len (n := n) (L := v :: L) (List.nodup_cons.2 ⟨e, hd⟩) (fun x hx => by
        rcases List.mem_cons.1 hx with rfl | hx
        · exact hv
        · exact h x hx)
      simp only [List.length_cons] at this
      omega
theorem Greedy.full {L : List Nat} (h : Greedy adj n L) (hl : n ≤ L.length) : ∀ v, v < n → v ∈ L := nodup_full h.nodup h.lt hl
theorem Greedy.done {L : List Nat} (h : Greedy adj n L) (hl : n ≤ L.length) : ∀ v, ¬ Free adj n L v := fun v hv => hv.2.1 (h.full hl v hv.1)
/-- Any two that cannot go on are one. -/
theorem Greedy.pre {L : List Nat} (h : Greedy adj n L) : ∀ {M : List Nat}, Greedy adj n M → (∀ v, ¬ Free adj n M v) → ∃ r, M = L ++ r := by
  induction h with
  | nil => intro M _ _; exact ⟨M, rfl⟩
  | @snoc L v hL hf hm ih =>
    intro M hM hs
    obtain ⟨r, rfl⟩ := ih hM hs
    cases r with
    | nil => rw [List.append_nil] at hs; exact absurd hf (hs v)
    | cons x r =>
      refine ⟨r, ?_⟩
      have key : ∀ {K : List Nat}, Greedy adj n K → ∀ x r, K = L ++ x :: r → Free adj n L x ∧ ∀ u, Free adj n L u → x ≤ u := by
        intro K hK
        induction hK with
        | nil => intro x r e; cases L <;> cases e
        | @snoc K y hK hy hy2 ihK =>
          intro x r e
          rcases List.eq_nil_or_concat r with rfl | ⟨r', z, rfl⟩
          · have e' : K ++ [y] = L ++ [x] := e
            obtain ⟨e1, e2⟩ := List.append_inj' e' rfl
            injection e2 with e2
            subst e1 e2
            exact ⟨hy, hy2⟩
          · have e' : K ++ [y] = (L ++ x :: r') ++ [z] := by rw [e]; simp
            obtain ⟨e1, _⟩ := List.append_inj' e' rfl
            exact ihK x r' e1
      obtain ⟨h1, h2⟩ := key hM x r rfl
      have e : x = v := Nat.le_antisymm (h2 v hf) (hm x h1)
      rw [e, List.append_assoc]
      rfl
theorem Greedy.unique {L M : List Nat} (h : Greedy adj n L) (hs : ∀ v, ¬ Free adj n L v) (h' : Greedy adj n M) (hs' : ∀ v, ¬ Free adj n M v) : L = M := by
  obtain ⟨r, e⟩ := h.pre h' hs'
  obtain ⟨q, e2⟩ := h'.pre h hs
  rw [e, List.append_assoc] at e2
  have : r = [] := by
    have := congrArg List.length e2
    simp only [List.length_append] at this
    cases r with
    | nil => rfl
    | cons x r => simp only [List.length_cons] at this; omega
  rw [e, this, List.append_nil]
/-- What is told of it. -/
def SortR (adj : Nat → List Nat) (n : Nat) (L : List Nat) (ok : Bool) : Prop := ∃ M, Greedy adj n M ∧ (∀ v, ¬ Free adj n M v) ∧ ok = decide (n ≤ M.length) ∧ L = if n ≤ M.length then M else []
theorem SortR.unique {L M : List Nat} {a b : Bool} (h : SortR adj n L a) (h' : SortR adj n M b) : L = M ∧ a = b := by
  obtain ⟨X, h1, h2, h3, h4⟩ := h
  obtain ⟨Y, k1, k2, k3, k4⟩ := h'
  have e := h1.unique h2 k1 k2
  subst e
  exact ⟨by rw [h4, k4], by rw [h3, k3]⟩
theorem Free.congr {adj' : Nat → List Nat} (he : ∀ u v, u < n → (v ∈ adj u ↔ v ∈ adj' u)) {L : List Nat} {v : Nat} (h : Free adj n L v) : Free adj' n L v := ⟨h.1, h.2.1, fun u hu hv => h.2.2 u hu ((he u v hu).2 hv)⟩
theorem Greedy.congr {adj' : Nat → List Nat} (he : ∀ u v, u < n → (v ∈ adj u ↔ v ∈ adj' u)) {L : List Nat} (h : Greedy adj n L) : Greedy adj' n L := by
  induction h with
  | nil => exact .nil
  | snoc _ hf hm ih => exact .snoc ih (hf.congr he) (fun u hu => hm u (hu.congr (fun u v h => (he u v h).symm)))
theorem SortR.congr {adj' : Nat → List Nat} (he : ∀ u v, u < n → (v ∈ adj u ↔ v ∈ adj' u)) {L : List Nat} {ok : Bool} (h : SortR adj n L ok) : SortR adj' n L ok := by
  obtain ⟨M, h1, h2, h3, h4⟩ := h
  exact ⟨M, h1.congr he, fun v hv => h2 v (hv.congr (fun u v h => (he u v h).symm)), h3, h4⟩
/-! ### The waiting edges -/
def left (adj : Nat → List Nat) (n : Nat) (L : List Nat) (v : Nat) : Nat := sumR (fun u => if u ∈ L then 0 else (adj u).count v) n
theorem sumR_zero {f : Nat → Nat} : ∀ {n : Nat}, sumR f n = 0 ↔ ∀ j, j < n → f j = 0
  | 0 => by simp [sumR]
  | n + 1 => by
    rw [sumR]
    constructor
    · intro h j hj
      by_cases e : j = n
      · rw [e]; omega
      · exact sumR_zero.1 (show sumR f n = 0 by omega) j (by omega)
    · intro h
      rw [sumR_zero.2 (fun j hj => h j (by omega)), h n (by omega)]
theorem left_zero {L : List Nat} {v : Nat} : left adj n L v = 0 ↔ ∀ u, u < n → v ∈ adj u → u ∈ L := by
  unfold left
  rw [sumR_zero]
  constructor
  · intro h u hu hv
    have := h u hu
    by_cases e : u ∈ L
    · exact e
    · rw [if_neg e] at this
      exact absurd hv (List.count_eq_zero.1 this)
  · intro h u hu
    by_cases e : u ∈ L
    · rw [if_pos e]
    · rw [if_neg e]
      exact List.count_eq_zero.2 (fun hv => e (h u hu hv))
theorem left_snoc {L : List Nat} {m v : Nat} (hm : m < n) (hL : m ∉ L) : left adj n L v = left adj n (L ++ [m]) v + (adj m).count v := by
  unfold left
  have h := sumR_upd (f := fun u => if u ∈ L then 0 else (adj u).count v) (g := fun u => if u ∈ L ++ [m] then 0 else (adj u).count v) hm (fun j hj => by
    have e : (j ∈ L ++ [m]) ↔ j ∈ L := by
      rw [List.mem_append, List.mem_singleton]
      exact ⟨fun h => h.resolve_right hj, .inl⟩
    simp only [e])
  simp only [if_neg hL, if_pos (show m ∈ L ++ [m] by simp)] at h
  omega
/-- Between two that are told. -/
structure KI (adj : Nat → List Nat) (n : Nat) (L rs : List Nat) (wait : Nat → Nat) : Prop where
  g : Greedy adj n L
  nd : rs.Nodup
  rs : ∀ v, v ∈ rs ↔ v < n ∧ v ∉ L ∧ wait v = 0
  w : ∀ v, v < n → wait v = left adj n L v
theorem KI.free {L rs : List Nat} {wait : Nat → Nat} (h : KI adj n L rs wait) {v : Nat} : v ∈ rs ↔ Free adj n L v := by
  rw [h.rs]
  constructor
  · rintro ⟨h1, h2, h3⟩
    rw [h.w v h1, left_zero] at h3
    exact ⟨h1, h2, h3⟩
  · rintro ⟨h1, h2, h3⟩
    exact ⟨h1, h2, by rw [h.w v h1, left_zero]; exact h3⟩
theorem KI.idle {L : List Nat} {wait : Nat → Nat} (h : KI adj n L [] wait) : ∀ v, ¬ Free adj n L v := fun v hv => by cases h.free.2 hv
theorem KI.rs_len {L rs : List Nat} {wait : Nat → Nat} (h : KI adj n L rs wait) : rs.length ≤ n := nodup_len h.nd (fun v hv => ((h.rs v).1 hv).1)
/-- While the edges of the last one told are gone through. -/
structure KJ (adj : Nat → List Nat) (n : Nat) (L : List Nat) (m : Nat) (ls : List Nat) (rs : List Nat) (wait : Nat → Nat) : Prop where
  g : Greedy adj n (L ++ [m])
  nd : rs.Nodup
  rs : ∀ v, v ∈ rs ↔ v < n ∧ v ∉ L ++ [m] ∧ wait v = 0
  w : ∀ v, v < n → wait v = left adj n (L ++ [m]) v + ls.count v
  sub : ∀ v, v ∈ ls → v ∈ adj m
  mn : m < n
  mL : m ∉ L
theorem KI.pop {L rs ys : List Nat} {wait : Nat → Nat} {m : Nat} (h : KI adj n L rs wait) (hp : rs.Perm (m :: ys)) (hm : ∀ y, y ∈ rs → m ≤ y) : KJ adj n L m (adj m) ys wait := by
  have hmr : m ∈ rs := hp.mem_iff.2 List.mem_cons_self
  have hf := h.free.1 hmr
  have hnd := hp.nodup_iff.1 h.nd
  obtain ⟨hny, hyd⟩ := List.nodup_cons.1 hnd
  refine ⟨.snoc h.g hf (fun u hu => hm u (h.free.2 hu)), hyd, fun v => ?_, fun v hv => by rw [h.w v hv, left_snoc hf.1 hf.2.1], fun v hv => hv, hf.1, hf.2.1⟩
  have e : v ∈ ys ↔ v ∈ rs ∧ v ≠ m := by
    rw [hp.mem_iff, List.mem_cons]
    constructor
    · intro hv; exact ⟨.inr hv, fun e => hny (e ▸ hv)⟩
    · rintro ⟨h1 | h1, h2⟩
      · exact absurd h1 h2
      · exact h1
  rw [e, h.rs, List.mem_append, List.mem_singleton]
  constructor
  · rintro ⟨⟨h1, h2, h3⟩, h4⟩; exact ⟨h1, fun h => h.elim h2 h4, h3⟩
  · rintro ⟨h1, h2, h3⟩; exact ⟨⟨h1, fun h => h2 (.inl h), h3⟩, fun h => h2 (.inr h)⟩
theorem Greedy.last {K L : List Nat} {m w : Nat} (hK : Greedy adj n K) (e : K = L ++ [m]) (hm : m < n) (hw : w ∈ K) (hwm : w ∈ adj m) : m ∈ L := by
  cases hK with
  | nil => cases L <;> cases e
  | @snoc K y hK hf _ =>
    obtain ⟨e1, e2⟩ := List.append_inj' e rfl
    injection e2 with e2
    subst e1 e2
    rcases List.mem_append.1 hw with h | h
    · exact hK.preds w h y hm hwm
    · rw [List.mem_singleton.1 h] at hwm
      exact hf.2.2 y hm hwm
theorem KJ.pos {L rs : List Nat} {wait : Nat → Nat} {m u : Nat} {ls : List Nat} (h : KJ adj n L m (u :: ls) rs wait) (hu : u < n) : 0 < wait u ∧ u ∉ L ++ [m] := by
  refine ⟨by rw [h.w u hu, List.count_cons_self]; omega, fun hin => ?_⟩
  have ha := h.sub u List.mem_cons_self
  exact h.mL (h.g.last rfl h.mn hin ha)
theorem KJ.keep {L rs : List Nat} {wait : Nat → Nat} {m u : Nat} {ls : List Nat} (h : KJ adj n L m (u :: ls) rs wait) (hu : u < n) (hz : wait u - 1 ≠ 0) : KJ adj n L m ls rs (upd wait u (wait u - 1)) := by
  refine ⟨h.g, h.nd, fun v => ?_, fun v hv => ?_, fun v hv => h.sub v (List.mem_cons_of_mem _ hv), h.mn, h.mL⟩
  · rw [h.rs]
    by_cases e : v = u
    · rw [e, upd_same]
      exact ⟨fun k => absurd k.2.2 (by omega), fun k => absurd k.2.2 hz⟩
    · rw [upd_ne _ _ e]
  · have := h.w v hv
    by_cases e : v = u
    · rw [e, List.count_cons_self] at this
      rw [e, upd_same]
      omega
    · rw [List.count_cons_of_ne (Ne.symm e)] at this
      rw [upd_ne _ _ e]
      exact this
theorem KJ.push {L rs ys : List Nat} {wait : Nat → Nat} {m u : Nat} {ls : List Nat} (h : KJ adj n L m (u :: ls) rs wait) (hu : u < n) (hz : wait u - 1 = 0) (hp : ys.Perm (rs ++ [u])) : KJ adj n L m ls ys (upd wait u (wait u - 1)) := by
  obtain ⟨h1, h2⟩ := h.pos hu
  have hnr : u ∉ rs := fun hr => by have := ((h.rs u).1 hr).2.2; omega
  refine ⟨h.g, ?_, fun v => ?_, fun v hv => ?_, fun v hv => h.sub v (List.mem_cons_of_mem _ hv), h.mn, h.mL⟩
  · rw [hp.nodup_iff]
    refine List.nodup_append.2 ⟨h.nd, by simp, fun a ha b hb => ?_⟩
    rw [List.mem_singleton.1 hb]
    intro e
    exact hnr (e ▸ ha)
  · rw [hp.mem_iff, List.mem_append, List.mem_singleton, h.rs]
    by_cases e : v = u
    · rw [e, upd_same]
      exact ⟨fun _ => ⟨hu, h2, hz⟩, fun _ => .inr rfl⟩
    · rw [upd_ne _ _ e]
      exact ⟨fun k => k.resolve_right e, .inl⟩
  · have := h.w v hv
    by_cases e : v = u
    · rw [e, List.count_cons_self] at this
      rw [e, upd_same]
      omega
    · rw [List.count_cons_of_ne (Ne.symm e)] at this
      rw [upd_ne _ _ e]
      exact this
theorem KJ.done {L rs : List Nat} {wait : Nat → Nat} {m : Nat} (h : KJ adj n L m [] rs wait) : KI adj n (L ++ [m]) rs wait :=
  ⟨h.g, h.nd, h.rs, fun v hv => by rw [h.w v hv]; rfl⟩
/-- Before the first. -/
theorem KI.start {rs : List Nat} {wait : Nat → Nat} (hw : ∀ v, v < n → wait v = sumR (fun u => (adj u).count v) n) (hd : rs.Nodup) (hr : ∀ v, v ∈ rs ↔ v < n ∧ wait v = 0) : KI adj n [] rs wait :=
  ⟨.nil, hd, fun v => by rw [hr]; simp, fun v hv => by rw [hw v hv]; unfold left; exact sumR_congr (fun j _ => by simp)⟩
theorem KI.told {L : List Nat} {wait : Nat → Nat} (h : KI adj n L [] wait) : SortR adj n (if n ≤ L.length then L else []) (decide (n ≤ L.length)) := ⟨L, h.g, h.idle, rfl, rfl⟩
theorem KJ.len {L rs : List Nat} {wait : Nat → Nat} {m : Nat} {ls : List Nat} (h : KJ adj n L m ls rs wait) : rs.length ≤ n ∧ L.length < n := by
  refine ⟨nodup_len h.nd (fun v hv => ((h.rs v).1 hv).1), ?_⟩
  have := h.g.len
  rw [List.length_append, List.length_singleton] at this
  omega
theorem count_take_le {l : List Nat} {v : Nat} (k : Nat) : (l.take k).count v ≤ l.length := Nat.le_trans List.count_le_length (by rw [List.length_take]; omega)
#print axioms KI.told
end
end Go.Proofs.YtgbeigippahbaaaK
