/- Knots, the plain law of the document's answer: what comes from what; and how memory holds a table of bools. -/
import Derived.Test.YtgbeigippahbaaaKL
namespace Go.Proofs.YtgbeigippahbaaaK
open Go.RowKit Go.Proofs Go.Proofs.YtgbeigippahbaaaW.PrintWords Go.Proofs.YtgbeigippahbaaaW.PrintLast

/-- One thing more is allowed on the way. -/
def war (M : Nat → Nat → Bool) : Nat → Nat → Nat → Bool
  | 0 => M
  | k + 1 => fun i j => war M k i j || (war M k i k && war M k k j)
theorem war_mono {M : Nat → Nat → Bool} {i j : Nat} : ∀ {k m : Nat}, k ≤ m → war M k i j = true → war M m i j = true
  | k, 0, h, e => by rw [show k = 0 by omega] at e; exact e
  | k, m + 1, h, e => by
    by_cases hk : k = m + 1
    · rw [← hk]; exact e
    · show (war M m i j || _) = true
      rw [war_mono (m := m) (by omega) e]
      rfl
theorem war_closed {M : Nat → Nat → Bool} : ∀ {k m : Nat}, m < k → ∀ i j, war M k i m = true → war M k m j = true → war M k i j = true
  | 0, m, h, _, _, _, _ => by cases h
  | k + 1, m, h, i, j, h1, h2 => by
    have ih := fun (m : Nat) (h : m < k) => war_closed (M := M) (k := k) (m := m) h
    simp only [war, Bool.or_eq_true, Bool.and_eq_true] at h1 h2 ⊢
    by_cases e : m = k
    · subst e
      right
      refine ⟨?_, ?_⟩
      · rcases h1 with h1 | h1
        · exact h1
        · exact h1.1
      · rcases h2 with h2 | h2
        · exact h2
        · exact h2.2
    · have hm : m < k := by omega
      rcases h1 with h1 | ⟨h1, h1'⟩
      · rcases h2 with h2 | ⟨h2, h2'⟩
        · exact .inl (ih m hm i j h1 h2)
        · exact .inr ⟨ih m hm i k h1 h2, h2'⟩
      · rcases h2 with h2 | ⟨h2, h2'⟩
        · exact .inr ⟨h1, ih m hm k j h1' h2⟩
        · exact .inr ⟨h1, h2'⟩
theorem war_succ {M : Nat → Nat → Bool} {k i j : Nat} : war M (k + 1) i j = (war M k i j || (war M k i k && war M k k j)) := rfl
theorem war_row {M : Nat → Nat → Bool} {k j : Nat} : war M (k + 1) k j = war M k k j := by
  show (war M k k j || (war M k k k && war M k k j)) = war M k k j
  generalize war M k k j = a
  generalize war M k k k = b
  cases a <;> cases b <;> rfl
def edgeM (n : Nat) (es : List Edge) (u v : Nat) : Bool := decide (v ∈ adjE n es u)
theorem war_sound {n : Nat} {es : List Edge} : ∀ {k i j : Nat}, war (edgeM n es) k i j = true → Rc (adjE n es) i j
  | 0, i, j, h => Rc.one (of_decide_eq_true h)
  | k + 1, i, j, h => by
    simp only [war, Bool.or_eq_true, Bool.and_eq_true] at h
    rcases h with h | ⟨h, h'⟩
    · exact war_sound h
    · exact (war_sound h).trans (war_sound h')
theorem war_full {n : Nat} {es : List Edge} {a b : Nat} (h : Rc (adjE n es) a b) : a = b ∨ war (edgeM n es) n a b = true := by
  induction h with
  | refl => exact .inl rfl
  | @tail b c _ hc ih =>
    have hbc : war (edgeM n es) n b c = true := war_mono (Nat.zero_le n) (decide_eq_true hc)
    obtain ⟨_, _, _, _, hb, _⟩ := adjE_mem.1 hc
    rcases ih with e | ih
    · rw [e]; exact .inr hbc
    · exact .inr (war_closed hb _ _ ih hbc)
/-- The least of i's knot, by the table. -/
def LeastK (M : Nat → Nat → Bool) (i k : Nat) : Prop := (k = i ∨ (M i k = true ∧ M k i = true)) ∧ ∀ m, m < k → ¬ m = i ∧ ¬ (M i m = true ∧ M m i = true)
theorem leastK_knots {n : Nat} {es : List Edge} {l : List Nat} (hl : l.length = n) (h : ∀ i, i < n → LeastK (war (edgeM n es) n) i (l.getD i 0)) : KnotsR (adjE n es) n l := by
  refine ⟨hl, fun v hv => ?_⟩
  obtain ⟨h1, h2⟩ := h v hv
  refine ⟨?_, ?_, fun w a b => ?_⟩
  · show Rc (adjE n es) v (l.getD v 0)
    rcases h1 with e | ⟨e, _⟩
    · rw [e]; exact .refl _
    · exact war_sound e
  · show Rc (adjE n es) (l.getD v 0) v
    rcases h1 with e | ⟨_, e⟩
    · rw [e]; exact .refl _
    · exact war_sound e
  · show l.getD v 0 ≤ w
    rcases Nat.lt_or_ge w (l.getD v 0) with hlt | hge
    · obtain ⟨c1, c2⟩ := h2 w hlt
      rcases war_full a with e | e
      · exact absurd e.symm c1
      · rcases war_full b with e' | e'
        · exact absurd e' c1
        · exact absurd ⟨e, e'⟩ c2
    · exact hge
/-! ### A table in memory -/
def upd2 (M : Nat → Nat → Bool) (i j : Nat) (b : Bool) : Nat → Nat → Bool := fun u v => if u = i ∧ v = j then b else M u v
def rowsV (n : Nat) (r : Nat → Nat) (k : Nat) : List Value := (List.range k).map fun i => .slice (some ⟨r i, 0, none⟩) n n
structure Mat (w : World) (B : Nat) (vc : Value) (n k : Nat) (M : Nat → Nat → Bool) (r : Nat → Nat) : Prop where
  own : w.ownsRow B 40 1 vc k (rowsV n r k)
  row : ∀ i, i < k → w.heap[r i]? = some (.cells (boolsC n (M i)).toArray 4 (0, 0))
  base : ∀ i, i < k → B ≤ r i
  apart : ∀ i j, i < k → j < k → r i = r j → i = j
  ne : ∀ i, i < k → vc.ownBlock ≠ some (r i)
section
variable {w w' : World} {B n k g c : Nat} {vc : Value} {M : Nat → Nat → Bool} {r : Nat → Nat}
theorem Mat.more (h : Mat w B vc n k M r) (hk : Keep w w' (fun k => k < w.heap.size)) : Mat w' B vc n k M r :=
  ⟨own_keep h.own (fun k e => hk.block k (own_lt' h.own e) (own_lt' h.own e)), fun i hi => hk.heap (h.row i hi) (Array.getElem?_eq_some_iff.1 (h.row i hi)).1, h.base, h.apart, h.ne⟩
theorem Mat.below (h : Mat w B vc n k M r) (hb : Below w.heap.size w w') : Mat w' B vc n k M r := h.more (Keep.of_below hb (Nat.le_refl _))
theorem Mat.drew (h : Mat w B vc n k M r) : Mat w.drew B vc n k M r := h.more (Keep.drew _ _)
theorem Mat.cong (h : Mat w B vc n k M r) {M' : Nat → Nat → Bool} (he : ∀ i j, i < k → j < n → M' i j = M i j) : Mat w B vc n k M' r :=
  ⟨h.own, fun i hi => by
    rw [h.row i hi]
    have : boolsC n (M i) = boolsC n (M' i) := by
      unfold boolsC
      refine List.map_congr_left fun j hj => ?_
      rw [he i j hi (List.mem_range.1 hj)]
    rw [this], h.base, h.apart, h.ne⟩
theorem Mat.form (h : Mat w B vc n k M r) : ∃ A c, vc = .slice A k c := by
  rcases h.own.2 with ⟨e, h0⟩ | ⟨g', cap', cur, e, _⟩
  · exact ⟨_, _, by rw [e, h0]⟩
  · exact ⟨_, _, e⟩
theorem Mat.at (h : Mat w B vc n k M r) (hk : 0 < k) : ∃ g c, vc = .slice (some ⟨g, 0, none⟩) k c ∧ ∀ i, i < k → w.cell? ⟨g, i, none⟩ = some (.slice (some ⟨r i, 0, none⟩) n n) := by
  obtain ⟨g, c, hv, _⟩ := h.own.form hk
  refine ⟨g, c, hv, fun i hi => ?_⟩
  have := h.own
  rw [hv] at this
  rw [this.cellAt i (by omega), rowsV, List.getElem?_map, List.getElem?_range hi]
  rfl
theorem Mat.rows (h : Mat w B (.slice (some ⟨g, 0, none⟩) k c) n k M r) {i : Nat} (hi : i < k) : w.cell? ⟨g, i, none⟩ = some (.slice (some ⟨r i, 0, none⟩) n n) := by
  rw [h.own.cellAt i (by omega), rowsV, List.getElem?_map, List.getElem?_range hi]
  rfl
theorem Mat.bit (h : Mat w B vc n k M r) {i j : Nat} (hi : i < k) (hj : j < n) : w.cell? ⟨r i, j, none⟩ = some (.bool (M i j)) := boolsC_at (h.row i hi) hj
theorem Mat.free (h : Mat w B vc n k M r) {i j : Nat} (hi : i < k) : w.frozen? ⟨r i, j, none⟩ = false := frozen_at (h.row i hi)
theorem Mat.set (h : Mat w B vc n k M r) {i : Nat} (hi : i < k) (j : Nat) (b : Bool) : Mat (w.setCell ⟨r i, j, none⟩ (.bool b)) B vc n k (upd2 M i j b) r := by
  refine ⟨own_keep h.own (fun q e => Below.heap_setCell _ _ _ _ (fun e2 => h.ne i hi (by rw [e]; exact congrArg some e2))), fun u hu => ?_, h.base, h.apart, h.ne⟩
  by_cases e : u = i
  · subst e
    rw [heap_set (h.row u hu), boolsC_upd]
    refine congrArg (fun f => some (Obj.cells (boolsC n f).toArray 4 (0, 0))) (funext fun v => ?_)
    unfold upd upd2
    by_cases e2 : v = j
    · rw [if_pos e2, if_pos ⟨rfl, e2⟩]
    · rw [if_neg e2, if_neg (fun h => e2 h.2)]
  · have hne : r u ≠ r i := fun e2 => e (h.apart u i hu hi e2)
    rw [Below.heap_setCell _ _ _ _ hne, h.row u hu]
    refine congrArg (fun f => some (Obj.cells (boolsC n f).toArray 4 (0, 0))) (funext fun v => ?_)
    unfold upd2
    rw [if_neg (fun h => e h.1)]
/-- A row more. -/
theorem Mat.push (h : Mat w B vc n k M r) (hB : B ≤ w.heap.size) {vc' : Value} {w1 : World} (hw1 : w1 = w.alloc (.cells (boolsC n fun _ => false).toArray 4)) (hown : w'.ownsRow B 40 1 vc' (k + 1) (rowsV n r k ++ [.slice (some ⟨w.heap.size, 0, none⟩) n n])) (hg : w1.grownBy w' vc.ownBlock) (hat : vc'.ownBlock = vc.ownBlock ∨ ∃ b, vc'.ownBlock = some b ∧ w1.heap.size ≤ b) (hM : ∀ j, M k j = false) :
    Mat w' B vc' n (k + 1) M (upd r k w.heap.size) := by
  have hs : w1.heap.size = w.heap.size + 1 := by rw [hw1]; simp only [World.alloc, Array.size_push]
  have hk1 : Keep w w1 (fun k => k < w.heap.size) := by rw [hw1]; exact Keep.of_below (below_alloc (Below.refl _ _) _) (Nat.le_refl _)
  have h1 := h.more hk1
  have hlt : ∀ i, i < k → r i < w.heap.size := fun i hi => (Array.getElem?_eq_some_iff.1 (h.row i hi)).1
  have hr : ∀ i, i < k → upd r k w.heap.size i = r i := fun i hi => upd_ne _ _ (by omega)
  have hrk : upd r k w.heap.size k = w.heap.size := upd_same _ _ _
  refine ⟨?_, fun i hi => ?_, fun i hi => ?_, fun i j hi hj e => ?_, fun i hi => ?_⟩
  · have : rowsV n (upd r k w.heap.size) (k + 1) = rowsV n r k ++ [.slice (some ⟨w.heap.size, 0, none⟩) n n] := by
      unfold rowsV
      rw [List.range_succ, List.map_append, List.map_singleton, hrk]
      congr 1
      refine List.map_congr_left fun i hi => ?_
      rw [hr i (List.mem_range.1 hi)]
    rw [this]
    exact hown
  · by_cases e : i = k
    · rw [e, hrk]
      have e1 : w1.heap[w.heap.size]? = some (.cells (boolsC n (M k)).toArray 4 (0, 0)) := by
        rw [hw1]
        have : M k = fun _ => false := funext hM
        rw [this]
        exact heap_alloc_last w _
      rw [hg.block _ (by omega) (fun e2 => by have := own_lt' h.own e2.symm; omega)]
      exact e1
    · rw [hr i (by omega), hg.block _ (by have := hlt i (by omega); omega) (fun e2 => h.ne i (by omega) e2.symm)]
      exact h1.row i (by omega)
  · by_cases e : i = k
    · rw [e, hrk]; exact hB
    · rw [hr i (by omega)]; exact h.base i (by omega)
  · by_cases e1 : i = k
    · by_cases e2 : j = k
      · rw [e1, e2]
      · rw [e1, hrk, hr j (by omega)] at e
        have := hlt j (by omega)
        omega
    · by_cases e2 : j = k
      · rw [e2, hrk, hr i (by omega)] at e
        have := hlt i (by omega)
        omega
      · rw [hr i (by omega), hr j (by omega)] at e
        exact h.apart i j (by omega) (by omega) e
  · by_cases e1 : i = k
    · rw [e1, hrk]
      rcases hat with hat | ⟨b, hb, hle⟩
      · rw [hat]; intro e; have := own_lt' h.own e; omega
      · rw [hb]; intro e; injection e with e; omega
    · rw [hr i (by omega)]
      rcases hat with hat | ⟨b, hb, hle⟩
      · rw [hat]; exact h.ne i (by omega)
      · rw [hb]; intro e; injection e with e; have := hlt i (by omega); omega
end
#print axioms Mat.push
end Go.Proofs.YtgbeigippahbaaaK
