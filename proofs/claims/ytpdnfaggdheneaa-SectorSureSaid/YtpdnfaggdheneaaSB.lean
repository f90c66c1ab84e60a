/- Two kinds of maps that the law makes itself: sets of texts (map[string]bool), and a table from int to such sets. -/
import Derived.Maps.OwnOps
import Derived.Maps.Views
import Derived.WalkKit
import Derived.KernelRfl
import Derived.Tactics
import Derived.Deep.Draws
import Derived.Test.YtpdnfaggdheneaaSF
namespace Go.Proofs.YtpdnfaggdheneaaS
open Go.RowKit Go.Maps Go.Proofs

/-! ### map[string]bool -/
theorem plainElem_bool_inv {P : Program} {e : TypeId} (he : P.underlying e = some .bool) {v : Value} {z : DataW Unit × List MemPlace} (h : plainElem P e v = some z) : ∃ b, v = .bool b ∧ z = (.lit (.bool b), []) := by
  unfold plainElem at h
  rw [he] at h
  cases v <;> simp at h
  subst h
  exact ⟨_, rfl, rfl⟩
/-- Block b is a map of at most n entries that leads each short text s to F s (false where there is no entry). -/
structure SetF (w : World) (b n : Nat) (F : ByteArray → Bool) : Prop where
  out : ∃ D : DataW Unit, w.ownsMap Try.prog 9 (plainElem Try.prog 4) b n D ∧ IsMap D ∧ ∀ s : ByteArray, s.size ≤ maxLen → D.atKey (.string s.data.toList) (.lit (.bool false)) = .lit (.bool (F s))
theorem SetF.made (w : World) : SetF (w.alloc (.map #[] 0)) w.heap.size 0 (fun _ => false) :=
  ⟨⟨.map [], World.ownsMap_made w _ _ _, isMap_empty, fun k _ => by simp [DataW.atKey]⟩⟩
theorem SetF.lt {w : World} {b n : Nat} {F : ByteArray → Bool} (h : SetF w b n F) : b < w.heap.size := by
  obtain ⟨D, h, _⟩ := h.out
  exact h.lt
theorem SetF.heap {w w' : World} {b n : Nat} {F : ByteArray → Bool} (h : SetF w b n F) (hb : w'.heap[b]? = w.heap[b]?) : SetF w' b n F := by
  obtain ⟨D, ⟨es, cl, h0, hr⟩, h1, h2⟩ := h.out
  exact ⟨⟨D, ⟨es, cl, hb.trans h0, hr⟩, h1, h2⟩⟩
theorem SetF.mono {w : World} {b n n' : Nat} {F : ByteArray → Bool} (h : SetF w b n F) (hn : n ≤ n') : SetF w b n' F := by
  obtain ⟨D, h, h1, h2⟩ := h.out
  exact ⟨⟨D, h.mono hn, h1, h2⟩⟩
def addS (F : ByteArray → Bool) (s : ByteArray) : ByteArray → Bool := fun t => decide (t = s) || F t
theorem strKey {s : ByteArray} (hs : s.size ≤ maxLen) : keyOf Try.prog 9 (.string s) = some (.string s.data.toList) := WideMaps.keyOf_string_mk Try.underlying9 hs
theorem zeroBool (w : World) : (zeroValue 4).run Try.prog w = .ok (.bool false) w := by kernel_rfl
theorem SetF.add {w : World} {b n : Nat} {F : ByteArray → Bool} (h : SetF w b n F) (hn : n < maxLen) {s : ByteArray} (hs : s.size ≤ maxLen) :
    ∃ w', (Instr.mapUpdate 33 (.map (some b)) (.string s) (.bool true)).run Try.prog w = .ok () w' ∧ SetF w' b (n + 1) (addS F s) ∧ w.grownBy w' (some b) := by
  obtain ⟨D, h, h1, h2⟩ := h.out
  obtain ⟨w', hr, ho, hg⟩ := h.update (string_keyed Try.underlying9) Try.underlying33 hn (strKey hs) (plainElem_bool Try.underlying4 true)
  refine ⟨w', hr, ⟨⟨_, ho, h1.put _ _, fun t ht => ?_⟩⟩, hg⟩
  unfold addS
  by_cases e : t = s
  · subst e
    rw [decide_eq_true rfl, Bool.true_or]
    exact atKey_put_same h1 ((string_keyed Try.underlying9).key (strKey hs)) _ _
  · rw [decide_eq_false e, Bool.false_or, atKey_put_other (by intro hh; injection hh with hh; exact e (by cases t; cases s; simp at hh; subst hh; rfl))]
    exact h2 t ht
theorem SetF.has {w : World} {b n : Nat} {F : ByteArray → Bool} (h : SetF w b n F) {s : ByteArray} (hs : s.size ≤ maxLen) :
    (Instr.lookup 33 (.map (some b)) (.string s) false).run Try.prog w = .ok (.bool (F s)) w := by
  obtain ⟨D, h, _, h2⟩ := h.out
  obtain ⟨v, ps, hr, hv⟩ := h.lookup (string_keyed Try.underlying9) Try.underlying33 (zeroBool w) (plainElem_bool Try.underlying4 false) (strKey hs)
  obtain ⟨c, rfl, hc⟩ := plainElem_bool_inv Try.underlying4 hv
  rw [h2 s hs] at hc
  injection hc with hc _
  injection hc with hc
  injection hc with hc
  rw [hr, hc]

/-! ### map[int]map[string]bool -/
/-- How a map that is an element reads here: by its block's number. -/
def mapR : Value → Option (DataW Unit × List MemPlace)
  | .map (some b) => some (.lit (.int .i64 (b : Int)), [])
  | .map none => some (.lit (.int .i64 (-1)), [])
  | _ => none
structure TabF (w : World) (b n : Nat) (G : Int → Option Nat) : Prop where
  out : ∃ D : DataW Unit, w.ownsMap Try.prog 3 mapR b n D ∧ IsMap D ∧ ∀ k, (Lit.int .i64 k).wf = true → ∃ v, mapR (.map (G k)) = some (v, []) ∧ D.atKey (.int .i64 k) (.lit (.int .i64 (-1))) = v
theorem mapR_inv {v : Value} {m : Option Nat} {z : DataW Unit} {ps : List MemPlace} (h : mapR v = some (z, ps)) (h' : mapR (.map m) = some (z, [])) : v = .map m := by
  cases v with
  | map o =>
    cases o <;> cases m <;> simp [mapR] at h h'
    · rfl
    · obtain ⟨h, _⟩ := h
      rw [← h] at h'
      simp at h'
    · obtain ⟨h, _⟩ := h
      rw [← h] at h'
      simp at h'
    · obtain ⟨h, _⟩ := h
      rw [← h] at h'
      simp at h'
      have h' := Int.ofNat.inj h'
      rw [h']
  | _ => cases h
theorem zeroMap (w : World) : (zeroValue 33).run Try.prog w = .ok (.map none) w := by kernel_rfl
theorem TabF.made (w : World) : TabF (w.alloc (.map #[] 0)) w.heap.size 0 (fun _ => none) :=
  ⟨⟨.map [], World.ownsMap_made w _ _ _, isMap_empty, fun k _ => ⟨_, rfl, by simp [DataW.atKey]⟩⟩⟩
theorem TabF.lt {w : World} {b n : Nat} {G : Int → Option Nat} (h : TabF w b n G) : b < w.heap.size := by
  obtain ⟨D, h, _⟩ := h.out
  exact h.lt
theorem TabF.heap {w w' : World} {b n : Nat} {G : Int → Option Nat} (h : TabF w b n G) (hb : w'.heap[b]? = w.heap[b]?) : TabF w' b n G := by
  obtain ⟨D, ⟨es, cl, h0, hr⟩, h1, h2⟩ := h.out
  exact ⟨⟨D, ⟨es, cl, hb.trans h0, hr⟩, h1, h2⟩⟩
def updT (G : Int → Option Nat) (k : Int) (b : Nat) : Int → Option Nat := fun j => if j = k then some b else G j
theorem TabF.put {w : World} {b n : Nat} {G : Int → Option Nat} (h : TabF w b n G) (hn : n < maxLen) (k : Int) (wk : (Lit.int .i64 k).wf = true) (g : Nat) :
    ∃ w', (Instr.mapUpdate 30 (.map (some b)) (.int .i64 k) (.map (some g))).run Try.prog w = .ok () w' ∧ TabF w' b (n + 1) (updT G k g) ∧ w.grownBy w' (some b) := by
  obtain ⟨D, h, h1, h2⟩ := h.out
  obtain ⟨w', hr, ho, hg⟩ := h.update (int_keyed Try.underlying3) Try.underlying30 hn (keyOf_int_mk Try.underlying3 wk) (show mapR (.map (some g)) = some _ from rfl)
  refine ⟨w', hr, ⟨⟨_, ho, h1.put _ _, fun j wj => ?_⟩⟩, hg⟩
  unfold updT
  by_cases e : j = k
  · subst e
    rw [if_pos rfl]
    exact ⟨_, rfl, atKey_put_same h1 ((int_keyed Try.underlying3).key (keyOf_int_mk Try.underlying3 wk)) _ _⟩
  · rw [if_neg e, atKey_put_other (by intro hh; injection hh with _ hh; exact e hh)]
    exact h2 j wj
theorem TabF.get {w : World} {b n : Nat} {G : Int → Option Nat} (h : TabF w b n G) (k : Int) (wk : (Lit.int .i64 k).wf = true) :
    (Instr.lookup 30 (.map (some b)) (.int .i64 k) false).run Try.prog w = .ok (.map (G k)) w := by
  obtain ⟨D, h, _, h2⟩ := h.out
  obtain ⟨v, ps, hr, hv⟩ := h.lookup (int_keyed Try.underlying3) Try.underlying30 (zeroMap w) (show mapR (.map none) = some _ from rfl) (keyOf_int_mk Try.underlying3 wk)
  obtain ⟨z, hz, hat⟩ := h2 k wk
  rw [hat] at hv
  rw [hr, mapR_inv hv hz]

/-! ### At the operations -/
section
variable (w : World) {ops : Array Oper} {rest : List Oper} {o : Oper} {a : Act} {Q : Exit → Act → World → Prop}
theorem wpList_add (hg : o.guard = none) (m x v : Operand) (hop : o.op = Op.mapUpdate 33 m x v ∨ o.op = Op.insert 33 m x v) (b n : Nat) (F : ByteArray → Bool) (hm : a.eval m = .map (some b)) (h : SetF w b n F) (hn : n < maxLen)
    (s : ByteArray) (hx : a.eval x = .string s) (hv : a.eval v = .bool true) (hs : s.size ≤ maxLen)
    (hq : ∀ w', SetF w' b (n + 1) (addS F s) → w.grownBy w' (some b) → wpList Try.prog ops Q rest (a.put o.dst undef) w') : wpList Try.prog ops Q (o :: rest) a w := by
  refine wpList_plain hg fun K' hK' => ?_
  obtain ⟨w', hrun, r1, r2⟩ := h.add hn hs
  unfold Oper.wp
  rcases hop with hop | hop
  · simp [execOp, hop, hm, hx, hv, hrun, Result.andThen]
    exact hK' _ _ (hq w' r1 r2)
  · simp [execOp, hop, hm, hx, hv, hrun, Result.andThen]
    exact hK' _ _ (hq w' r1 r2)
theorem wpList_put (hg : o.guard = none) (m x v : Operand) (hop : o.op = Op.mapUpdate 30 m x v) (b n : Nat) (G : Int → Option Nat) (hm : a.eval m = .map (some b)) (h : TabF w b n G) (hn : n < maxLen)
    (k : Int) (g : Nat) (hx : a.eval x = .int .i64 k) (hv : a.eval v = .map (some g)) (wk : (Lit.int .i64 k).wf = true)
    (hq : ∀ w', TabF w' b (n + 1) (updT G k g) → w.grownBy w' (some b) → wpList Try.prog ops Q rest (a.put o.dst undef) w') : wpList Try.prog ops Q (o :: rest) a w := by
  refine wpList_plain hg fun K' hK' => ?_
  obtain ⟨w', hrun, r1, r2⟩ := h.put hn k wk g
  unfold Oper.wp
  simp [execOp, hop, hm, hx, hv, hrun, Result.andThen]
  exact hK' _ _ (hq w' r1 r2)
end
#print axioms wpList_put
#print axioms SetF.has
end Go.Proofs.YtpdnfaggdheneaaS
