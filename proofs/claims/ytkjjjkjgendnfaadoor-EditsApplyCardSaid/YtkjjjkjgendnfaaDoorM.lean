/- Maps from int to int that a call has made itself, told by a plain Lean function: made, looked up, stored into. -/
import Derived.Maps.OwnOps
import Derived.Maps.Views
import Derived.WalkKit
import Derived.KernelRfl
import Derived.Tactics
import Derived.Deep.Draws
namespace Go.Proofs.YtkjjjkjgendnfaaDoorM
open Go.RowKit Go.Maps

/-- Block b is a map of at most n entries, in which every int k leads to F k (0 where there is no entry). -/
structure MapF (P : Program) (K E : TypeId) (w : World) (b n : Nat) (F : Int → Int) : Prop where
  out : ∃ D : DataW Unit, w.ownsMap P K (plainElem P E) b n D ∧ IsMap D ∧ ∀ k, (Lit.int .i64 k).wf = true → D.atKey (.int .i64 k) (.lit (.int .i64 0)) = .lit (.int .i64 (F k))

theorem MapF.made (P : Program) (K E : TypeId) (w : World) : MapF P K E (w.alloc (.map #[] 0)) w.heap.size 0 (fun _ => 0) :=
  ⟨⟨.map [], World.ownsMap_made w P K _, isMap_empty, fun k _ => by simp [DataW.atKey]⟩⟩
theorem MapF.lt {P : Program} {K E : TypeId} {w : World} {b n : Nat} {F : Int → Int} (h : MapF P K E w b n F) : b < w.heap.size := by
  obtain ⟨D, h, _⟩ := h.out
  exact h.lt
theorem MapF.kept {P : Program} {K E : TypeId} {w w' : World} {b n : Nat} {F : Int → Int} {row : Option Nat} (h : MapF P K E w b n F) (hg : w.grownBy w' row) (hne : some b ≠ row) : MapF P K E w' b n F := by
  obtain ⟨D, h, h1, h2⟩ := h.out
  exact ⟨⟨D, h.kept hg hne, h1, h2⟩⟩
theorem MapF.alloc {P : Program} {K E : TypeId} {w : World} {b n : Nat} {F : Int → Int} (h : MapF P K E w b n F) (o : Obj) : MapF P K E (w.alloc o) b n F := by
  obtain ⟨D, h, h1, h2⟩ := h.out
  exact ⟨⟨D, h.alloc o, h1, h2⟩⟩
theorem MapF.drew {P : Program} {K E : TypeId} {w : World} {b n : Nat} {F : Int → Int} (h : MapF P K E w b n F) : MapF P K E w.drew b n F := by
  obtain ⟨D, h, h1, h2⟩ := h.out
  exact ⟨⟨D, h.drew, h1, h2⟩⟩
theorem MapF.drewN {P : Program} {K E : TypeId} {w : World} {b n : Nat} {F : Int → Int} (h : MapF P K E w b n F) (j : Nat) : MapF P K E (w.drewN j) b n F := by
  obtain ⟨D, ⟨es, cl, h⟩, h1, h2⟩ := h.out
  exact ⟨⟨D, ⟨es, cl, h⟩, h1, h2⟩⟩
theorem MapF.below {P : Program} {K E : TypeId} {w w' : World} {b n B : Nat} {F : Int → Int} (h : MapF P K E w b n F) (hb : Below B w w') (hlt : b < B) : MapF P K E w' b n F := by
  obtain ⟨D, ⟨es, cl, h, hr⟩, h1, h2⟩ := h.out
  exact ⟨⟨D, ⟨es, cl, (hb.block b hlt).trans h, hr⟩, h1, h2⟩⟩
theorem MapF.mono {P : Program} {K E : TypeId} {w : World} {b n n' : Nat} {F : Int → Int} (h : MapF P K E w b n F) (hn : n ≤ n') : MapF P K E w b n' F := by
  obtain ⟨D, h, h1, h2⟩ := h.out
  exact ⟨⟨D, h.mono hn, h1, h2⟩⟩
theorem MapF.congr {P : Program} {K E : TypeId} {w : World} {b n : Nat} {F G : Int → Int} (h : MapF P K E w b n F) (e : ∀ k, F k = G k) : MapF P K E w b n G := by
  obtain rfl : F = G := funext e
  exact h

/-- F with one more entry. -/
def upd (F : Int → Int) (k v : Int) : Int → Int := fun j => if j = k then v else F j

section
variable {P : Program} {K E T : TypeId} (hK : P.underlying K = some (.int .i64)) (hE : P.underlying E = some (.int .i64)) (hT : P.underlying T = some (.map K E)) (hz : ∀ w : World, (zeroValue E).run P w = .ok (.int .i64 0) w)
include hK hE hT

theorem MapF.update {w : World} {b n : Nat} {F : Int → Int} (h : MapF P K E w b n F) (hn : n < maxLen) (k v : Int) (wk : (Lit.int .i64 k).wf = true) (wv : (Lit.int .i64 v).wf = true) :
    ∃ w', (Instr.mapUpdate T (.map (some b)) (.int .i64 k) (.int .i64 v)).run P w = .ok () w' ∧ MapF P K E w' b (n + 1) (upd F k v) ∧ w.grownBy w' (some b) := by
  obtain ⟨D, h, h1, h2⟩ := h.out
  obtain ⟨w', hr, ho, hg⟩ := h.update (int_keyed hK) hT hn (keyOf_int_mk hK wk) (plainElem_int hE wv)
  refine ⟨w', hr, ⟨⟨_, ho, h1.put _ _, fun j wj => ?_⟩⟩, hg⟩
  unfold upd
  by_cases e : j = k
  · subst e
    rw [if_pos rfl]
    exact atKey_put_same h1 ((int_keyed hK).key (keyOf_int_mk hK wk)) _ _
  · rw [if_neg e, atKey_put_other (by intro hh; injection hh with _ hh; exact e hh)]
    exact h2 j wj

include hz
theorem MapF.lookup {w : World} {b n : Nat} {F : Int → Int} (h : MapF P K E w b n F) (k : Int) (wk : (Lit.int .i64 k).wf = true) :
    (Instr.lookup T (.map (some b)) (.int .i64 k) false).run P w = .ok (.int .i64 (F k)) w := by
  obtain ⟨D, h, _, h2⟩ := h.out
  obtain ⟨c, hr, hat, _⟩ := h.lookup_int (int_keyed hK) hT hE (hz w) (keyOf_int_mk hK wk)
  rw [h2 k wk] at hat
  injection hat with hat
  injection hat with _ hat
  subst hat
  exact hr
end

section
variable {P : Program} {K E T : TypeId} (hK : P.underlying K = some (.int .i64)) (hE : P.underlying E = some (.int .i64)) (hT : P.underlying T = some (.map K E)) (hz : ∀ w : World, (zeroValue E).run P w = .ok (.int .i64 0) w)
variable (w : World) {ops : Array Oper} {rest : List Oper} {o : Oper} {a : Act} {Q : Exit → Act → World → Prop}
include hK hE hT
theorem wpList_update_F (hg : o.guard = none) (m x v : Operand) (hop : o.op = Op.mapUpdate T m x v ∨ o.op = Op.insert T m x v) (b n : Nat) (F : Int → Int) (hm : a.eval m = .map (some b)) (h : MapF P K E w b n F) (hn : n < maxLen)
    (k y : Int) (hx : a.eval x = .int .i64 k) (hv : a.eval v = .int .i64 y) (wk : (Lit.int .i64 k).wf = true) (wy : (Lit.int .i64 y).wf = true)
    (hq : ∀ w', MapF P K E w' b (n + 1) (upd F k y) → w.grownBy w' (some b) → wpList P ops Q rest (a.put o.dst undef) w') : wpList P ops Q (o :: rest) a w := by
  refine wpList_plain hg fun K' hK' => ?_
  obtain ⟨w', hrun, r1, r2⟩ := h.update hK hE hT hn k y wk wy
  unfold Oper.wp
  rcases hop with hop | hop
  · simp [execOp, hop, hm, hx, hv, hrun, Result.andThen]
    exact hK' _ _ (hq w' r1 r2)
  · simp [execOp, hop, hm, hx, hv, hrun, Result.andThen]
    exact hK' _ _ (hq w' r1 r2)
include hz
theorem wpList_lookup_F (hg : o.guard = none) (m x : Operand) (hop : o.op = Op.lookup T m x false) (b n : Nat) (F : Int → Int) (hm : a.eval m = .map (some b)) (h : MapF P K E w b n F)
    (k : Int) (hx : a.eval x = .int .i64 k) (wk : (Lit.int .i64 k).wf = true) (hq : wpList P ops Q rest (a.put o.dst (.int .i64 (F k))) w) : wpList P ops Q (o :: rest) a w := by
  refine wpList_plain hg fun K' hK' => ?_
  have hrun := h.lookup hK hE hT hz k wk
  unfold Oper.wp
  simp [execOp, hop, hm, hx, hrun, Result.andThen]
  exact hK' _ _ hq
end
end Go.Proofs.YtkjjjkjgendnfaaDoorM
