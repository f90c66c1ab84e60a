/- Tree: maps from int to string, told by a plain Lean function. -/
import Derived.Test.YtkmbkgjfhjjicaaProg
import Derived.Test.YtkmbkgjfhjjicaaWWords
import Derived.Test.YtkmbkgjfhjjicaaWLast
import Derived.Maps.OwnSet
import Derived.Maps.StringElems
import Derived.Maps.Views
import Derived.WalkKit
import Derived.WalkSpells
import Derived.WalkLawsBesides
import Derived.Below
import Derived.Lib.Hide
import Derived.KernelRfl
import Derived.Tactics
import Derived.RegionTactic
namespace Go.Proofs.YtkmbkgjfhjjicaaT
open Go.RowKit Go.Maps Go.Proofs Go.Proofs.YtkmbkgjfhjjicaaW.PrintWords Go.Proofs.YtkmbkgjfhjjicaaW.PrintLast

/-! ### Worlds -/
/-- What stays: every block of w's that is ok. -/
structure Keep (w w' : World) (ok : Nat → Prop) : Prop where
  os : w'.os = w.os
  tape : w'.tape = w.tape
  output : w'.output = w.output
  size : w.heap.size ≤ w'.heap.size
  block : ∀ k, k < w.heap.size → ok k → w'.heap[k]? = w.heap[k]?
theorem Keep.refl (w : World) (ok : Nat → Prop) : Keep w w ok := ⟨rfl, rfl, rfl, Nat.le_refl _, fun _ _ _ => rfl⟩
theorem Keep.trans {a b c : World} {ok : Nat → Prop} (h : Keep a b ok) (h' : Keep b c ok) : Keep a c ok :=
  ⟨h'.os.trans h.os, h'.tape.trans h.tape, h'.output.trans h.output, Nat.le_trans h.size h'.size, fun k hk ho => (h'.block k (Nat.lt_of_lt_of_le hk h.size) ho).trans (h.block k hk ho)⟩
theorem Keep.mono {a b : World} {ok ok' : Nat → Prop} (h : Keep a b ok) (hm : ∀ k, k < a.heap.size → ok' k → ok k) : Keep a b ok' :=
  ⟨h.os, h.tape, h.output, h.size, fun k hk ho => h.block k hk (hm k hk ho)⟩
theorem Keep.below {a b : World} {ok : Nat → Prop} {B : Nat} (h : Keep a b ok) (hB : B ≤ a.heap.size) (hm : ∀ k, k < B → ok k) : Below B a b :=
  ⟨h.os, h.tape, h.output, h.size, fun k hk => h.block k (Nat.lt_of_lt_of_le hk hB) (hm k hk)⟩
theorem Keep.of_below {w w' : World} {ok : Nat → Prop} (h : Below w.heap.size w w') : Keep w w' ok := ⟨h.os, h.tape, h.output, h.size, fun k hk _ => h.block k hk⟩
theorem Keep.heap {w w' : World} {ok : Nat → Prop} (h : Keep w w' ok) {k : Nat} {o : Obj} (hk : w.heap[k]? = some o) (ho : ok k) : w'.heap[k]? = some o := (h.block k (Array.getElem?_eq_some_iff.1 hk).1 ho).trans hk
theorem Keep.cell {a b : World} {ok : Nat → Prop} (h : Keep a b ok) {p : Addr} {v : Value} (hc : a.cell? p = some v) (ho : ok p.block) : b.cell? p = some v := by
  rw [World.cell?_of_block (w := a) (h.block p.block (World.block_lt_of_cell? a _ hc) ho)]
  exact hc
theorem Keep.of_grown {w w' : World} {row : Option Nat} (h : w.grownBy w' row) : Keep w w' (fun k => row ≠ some k) := ⟨h.os, h.tape, h.output, h.size, fun k hk ho => h.block k hk (fun e => ho e.symm)⟩
theorem Keep.setCell (w : World) (p : Addr) (u : Value) {ok : Nat → Prop} (h : ¬ ok p.block) : Keep w (w.setCell p u) ok :=
  ⟨rfl, rfl, rfl, by simp [World.setCell], fun k _ ho => Below.heap_setCell _ _ _ _ (fun e => h (by rw [← e]; exact ho))⟩
theorem heap_set {w : World} {D j : Nat} {cs : Array Value} {t : TypeId} {fr : Nat × Nat} (h : w.heap[D]? = some (.cells cs t fr)) (u : Value) : (w.setCell ⟨D, j, none⟩ u).heap[D]? = some (.cells (cs.setIfInBounds j u) t fr) := by
  simp only [World.setCell, Array.getElem?_modify]
  rw [if_pos trivial, h]
  rfl
/-! ### The map -/
/-- Block b is a map of at most n entries; key k has F k. -/
structure PMap (w : World) (b n : Nat) (F : Int → Option ByteArray) : Prop where
  out : ∃ D : DataW Unit, w.ownsMap Try.prog 3 (plainElem Try.prog 9) b n D ∧ (∀ k, (Lit.int .i64 k).wf = true → Maps.has D (.int .i64 k) = (F k).isSome) ∧ (∀ k s, (Lit.int .i64 k).wf = true → F k = some s → ∀ z, D.atKey (.int .i64 k) z = .lit (.string s.data.toList))
theorem intKey : Keyed Try.prog 3 := int_keyed Try.underlying3
theorem keyI {k : Int} (wk : (Lit.int .i64 k).wf = true) : keyOf Try.prog 3 (.int .i64 k) = some (.int .i64 k) := keyOf_int_mk Try.underlying3 wk
theorem zeroS (w : World) : (zeroValue 9).run Try.prog w = .ok (.string ⟨#[]⟩) w := by kernel_rfl
theorem litKey {k : Int} (wk : (Lit.int .i64 k).wf = true) : WideAt.IsKeyLit (Lit.int .i64 k) := intKey.key (keyI wk)
theorem PMap.made (w : World) : PMap (w.alloc (.map #[] 0)) w.heap.size 0 (fun _ => none) :=
  ⟨⟨.map [], World.ownsMap_made w _ _ _, fun k _ => rfl, fun k s _ h => by cases h⟩⟩
theorem PMap.lt {w : World} {b n : Nat} {F : Int → Option ByteArray} (h : PMap w b n F) : b < w.heap.size := by
  obtain ⟨D, h, _⟩ := h.out
  exact h.lt
theorem PMap.keep {w w' : World} {b n : Nat} {F : Int → Option ByteArray} (h : PMap w b n F) (hk : w'.heap[b]? = w.heap[b]?) : PMap w' b n F := by
  obtain ⟨D, ⟨es, cl, h, hr⟩, h1, h2⟩ := h.out
  exact ⟨⟨D, ⟨es, cl, hk.trans h, hr⟩, h1, h2⟩⟩
theorem PMap.below {w w' : World} {b n : Nat} {F : Int → Option ByteArray} (h : PMap w b n F) (hb : Below w.heap.size w w') : PMap w' b n F := h.keep (hb.block b h.lt)
theorem PMap.not_cells {w : World} {b n : Nat} {F : Int → Option ByteArray} (h : PMap w b n F) {k : Nat} {cs : Array Value} {t : TypeId} {fr : Nat × Nat} (hk : w.heap[k]? = some (.cells cs t fr)) : b ≠ k := by
  obtain ⟨D, ⟨es, cl, h, _⟩, _⟩ := h.out
  rintro rfl
  rw [h] at hk
  cases hk
def updM (F : Int → Option ByteArray) (k : Int) (v : Option ByteArray) : Int → Option ByteArray := fun j => if j = k then v else F j
theorem lit_ne {j k : Int} (h : j ≠ k) : (Lit.int .i64 j) ≠ Lit.int .i64 k := fun e => by injection e with _ e; exact h e
theorem PMap.look {w : World} {b n : Nat} {F : Int → Option ByteArray} (h : PMap w b n F) {k : Int} (wk : (Lit.int .i64 k).wf = true) :
    (Instr.lookup 41 (.map (some b)) (.int .i64 k) true).run Try.prog w = .ok (.tuple #[.string ((F k).getD ⟨#[]⟩), .bool (F k).isSome]) w := by
  obtain ⟨D, h, h1, h2⟩ := h.out
  obtain ⟨v, ps, hrun, hv⟩ := h.look_ok intKey Try.underlying41 (zeroS w) (plainElem_string Try.underlying9 (by decide)) (keyI wk)
  obtain ⟨s, rfl, hs, _⟩ := plainElem_string_inv Try.underlying9 hv
  have hs1 := congrArg Prod.fst hs
  simp only at hs1
  have hh := h1 k wk
  rw [hrun, hh]
  cases hF : F k with
  | none =>
    rw [hF] at hh
    rw [atKey_of_not_has hh] at hs1
    injection hs1 with hs1
    injection hs1 with hs1
    have : s = ⟨#[]⟩ := by
      obtain ⟨⟨l⟩⟩ := s
      simp at hs1
      subst hs1
      rfl
    rw [this]
    rfl
  | some t =>
    rw [h2 k t wk hF] at hs1
    injection hs1 with hs1
    injection hs1 with hs1
    have : s = t := by
      obtain ⟨⟨l⟩⟩ := s
      obtain ⟨⟨m⟩⟩ := t
      simp at hs1
      subst hs1
      rfl
    rw [this]
    rfl
theorem PMap.store {w : World} {b n : Nat} {F : Int → Option ByteArray} (h : PMap w b n F) (hn : n < maxLen) {k : Int} (wk : (Lit.int .i64 k).wf = true) {s : ByteArray} (hs : s.size ≤ maxLen) :
    ∃ w', (Instr.mapUpdate 41 (.map (some b)) (.int .i64 k) (.string s)).run Try.prog w = .ok () w' ∧ PMap w' b (n + 1) (updM F k (some s)) ∧ w.mapTurned w' b := by
  obtain ⟨D, h, h1, h2⟩ := h.out
  obtain ⟨w', hrun, ho, ht⟩ := h.store intKey Try.underlying41 hn (keyI wk) (plainElem_string Try.underlying9 hs)
  refine ⟨w', hrun, ⟨⟨_, ho, fun j wj => ?_, fun j t wj hj z => ?_⟩⟩, ht⟩
  · unfold updM
    by_cases e : j = k
    · subst e
      rw [if_pos rfl, has_put_same h.isMap (litKey wk)]
      rfl
    · rw [if_neg e, has_put_other (lit_ne e), h1 j wj]
  · unfold updM at hj
    by_cases e : j = k
    · subst e
      rw [if_pos rfl] at hj
      cases hj
      rw [atKey_put_same h.isMap (litKey wk)]
    · rw [if_neg e] at hj
      rw [atKey_put_other (lit_ne e), h2 j t wj hj]
theorem PMap.drop {w : World} {b n : Nat} {F : Int → Option ByteArray} (h : PMap w b n F) {k : Int} (wk : (Lit.int .i64 k).wf = true) (ty : TypeId) :
    ∃ w', (Builtin.delete_ #[41, 3] ty #[.map (some b), .int .i64 k]).run Try.prog w = .ok (.tuple #[]) w' ∧ PMap w' b n (updM F k none) ∧ w.mapTurned w' b := by
  obtain ⟨D, h, h1, h2⟩ := h.out
  obtain ⟨w', hrun, ho, ht⟩ := h.drop intKey Try.underlying41 (keyI wk) ty
  refine ⟨w', hrun, ⟨⟨_, ho, fun j wj => ?_, fun j t wj hj z => ?_⟩⟩, ht⟩
  · unfold updM
    by_cases e : j = k
    · subst e
      rw [if_pos rfl, has_del_same]
      rfl
    · rw [if_neg e, has_del_other (lit_ne e), h1 j wj]
  · unfold updM at hj
    by_cases e : j = k
    · subst e
      rw [if_pos rfl] at hj
      cases hj
    · rw [if_neg e] at hj
      rw [atKey_del_other (lit_ne e), h2 j t wj hj]
#print axioms PMap.drop
end Go.Proofs.YtkmbkgjfhjjicaaT
