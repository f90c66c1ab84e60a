/- Knots: what memory holds of edges and of lists of numbers. -/
import Derived.Test.YtgbeigippahbaaaProg
import Derived.Test.YtgbeigippahbaaaWWords
import Derived.Test.YtgbeigippahbaaaWLast
import Derived.WalkKit
import Derived.WalkSpells
import Derived.WalkLawsBesides
import Derived.Below
import Derived.Lib.Hide
import Derived.Great.BuildSlice
import Derived.Deep.AppendLies
import Derived.Deep.MidRow
import Derived.OpenShut
import Derived.Deep.Slices
namespace Go.Proofs.YtgbeigippahbaaaK
open Go.RowKit Go.ChangeShapes Go.WideShapes Go.Proofs Go.Proofs.YtgbeigippahbaaaW.PrintWords

abbrev iv (x : Nat) : Value := .int .i64 (x : Int)
/-! ### Worlds -/
/-- What stays: every block of w's that is ok. -/
structure Keep (w w' : World) (ok : Nat → Prop) : Prop where
  os : w'.os = w.os
  tape : w'.tape = w.tape
  output : w'.output = w.output
  size : w.heap.size ≤ w'.heap.size
  block : ∀ k, k < w.heap.size → ok k → w'.heap[k]? = w.heap[k]?
theorem Keep.refl (w : World) (ok : Nat → Prop) : Keep w w ok := ⟨rfl, rfl, rfl, Nat.le_refl _, fun _ _ _ => rfl⟩
theorem Keep.trans {a b c : World} {ok : Nat → Prop} (h : Keep a b ok) (h' : Keep b c ok) : Keep a c ok :=
  ⟨h'.os.trans h.os, h'.tape.trans h.tape, h'.output.trans h.output, Nat.le_trans h.size h'.size, fun k hk ho => (h'.block k (Nat.lt_of_lt_of_le hk h.size) ho).trans (h.block k hk ho)⟩
theorem Keep.mono {a b : World} {ok ok' : Nat → Prop} (h : Keep a b ok) (hm : ∀ k, k < a.heap.size → ok' k → ok k) : Keep a b ok' :=
  ⟨h.os, h.tape, h.output, h.size, fun k hk ho => h.block k hk (hm k hk ho)⟩
theorem Keep.below {a b : World} {ok : Nat → Prop} {B : Nat} (h : Keep a b ok) (hB : B ≤ a.heap.size) (hm : ∀ k, k < B → ok k) : Below B a b :=
  ⟨h.os, h.tape, h.output, h.size, fun k hk => h.block k (Nat.lt_of_lt_of_le hk hB) (hm k hk)⟩
theorem Keep.cell {a b : World} {ok : Nat → Prop} (h : Keep a b ok) {p : Addr} {v : Value} (hc : a.cell? p = some v) (ho : ok p.block) : b.cell? p = some v := by
  rw [World.cell?_of_block (w := a) (h.block p.block (World.block_lt_of_cell? a _ hc) ho)]
  exact hc
theorem Keep.setCell (w : World) (p : Addr) (u : Value) {ok : Nat → Prop} (h : ¬ ok p.block) : Keep w (w.setCell p u) ok :=
  ⟨rfl, rfl, rfl, by simp [World.setCell], fun k _ ho => Below.heap_setCell _ _ _ _ (fun e => h (by rw [← e]; exact ho))⟩
theorem Keep.of_below {w w' : World} {ok : Nat → Prop} {B : Nat} (h : Below B w w') (hB : w.heap.size ≤ B) : Keep w w' ok := ⟨h.os, h.tape, h.output, h.size, fun k hk _ => h.block k (Nat.lt_of_lt_of_le hk hB)⟩
theorem Keep.of_grown {w w' : World} {row : Option Nat} (h : w.grownBy w' row) : Keep w w' (fun k => row ≠ some k) := ⟨h.os, h.tape, h.output, h.size, fun k hk ho => h.block k hk (fun e => ho e.symm)⟩
theorem Keep.drew (w : World) (ok : Nat → Prop) : Keep w w.drew ok := ⟨rfl, rfl, rfl, Nat.le_refl _, fun _ _ _ => rfl⟩
theorem Keep.drewN (w : World) (n : Nat) (ok : Nat → Prop) : Keep w (w.drewN n) ok := ⟨rfl, rfl, rfl, Nat.le_refl _, fun _ _ _ => rfl⟩
theorem Keep.heap {w w' : World} {ok : Nat → Prop} (h : Keep w w' ok) {k : Nat} {o : Obj} (hk : w.heap[k]? = some o) (ho : ok k) : w'.heap[k]? = some o := (h.block k (Array.getElem?_eq_some_iff.1 hk).1 ho).trans hk
theorem _root_.Go.World.grownBy.cell_keep {w w' : World} {row : Option Nat} (h : w.grownBy w' row) {p : Addr} {v : Value} (hc : w.cell? p = some v) (ho : row ≠ some p.block) : w'.cell? p = some v := (Keep.of_grown h).cell hc ho
theorem heap_set {w : World} {D j : Nat} {cs : Array Value} {t : TypeId} {fr : Nat × Nat} (h : w.heap[D]? = some (.cells cs t fr)) (u : Value) : (w.setCell ⟨D, j, none⟩ u).heap[D]? = some (.cells (cs.setIfInBounds j u) t fr) := by
  simp only [World.setCell, Array.getElem?_modify]
  rw [if_pos trivial, h]
  rfl
theorem own_keep {w w' : World} {B : Nat} {e : TypeId} {size n : Nat} {v : Value} {xs : List Value} (h : w.ownsRow B e size v n xs) (hk : ∀ k, v.ownBlock = some k → w'.heap[k]? = w.heap[k]?) : w'.ownsRow B e size v n xs := by
  obtain ⟨h1, h2⟩ := h
  refine ⟨h1, ?_⟩
  rcases h2 with h2 | ⟨g, cap, cur, rfl, hg, hh, r⟩
  · exact .inl h2
  · exact .inr ⟨g, cap, cur, rfl, hg, (hk g (by simp [Value.ownBlock])).trans hh, r⟩
theorem own_lt' {w : World} {B : Nat} {e : TypeId} {size n : Nat} {v : Value} {xs : List Value} (h : w.ownsRow B e size v n xs) {k : Nat} (hk : v.ownBlock = some k) : k < w.heap.size := by
  rcases h.2 with ⟨rfl, _⟩ | ⟨g, cap, cur, rfl, _, hh, _⟩
  · cases hk
  · have : g = k := by simpa [Value.ownBlock] using hk
    subst this
    exact (Array.getElem?_eq_some_iff.1 hh).1
theorem own_len {w : World} {B : Nat} {e : TypeId} {size n : Nat} {v : Value} {xs : List Value} (h : w.ownsRow B e size v n xs) : n ≤ 9223372036854775807 := by
  rcases h.2 with ⟨_, hn⟩ | ⟨g, cap, cur, _, _, _, h1, h2, _⟩
  · omega
  · have : cap ≤ 9223372036854775807 := Nat.le_trans h2 (by unfold maxLen; decide)
    omega
/-! ### Operations -/
theorem exec_bs {P : Program} {o : Oper} {ρ : Operand → Value} {t : TypeId} {len : Nat} {parts : Array (Nat × Operand)} (ho : o.op = .buildSlice t len parts) (ps : List (Nat × Value)) (hp : (parts.map fun (i, x) => (i, ρ x)).toList = ps) {v : Value} {w w1 : World}
    (h : (Instr.buildSlice t len ps.toArray).run P w = .ok v w1) : (execOp ρ o).run P w = .ok (.value v) w1 := by
  subst hp
  rw [Array.toArray_toList] at h
  unfold execOp
  simp only [ho, Sem.run_bind, h, Result.andThen_ok]
  rfl
theorem wpList_load_any {P : Program} {ops : Array Oper} {rest : List Oper} {op : Oper} {a : Act} {w : World} {Q : Exit → Act → World → Prop} (hgd : op.guard = none) (ty : TypeId) (x : Operand) (ho : op.op = .load ty x)
    (p : Addr) (hx : a.eval x = .pointer (some p)) (cs : List Value) (d : TypeDesc) (hc : ∀ j v, cs[j]? = some v → w.cell? (p.add j) = some v)
    (hu : P.underlying ty = some d) (hd : d.isRow = true) (hi : (P.info? ty).map (·.size) = some cs.length)
    (h : wpList P ops Q rest (a.put op.dst (.agg cs.toArray)) w) : wpList P ops Q (op :: rest) a w := by
  have hl : (loadCells p cs.length).run P w = .ok cs.toArray w := run_loadCells_list (P := P) w p cs hc
  have hr : (loadVar ty p).run P w = .ok (.agg cs.toArray) w := by
    cases hq : P.info? ty with
    | none => simp [hq] at hi
    | some i =>
      have hs : i.size = cs.length := by simpa [hq] using hi
      have hagg : (isAgg ty).run P w = .ok true w := by
        unfold isAgg
        rw [Sem.run_bind, run_underlying hu w]
        cases d <;> simp_all
      simp [loadVar, Sem.run_bind, hagg, sizeOf, typeInfo, hq, hs, hl]
  refine wpList_plain hgd fun _ hK => ?_
  unfold Oper.wp execOp
  simp only [ho, hx, Instr.loadAt, Instr.sureAddr, Sem.run_bind, Sem.run_pure, Result.andThen_ok, hr]
  exact hK _ _ h
theorem infoInt : (Try.prog.info? 3).map (fun i => (i.zero, i.size, i.bytes)) = some (some (.int .i64 0), 1, 8) := by kernel_rfl
theorem infoPair : (Try.prog.info? 30).map (fun i => (i.zero, i.size)) = some (some (.agg #[.int .i64 0, .int .i64 0]), 2) := by kernel_rfl
theorem slice_one (y : Nat) (W : World) : (Instr.buildSlice 24 1 #[(0, iv y)]).run Try.prog W = .ok (.slice (some ⟨W.heap.size, 0, none⟩) 1 1) (W.alloc (.cells [iv y].toArray 3)) := by
  obtain ⟨i0, hi, hz⟩ := Option.map_eq_some_iff.1 infoInt
  injection hz with hz0 hz
  injection hz with hz1 hz2
  refine run_buildSlice W 24 3 1 _ [iv y].toArray i0 _ Try.underlying24 hi hz0 (by rw [hz1]; omega) (by rw [hz1]; omega) ?_
  rw [hz1]
  exact Great.fill_flat [iv y] _ (fun v hv => by rw [List.mem_singleton.1 hv]; rfl) (by simp)
/-! ### Edges -/
abbrev Edge := Int × Int
def edC (e : Edge) : List Value := [.int .i64 e.1, .int .i64 e.2]
def EdgesAt (w : World) (A : Option Addr) (es : List Edge) : Prop :=
  es.length ≤ 9223372036854775807 ∧ ∀ i, i < es.length → ∃ ad, A = some ad ∧ ∀ j v, (edC (es.getD i (0, 0)))[j]? = some v → w.cell? ((ad.add (i * 2)).add j) = some v
theorem EdgesAt.below {w w' : World} {A : Option Addr} {es : List Edge} (h : EdgesAt w A es) (hb : Below w.heap.size w w') : EdgesAt w' A es :=
  ⟨h.1, fun i hi => by
    obtain ⟨ad, h1, h2⟩ := h.2 i hi
    exact ⟨ad, h1, fun j v hv => pw_cell_below hb (h2 j v hv)⟩⟩
def okE (n : Nat) (e : Edge) : Bool := decide (0 ≤ e.1) && decide (e.1 < n) && decide (0 ≤ e.2) && decide (e.2 < n)
/-- To where edges lead from v, in their order. -/
def adjE (n : Nat) (es : List Edge) (v : Nat) : List Nat := (es.filter fun e => okE n e && decide (e.1 = (v : Int))).map fun e => e.2.toNat
theorem adjE_snoc (n : Nat) (es : List Edge) (e : Edge) (v : Nat) : adjE n (es ++ [e]) v = adjE n es v ++ if (okE n e && decide (e.1 = (v : Int))) = true then [e.2.toNat] else [] := by
  unfold adjE
  rw [List.filter_append, List.map_append]
  congr 1
  rw [List.filter_cons]
  split <;> rfl
theorem adjE_lt {n : Nat} {es : List Edge} {v u : Nat} (h : u ∈ adjE n es v) : u < n := by
  obtain ⟨e, he, rfl⟩ := List.mem_map.1 h
  have := (List.mem_filter.1 he).2
  simp only [okE, Bool.and_eq_true, decide_eq_true_eq] at this
  omega
theorem adjE_mem {n : Nat} {es : List Edge} {v u : Nat} : u ∈ adjE n es v ↔ ∃ e, e ∈ es ∧ e.1 = (v : Int) ∧ e.2 = (u : Int) ∧ v < n ∧ u < n := by
  constructor
  · intro h
    obtain ⟨e, he, rfl⟩ := List.mem_map.1 h
    obtain ⟨h1, h2⟩ := List.mem_filter.1 he
    simp only [okE, Bool.and_eq_true, decide_eq_true_eq] at h2
    exact ⟨e, h1, h2.2, by omega, by omega, by omega⟩
  · intro ⟨e, h1, h2, h3, h4, h5⟩
    refine List.mem_map.2 ⟨e, List.mem_filter.2 ⟨h1, ?_⟩, by rw [h3, Int.toNat_natCast]⟩
    simp only [okE, Bool.and_eq_true, decide_eq_true_eq]
    omega
theorem adjE_len (n : Nat) (es : List Edge) (v : Nat) : (adjE n es v).length ≤ es.length := by
  unfold adjE
  rw [List.length_map]
  exact List.length_filter_le _ _
/-- A list of lists, all below block B. -/
structure OutAt (w : World) (B g0 n : Nat) (adj : Nat → List Nat) : Prop where
  lt : g0 < B
  row : ∀ v, v < n → ∃ A c, w.cell? ⟨g0, v, none⟩ = some (.slice A (adj v).length c) ∧ (adj v).length ≤ c ∧ ∀ k, k < (adj v).length → ∃ g, A = some ⟨g, 0, none⟩ ∧ g < B ∧ w.cell? ⟨g, k, none⟩ = some (iv ((adj v).getD k 0))
theorem OutAt.below {w w' : World} {B g0 n : Nat} {adj : Nat → List Nat} (h : OutAt w B g0 n adj) (hb : Below B w w') : OutAt w' B g0 n adj :=
  ⟨h.lt, fun v hv => by
    obtain ⟨A, c, h1, h2, h3⟩ := h.row v hv
    refine ⟨A, c, (hb.cell (p := ⟨g0, v, none⟩) h.lt).trans h1, h2, fun k hk => ?_⟩
    obtain ⟨g, e1, e2, e3⟩ := h3 k hk
    exact ⟨g, e1, e2, (hb.cell (p := ⟨g, k, none⟩) e2).trans e3⟩⟩
#print axioms OutAt.below
end Go.Proofs.YtgbeigippahbaaaK
