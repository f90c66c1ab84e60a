/- The acts that came in: how memory holds them, how they are read, how they are opened. -/
import Derived.Test.YtpdnfaggdheneaaDoorSF
import Derived.Deep.Grids
import Derived.Lib.SmallJoins
import Derived.OpenShut
namespace Go.Proofs.YtpdnfaggdheneaaDoorS
open Go.RowKit Go.ChangeShapes Go.WideShapes Go.Proofs

/-! ### The acts in memory -/
structure ActR where
  what : Int
  «at» : Int
  text : ByteArray
  A : Option Addr
  cap : Nat
  keep : List Bool
def actC (x : ActR) : List Value := [.int .i64 x.what, .int .i64 x.at, .string x.text, .slice x.A x.keep.length x.cap]
structure ActAt (w : World) (x : ActR) : Prop where
  w0 : -9223372036854775808 ≤ x.at
  w1 : x.at < 9223372036854775808
  len : x.text.size ≤ 9223372036854775807
  kl : x.keep.length ≤ 9223372036854775807
  keep : ∀ j, j < x.keep.length → ∃ ad, x.A = some ad ∧ w.cell? (ad.add j) = some (.bool (x.keep.getD j false))
def ActsAt (w : World) (A : Option Addr) (acts : List ActR) : Prop :=
  acts.length ≤ 9223372036854775807 ∧ (∀ x, x ∈ acts → ActAt w x) ∧ ∀ i, i < acts.length → ∃ ad, A = some ad ∧ ∀ j v, (actC (acts.getD i ⟨0, 0, ByteArray.empty, none, 0, []⟩))[j]? = some v → w.cell? ((ad.add (i * 4)).add j) = some v

theorem infoAct : (Tryd.prog.info? 43).map (fun i => (i.zero, i.size)) = some (some (.agg #[.int .i64 0, .int .i64 0, .string ⟨#[]⟩, .slice none 0 0]), 4) := by kernel_rfl
theorem actC_one (x : ActR) : (actC x).toArray.all (·.oneCell') = true := by
  rw [List.all_toArray]
  rfl
theorem wpList_load_any {P : Program} {ops : Array Oper} {rest : List Oper} {op : Oper} {a : Act} {w : World} {Q : Exit → Act → World → Prop} (hgd : op.guard = none) (ty : TypeId) (x : Operand) (ho : op.op = .load ty x)
    (p : Addr) (hx : a.eval x = .pointer (some p)) (cs : List Value) (d : TypeDesc) (hc : ∀ j v, cs[j]? = some v → w.cell? (p.add j) = some v)
    (hu : P.underlying ty = some d) (hd : d.isRow = true) (hi : (P.info? ty).map (·.size) = some cs.length)
    (h : wpList P ops Q rest (a.put op.dst (.agg cs.toArray)) w) : wpList P ops Q (op :: rest) a w := by
  have hl : (loadCells p cs.length).run P w = .ok cs.toArray w := run_loadCells_list (P := P) w p cs hc
  have hr : (loadVar ty p).run P w = .ok (.agg cs.toArray) w := by
    cases hq : P.info? ty with
    | none => simp [hq] at hi
    | some i =>
      have hs : i.size = cs.length := by simpa [hq] using hi
      have hagg : (isAgg ty).run P w = .ok true w := by
        unfold isAgg
        rw [Sem.run_bind, run_underlying hu w]
        cases d <;> simp_all
      simp [loadVar, Sem.run_bind, hagg, sizeOf, typeInfo, hq, hs, hl]
  refine wpList_plain hgd fun _ hK => ?_
  unfold Oper.wp execOp
  simp only [ho, hx, Instr.loadAt, Instr.sureAddr, Sem.run_bind, Sem.run_pure, Result.andThen_ok, hr]
  exact hK _ _ h
theorem Keep.drewN (w : World) (n : Nat) (ok : Nat → Prop) : Keep w (w.drewN n) ok := ⟨rfl, rfl, rfl, Nat.le_refl _, fun _ _ _ => rfl⟩
theorem cellsAct : Tryd.prog.cellsOf 43 = 4 := by kernel_rfl
theorem cellsInt : Tryd.prog.cellsOf 3 = 1 := by kernel_rfl
theorem cellsStr : Tryd.prog.cellsOf 9 = 1 := by kernel_rfl
theorem cellsBools : Tryd.prog.cellsOf 41 = 1 := by kernel_rfl
theorem cellsBool : Tryd.prog.cellsOf 4 = 1 := by kernel_rfl
theorem i64_bd {n : Int} (h : (Lit.int .i64 n).wf = true) : -9223372036854775808 ≤ n ∧ n < 9223372036854775808 := by
  have := bounds_i64 h
  omega
set_option maxRecDepth 100000 in
theorem open_act {H : Type} {enc : TypeId × Value → H} {w : World} {held : Bool} {fuel : Nat} {cs : List Value} {x : DataW H × List MemPlace} (h : DataW.trod enc Tryd.prog w 0 (fun _ => true) held fuel 43 cs = some x) : ∃ y : ActR, cs = actC y ∧ ActAt w y := by
  obtain ⟨y0, y1, y2, y3, n, _, hlen, h0, h1, h2, h3⟩ := Go.Joins.trod_struct4 Tryd.underlying43 h
  rw [cellsAct] at hlen
  match cs, hlen with
  | [c0, c1, c2, c3], _ =>
    rw [show Field.offset _ = 0 from rfl, show Field.type _ = 3 from rfl, cellsInt] at h0
    rw [show Field.offset _ = 1 from rfl, show Field.type _ = 3 from rfl, cellsInt] at h1
    rw [show Field.offset _ = 2 from rfl, show Field.type _ = 9 from rfl, cellsStr] at h2
    rw [show Field.offset _ = 3 from rfl, show Field.type _ = 41 from rfl, cellsBools] at h3
    obtain ⟨n0, e0, _, b0⟩ := DataW.trod_int Tryd.underlying3 h0
    obtain ⟨n1, e1, _, b1⟩ := DataW.trod_int Tryd.underlying3 h1
    obtain ⟨s, e2, _, b2⟩ := DataW.trod_string Tryd.underlying9 h2
    simp at e0 e1 e2
    subst e0 e1 e2
    have hb1 := i64_bd b1
    have hs : s.size ≤ 9223372036854775807 := Nat.le_trans b2 (by unfold maxLen; decide)
    rcases Go.Deep.open_bools Tryd.underlying41 Tryd.underlying4 cellsBool h3 with ⟨e3, _⟩ | ⟨a, len, cap, B, e3, _, hl, hm, _, hcell⟩
    · simp at e3
      subst e3
      exact ⟨⟨n0, n1, s, none, 0, []⟩, rfl, hb1.1, hb1.2, hs, by simp, fun j hj => by cases hj⟩
    · simp at e3
      subst e3
      have hcap : cap ≤ 9223372036854775807 := Nat.le_trans hm (by unfold maxLen; decide)
      refine ⟨⟨n0, n1, s, some a, cap, (List.range len).map B⟩, by simp [actC], hb1.1, hb1.2, hs, by simp; omega, fun j hj => ⟨a, rfl, ?_⟩⟩
      simp at hj
      rw [hcell j (by omega), List.getD_eq_getElem?_getD, List.getElem?_map, List.getElem?_range hj]
      rfl
theorem open_acts {H : Type} {enc : TypeId × Value → H} {w : World} {held : Bool} {A : Option Addr} {len cap : Nat} {d : DataW H} {ps : List MemPlace} (h : DataW.Trod enc Tryd.prog w 0 (fun _ => true) held 34 (.slice A len cap) d ps) :
    ∃ l : List ActR, l.length = len ∧ len ≤ cap ∧ ActsAt w A l := by
  obtain ⟨fuel, hf⟩ := h
  rcases Go.Deep.open_slice Tryd.underlying34 hf with ⟨hcs, _⟩ | ⟨a, len', cap', m, n, D, Pl, hcs, _, hl, hm, hmm, _, hx⟩
  · simp [Value.cells] at hcs
    obtain ⟨rfl, rfl, rfl⟩ := hcs
    exact ⟨[], rfl, by omega, by simp, (fun x hx => by cases hx), fun i hi => by cases hi⟩
  · simp [Value.cells] at hcs
    obtain ⟨rfl, rfl, rfl⟩ := hcs
    rw [if_pos rfl] at hmm
    subst hmm
    haveI : Inhabited ActR := ⟨⟨0, 0, ByteArray.empty, none, 0, []⟩⟩
    obtain ⟨f, hf⟩ := Go.Deep.choose_lt (α := ActR) (n := m) (p := fun i y => ∃ cs, w.cells? 0 (a.add (i * 4)) 4 = some cs ∧ cs = actC y ∧ ActAt w y) (fun i hi => by
      obtain ⟨cs, h1, h2⟩ := hx i hi
      rw [cellsAct] at h1
      obtain ⟨y, hy, hy'⟩ := open_act h2
      exact ⟨y, cs, h1, hy, hy'⟩)
    have hm' : m ≤ 9223372036854775807 := Nat.le_trans hm (by unfold maxLen; decide)
    refine ⟨(List.range len).map f, by simp, hl, by simp; omega, fun y hy => ?_, fun i hi => ⟨a, rfl, fun j v hv => ?_⟩⟩
    · obtain ⟨i, hi, rfl⟩ := List.mem_map.1 hy
      exact (hf i (by have := List.mem_range.1 hi; omega)).choose_spec.2.2
    · simp at hi
      rw [List.getD_eq_getElem?_getD, List.getElem?_map, List.getElem?_range hi] at hv
      obtain ⟨cs, h1, h2, _⟩ := hf i (by omega)
      obtain ⟨_, hcl, hcc⟩ := World.cells?_some h1
      subst h2
      have hj : j < 4 := by
        have := (List.getElem?_eq_some_iff.1 hv).1
        simpa [actC] using this
      rw [hcc j hj]
      exact hv
#print axioms open_acts
end Go.Proofs.YtpdnfaggdheneaaDoorS
