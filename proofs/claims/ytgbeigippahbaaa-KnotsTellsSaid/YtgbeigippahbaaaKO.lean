/- Knots: edges that came in, opened. -/
import Derived.Test.YtgbeigippahbaaaKM
import Derived.Deep.Slices
namespace Go.Proofs.YtgbeigippahbaaaK
open Go.RowKit Go.ChangeShapes Go.WideShapes Go.Proofs

theorem cellsPair : Try.prog.cellsOf 30 = 2 := by kernel_rfl
theorem cellsIntK : Try.prog.cellsOf 3 = 1 := by kernel_rfl
theorem open_edge {H : Type} {enc : TypeId × Value → H} {w : World} {held : Bool} {fuel : Nat} {cs : List Value} {x : DataW H × List MemPlace} (h : DataW.trod enc Try.prog w 0 (fun _ => true) held fuel 30 cs = some x) : ∃ y : Edge, cs = edC y := by
  obtain ⟨xs, m, _, _, hlen, hx, hp⟩ := DataW.trod_array Try.underlying30 h
  rw [cellsPair] at hlen
  match cs, hlen with
  | [c0, c1], _ =>
    have h0 := hp 0 (by omega)
    have h1 := hp 1 (by omega)
    rw [cellsIntK] at h0 h1
    rw [List.getElem?_eq_getElem (by omega)] at h0 h1
    obtain ⟨n0, e0, _, _⟩ := DataW.trod_int Try.underlying3 h0
    obtain ⟨n1, e1, _, _⟩ := DataW.trod_int Try.underlying3 h1
    simp at e0 e1
    subst e0 e1
    exact ⟨(n0, n1), rfl⟩
theorem open_edges {H : Type} {enc : TypeId × Value → H} {w : World} {held : Bool} {A : Option Addr} {len cap : Nat} {d : DataW H} {ps : List MemPlace} (h : DataW.Trod enc Try.prog w 0 (fun _ => true) held 22 (.slice A len cap) d ps) :
    ∃ l : List Edge, l.length = len ∧ len ≤ cap ∧ EdgesAt w A l := by
  obtain ⟨fuel, hf⟩ := h
  rcases Go.Deep.open_slice Try.underlying22 hf with ⟨hcs, _⟩ | ⟨a, len', cap', m, n, D, Pl, hcs, _, hl, hm, hmm, _, hx⟩
  · simp [Value.cells] at hcs
    obtain ⟨rfl, rfl, rfl⟩ := hcs
    exact ⟨[], rfl, by omega, by simp, fun i hi => by cases hi⟩
  · simp [Value.cells] at hcs
    obtain ⟨rfl, rfl, rfl⟩ := hcs
    rw [if_pos rfl] at hmm
    subst hmm
    obtain ⟨f, hf⟩ := Go.Deep.choose_lt (α := Edge) (n := m) (p := fun i y => ∃ cs, w.cells? 0 (a.add (i * 2)) 2 = some cs ∧ cs = edC y) (fun i hi => by
      obtain ⟨cs, h1, h2⟩ := hx i hi
      rw [cellsPair] at h1
      obtain ⟨y, hy⟩ := open_edge h2
      exact ⟨y, cs, h1, hy⟩)
    have hm' : m ≤ 9223372036854775807 := Nat.le_trans hm (by unfold maxLen; decide)
    refine ⟨(List.range len).map f, by simp, hl, by simp; omega, fun i hi => ⟨a, rfl, fun j v hv => ?_⟩⟩
    simp at hi
    rw [List.getD_eq_getElem?_getD, List.getElem?_map, List.getElem?_range hi] at hv
    obtain ⟨cs, h1, h2⟩ := hf i (by omega)
    obtain ⟨_, hcl, hcc⟩ := World.cells?_some h1
    subst h2
    have hj : j < 2 := by
      have := (List.getElem?_eq_some_iff.1 hv).1
      simpa [edC] using this
    rw [hcc j hj]
    exact hv
#print axioms open_edges
end Go.Proofs.YtgbeigippahbaaaK
