/- Tree: whole numbers that came in, opened. -/
import Derived.Test.YtkmbkgjfhjjicaaTZ
import Derived.ChangeSlices
namespace Go.Proofs.YtkmbkgjfhjjicaaT
open Go.RowKit Go.ChangeShapes Go.WideShapes Go.Proofs

theorem cellsU16 : Try.prog.cellsOf 28 = 1 := by kernel_rfl
theorem open_u16s {H : Type} {enc : TypeId × Value → H} {w : World} {held : Bool} {A : Option Addr} {len cap : Nat} {d : DataW H} {ps : List MemPlace} (h : DataW.Trod enc Try.prog w 0 (fun _ => true) held 22 (.slice A len cap) d ps) :
    ∃ l : List Nat, l.length = len ∧ U16At w A l := by
  obtain ⟨fuel, hf⟩ := h
  rcases open_ints Try.underlying22 Try.underlying28 cellsU16 hf with ⟨hcs, _⟩ | ⟨a, len', cap', zs, hcs, _, hl, hm, hz, _, hc, hw⟩
  · simp [Value.cells] at hcs
    obtain ⟨rfl, rfl, rfl⟩ := hcs
    exact ⟨[], rfl, fun n hn => by simp at hn, fun i n hi => by simp at hi⟩
  · simp [Value.cells] at hcs
    obtain ⟨rfl, rfl, rfl⟩ := hcs
    rw [if_pos rfl] at hz
    have hb : ∀ z ∈ zs, 0 ≤ z ∧ z < 65536 := fun z hz => by
      have h := hw z hz
      simp [Lit.wf, IntKind.min, IntKind.max, IntKind.signed, IntKind.bits] at h
      omega
    refine ⟨(zs.take len).map Int.toNat, by rw [List.length_map, List.length_take]; omega, fun n hn => ?_, fun i n hi => ?_⟩
    · obtain ⟨z, hz, rfl⟩ := List.mem_map.1 hn
      have := hb z (List.mem_of_mem_take hz)
      omega
    · rw [List.getElem?_map] at hi
      obtain ⟨z, hz2, rfl⟩ := Option.map_eq_some_iff.1 hi
      obtain ⟨hil, _⟩ := List.getElem?_eq_some_iff.1 hz2
      rw [List.length_take] at hil
      rw [List.getElem?_take_of_lt (by omega)] at hz2
      have hb2 := hb z (List.mem_of_getElem? hz2)
      refine ⟨a, rfl, ?_⟩
      rw [hc i (by omega), List.getD_eq_getElem?_getD, hz2]
      show some (Value.int .u16 z) = some (Value.int .u16 (z.toNat : Int))
      rw [Int.toNat_of_nonneg hb2.1]
#print axioms open_u16s
end Go.Proofs.YtkmbkgjfhjjicaaT
