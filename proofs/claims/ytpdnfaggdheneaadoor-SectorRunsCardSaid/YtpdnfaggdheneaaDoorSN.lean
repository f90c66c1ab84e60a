/- A new disk. -/
import Derived.Test.YtpdnfaggdheneaaDoorSP
import Derived.Deep.WholeRow
import Derived.Deep.MidRow
namespace Go.Proofs.YtpdnfaggdheneaaDoorS
open Go.RowKit Go.Proofs

/-- A sector of nothing. -/
def sec0 : ByteArray := ⟨Array.replicate 512 0⟩
theorem infoSec : (Tryd.prog.info? 60).map (fun i => (i.zero, i.size, i.bytes)) = some (some (.agg (Array.replicate 512 (.int .u8 0))), 512, 512) := by kernel_rfl
theorem secC_zero : secC sec0 = List.replicate 512 (.int .u8 0) := by
  show (Array.replicate 512 (0 : UInt8)).toList.map _ = _
  rw [Array.toList_replicate, List.map_replicate]
  rfl
theorem secs_rep (n : Nat) : secs (List.replicate n sec0) = List.replicate (n * 512) (.int .u8 0) := by
  induction n with
  | zero => rfl
  | succ n ih =>
    rw [List.replicate_succ, show secs (sec0 :: List.replicate n sec0) = secC sec0 ++ secs (List.replicate n sec0) from rfl, ih, secC_zero, List.replicate_append_replicate]
    congr 1
    omega
theorem secs_zero (n : Nat) : (madeCells (Value.agg (Array.replicate 512 (.int .u8 0))).cells (n * 512)) = (secs (List.replicate n sec0)).toArray := by
  rw [secs_rep]
  apply Array.ext
  · rw [size_madeCells]; simp
  · intro k hk hk'
    have hm : k % 512 < 512 := Nat.mod_lt _ (by omega)
    simp [madeCells, Value.cells, hm]
theorem sec0_size : sec0.size = 512 := by
  unfold sec0 ByteArray.size
  simp
theorem new_calls (n : Int) (w : World) (hn : 1 ≤ n) (hn' : n ≤ 4096) : Calls Tryd.prog 6 #[.int .i64 n] w fun e w' => e = .returned (.tuple #[.pointer (some ⟨w.heap.size + 1, 0, none⟩), .nilIface]) ∧ Dk w' w.heap.size (w.heap.size + 1) w.heap.size (.slice none 0 0) (List.replicate n.toNat sec0) [] (-1) false ∧ Below w.heap.size w w' := by
  obtain ⟨i, hi, hi'⟩ := Option.map_eq_some_iff.1 infoSec
  injection hi' with hz hi'
  injection hi' with hs hb
  have hmk := run_make (P := Tryd.prog) w 54 60 i _ Tryd.underlying54 hi hz .i64 .i64 n n (by omega) (Int.le_refl _) (by rw [hb]; omega) (by omega)
  rw [hs, secs_zero] at hmk
  have h1 : decide (n < 1) = false := decide_eq_false (by omega)
  have h2 : decide (4096 < n) = false := decide_eq_false (by omega)
  have HM := Lib.hid hmk
  go_enter Tryd.func6, Tryd.ntmps6
  go_wp2
  go_ret2
  have hlen : (List.replicate n.toNat sec0).length = n.toNat := by simp
  refine ⟨rfl, ⟨?_, ?_, ?_, ?_, ?_, by omega, Nat.le_refl _, by omega, by simp [Value.ownBlock], by simp [Value.ownBlock]⟩, ?_⟩
  · rw [hlen]
    have := heap_alloc_last (w.alloc (Obj.cells (secs (List.replicate n.toNat sec0)).toArray 60)) (Obj.cells #[Value.slice (some { block := w.heap.size, off := 0 }) n.toNat n.toNat, Value.slice none 0 0, Value.int IntKind.i64 (-1), Value.bool false] 57)
    simpa using this
  · rw [Below.heap_alloc _ _ _ (by simp)]
    exact heap_alloc_last w _
  · exact ⟨rfl, .inl ⟨rfl, rfl⟩⟩
  · intro s hs
    rw [(List.mem_replicate.1 hs).2, sec0_size]
  · intro x hx
    cases hx
  · repeat (first | exact Below.refl _ _ | refine Below.alloc ?_ (by simp <;> omega) _)
#print axioms new_calls
end Go.Proofs.YtpdnfaggdheneaaDoorS
