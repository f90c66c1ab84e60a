/- tambourlaw01.Code by its contract. -/
import Derived.Test.YtehghdmfdinpjaaDoorCo
import Derived.Below
namespace Go.Proofs.YtehghdmfdinpjaaDoorC
open Go.RowKit Go.Extern.Stop Go.Stop Go.Extern Go.Proofs

/-- What the package variable errors.errorType holds. -/
def HasEt (w : World) : Prop := w.cell? ⟨0, 0, none⟩ = some (.iface 98 (.agg #[.pointer (some ⟨6, 28, none⟩)]))
theorem code_nil (w : World) : Calls Tryd.prog 13 #[.nilIface] w fun e w' => e = .returned (.int .i64 0) ∧ w' = w := by
  go_enter Tryd.func13, Tryd.ntmps13
  go_wp2
  go_ret
  exact ⟨rfl, rfl⟩
set_option maxHeartbeats 4000000 in
theorem code_err (n : Int) (w : World) (hg : HasEt w) : Calls Tryd.prog 13 #[.iface 61 (.int .i64 n)] w fun e w' => e = .returned (.int .i64 n) ∧ Below w.heap.size w w' := by
  have hlt : 0 < w.heap.size := by
    unfold HasEt at hg
    rcases Nat.eq_zero_or_pos w.heap.size with h0 | h
    · simp [World.cell?, h0] at hg
    · exact h
  have hgA : (w.alloc (.cells #[.int .i64 0] 61)).cell? ⟨0, 0, none⟩ = some (.iface 98 (.agg #[.pointer (some ⟨6, 28, none⟩)])) := by
    rw [World.cell?_alloc_lt _ _ ⟨0, 0, none⟩ hlt]; exact hg
  have htA : (w.alloc (.cells #[.int .i64 0] 61)).cell? ⟨w.heap.size, 0, none⟩ = some (.int .i64 0) := by simp
  have hfA : (w.alloc (.cells #[.int .i64 0] 61)).frozen? ⟨w.heap.size, 0, none⟩ = false := by simp
  go_enter Tryd.func13, Tryd.ntmps13
  go_wp2_with (first | (go_at_call 31; refine (as_hit n _ (.int .i64 0) _ hgA htA hfA).mono ?_; rintro e w' ⟨rfl, rfl⟩) | (go_at_call 32; refine (is_same n _).mono ?_; rintro e w' ⟨rfl, rfl⟩))
  go_ret
  refine ⟨rfl, ?_⟩
  repeat (first | exact Below.refl _ _ | refine Below.alloc ?_ (by simp <;> omega) _)
theorem HasEt.below {w w' : World} (h : HasEt w) (hb : Below w.heap.size w w') : HasEt w' := by
  unfold HasEt at h ⊢
  rw [hb.cell (World.block_lt_of_cell? w _ h)]
  exact h
#print axioms code_err
end Go.Proofs.YtehghdmfdinpjaaDoorC
