/- slices.Clone of a row of lines. -/
import Derived.Test.YtkjjjkjgendnfaaDoorBk
import Derived.WalkSpells
namespace Go.Proofs.YtkjjjkjgendnfaaDoorR
open Go.RowKit Go.Proofs.YtkjjjkjgendnfaaDoorW.PrintWords
theorem infoStr : (Tryd.prog.info? 9).map (fun i => (i.zero, i.size, i.bytes)) = some (some (.string ⟨#[]⟩), 1, 16) := by kernel_rfl

theorem clone_calls (A : Option Addr) (c : Nat) (l : List ByteArray) (w : World) (hr : Kd.C Kd.string w A l.length l) (hl : l.length < 8796093022208) :
    Calls Tryd.prog 15 #[.slice A l.length c] w fun e w' => ∃ v', e = .returned v' ∧ Kd.R Kd.string 9 w' w.heap.size (fun _ => True) v' l ∧ Below w.heap.size w w' := by
  have hq := fun (w : World) (a : Option Addr) (n c : Nat) => Lib.run_eql_slice_nil (P := Tryd.prog) w 22 9 a n c 0 0 Tryd.underlying22
  have HR := Lib.hid hr
  clear hr
  cases A with
  | none =>
    have h0 : l = [] := by
      rcases Nat.eq_zero_or_pos l.length with h | h
      · exact List.eq_nil_of_length_eq_zero h
      · obtain ⟨ad, _, e, _⟩ := Kd.C_get HR.out ByteArray.empty 0 (by omega) (by omega)
        cases e
    subst h0
    go_enter Tryd.func15, Tryd.ntmps15
    go_wp2
    go_ret
    exact ⟨_, rfl, Kd.R_nil _ _ _ _ _, Below.refl _ _⟩
  | some ad =>
    have hown : Kd.string.R 9 (w.alloc (.cells #[] 9)) w.heap.size (fun _ => True) (.slice (some ⟨w.heap.size, 0, none⟩) 0 0) [] :=
      Kd.R_of_own (World.ownsRow_lit w #[] 0 (Nat.le_refl _) (by simp [maxLen]) (by simp)) (fun _ _ => trivial)
    go_enter Tryd.func15, Tryd.ntmps15
    go_wp2_with (first | (at_builtin; refine Kd.R_append_row Value.string ByteArray.empty (w0 := w) w.heap.size rfl (.tmp 5) (.tmp 6) 22 9 (.string ⟨#[]⟩) 16 rfl Tryd.underlying22 infoStr rfl (by decide) _ [] l _ _ _ (fun _ => True) rfl rfl (fun _ _ => trivial) hown (Kd.C_alloc HR.out _) (below_alloc (Below.refl _ _) _) (by simp) (by simp; omega) ?_; intro v1 w1 hR hB hg hat) | fail)
    go_ret
    exact ⟨v1, rfl, hR, hB⟩
end Go.Proofs.YtkjjjkjgendnfaaDoorR
