/- A sector written: the ways that end in an error. -/
import Derived.Test.YtpdnfaggdheneaaDoorSR
namespace Go.Proofs.YtpdnfaggdheneaaDoorS
open Go.RowKit Go.Proofs Go.Proofs.YtpdnfaggdheneaaDoorW.PrintWords

theorem write_off {w : World} {D : Nat} (i : Int) (s : ByteArray) (k3 : w.cell? ⟨D, 3, none⟩ = some (.bool true)) :
    Calls Tryd.prog 8 #[.pointer (some ⟨D, 0, none⟩), .int .i64 i, .string s] w fun e w' => e = .returned (.iface 53 (.int .i64 20)) ∧ w' = w := by
  go_enter Tryd.func8, Tryd.ntmps8
  go_wp2_with (first | (go_at_call 10; refine (off_calls k3).mono ?_; rintro e w' ⟨rfl, rfl⟩))
  go_ret
  exact ⟨rfl, rfl⟩
theorem write_out {w : World} {D S n : Nat} (i : Int) (s : ByteArray) (k0 : w.cell? ⟨D, 0, none⟩ = some (.slice (some ⟨S, 0, none⟩) n n)) (k3 : w.cell? ⟨D, 3, none⟩ = some (.bool false)) (h : ¬ (0 ≤ i ∧ i < n ∧ s.size ≤ 512)) :
    Calls Tryd.prog 8 #[.pointer (some ⟨D, 0, none⟩), .int .i64 i, .string s] w fun e w' => e = .returned (.iface 53 (.int .i64 1)) ∧ w' = w := by
  have hh := there_calls i k0
  by_cases ht : 0 ≤ i ∧ i < n
  · have t0 : (decide (0 ≤ i) && decide (i < (n : Int))) = true := by
      rw [decide_eq_true ht.1, decide_eq_true ht.2]; rfl
    rw [t0] at hh
    have hs : decide ((512 : Int) < (s.size : Int)) = true := decide_eq_true (by omega)
    have HH := Lib.hid hh
    clear hh h t0 ht
    go_enter Tryd.func8, Tryd.ntmps8
    go_wp2_with (first | (go_at_call 10; refine (off_calls k3).mono ?_; rintro e w' ⟨rfl, rfl⟩) | (go_at_call 21; refine HH.out.mono ?_; rintro e w' ⟨rfl, rfl⟩))
    go_ret
    exact ⟨rfl, rfl⟩
  · have t0 : (decide (0 ≤ i) && decide (i < (n : Int))) = false := by
      rw [Bool.and_eq_false_iff, decide_eq_false_iff_not, decide_eq_false_iff_not]
      omega
    rw [t0] at hh
    have HH := Lib.hid hh
    clear hh h t0 ht
    go_enter Tryd.func8, Tryd.ntmps8
    go_wp2_with (first | (go_at_call 10; refine (off_calls k3).mono ?_; rintro e w' ⟨rfl, rfl⟩) | (go_at_call 21; refine HH.out.mono ?_; rintro e w' ⟨rfl, rfl⟩))
    go_ret
    exact ⟨rfl, rfl⟩
theorem write_dry {w : World} {B D S : Nat} {vw : Value} {sure : List ByteArray} {wait : List Wr} (i : Int) (s : ByteArray) (h : Dk w B D S vw sure wait 0 false) (h0 : 0 ≤ i) (h1 : i < sure.length) (h2 : s.size ≤ 512) :
    Calls Tryd.prog 8 #[.pointer (some ⟨D, 0, none⟩), .int .i64 i, .string s] w fun e w' => e = .returned (.iface 53 (.int .i64 20)) ∧ Dk w' B D S vw sure wait 0 true ∧ Keep w w' (fun k => k ≠ D) := by
  have k0 := h.c0
  have k3 := h.c3
  have hh := there_calls i k0
  have t0 : (decide (0 ≤ i) && decide (i < (sure.length : Int))) = true := by
    rw [decide_eq_true h0, decide_eq_true h1]; rfl
  rw [t0] at hh
  have hs : decide ((512 : Int) < (s.size : Int)) = false := decide_eq_false (by omega)
  have st := step_calls h (by omega) (by omega)
  have HH := Lib.hid hh
  have ST := Lib.hid st
  clear hh h t0 h0 h1 h2 st
  go_enter Tryd.func8, Tryd.ntmps8
  go_wp2_with (first | (go_at_call 10; refine (off_calls k3).mono ?_; rintro e w' ⟨rfl, rfl⟩) | (go_at_call 21; refine HH.out.mono ?_; rintro e w' ⟨rfl, rfl⟩) | (go_at_call 22; refine ST.out.mono ?_; rintro e w2 ⟨rfl, hd2, hk2⟩; have HD2 := Lib.hid hd2; have HK2 := Lib.hid hk2; clear hd2 hk2))
  go_ret
  exact ⟨rfl, HD2.out, HK2.out⟩
#print axioms write_out
end Go.Proofs.YtpdnfaggdheneaaDoorS
