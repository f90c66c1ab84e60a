/- The walk of the law EditsTurned, over what its callees compute. -/
import Derived.Test.YtkjjjkjgendnfaaPAllx
namespace Go.Proofs.YtkjjjkjgendnfaaL
open Go.RowKit Go.Proofs.YtkjjjkjgendnfaaE Go.Proofs.YtkjjjkjgendnfaaW.PrintWords Go.Proofs.Ytkjjjkjgendnfaa.PAll

set_option maxRecDepth 100000 in
set_option maxHeartbeats 1000000 in
theorem editsTurned_calls (A0 A1 : Option Addr) (a b : List ByteArray) (c0 c1 : Nat) (w : World) (hr0 : Kd.C Kd.string w A0 a.length a) (hc0 : a.length ≤ c0) (hr1 : Kd.C Kd.string w A1 b.length b) (hc1 : b.length ≤ c1)
    (hp : a.length ≤ 200 → b.length ≤ 200 → ∃ (k : Nat) (H G : List S33) (x y : Int), edits_Diff.f a b = some H ∧ tambourref02_Cost.f k H = some x ∧ edits_Diff.f b a = some G ∧ tambourref02_Cost.f k G = some y ∧ (x = y ∨ 100 < x ∨ 100 < y) ∧ x ≤ (a.length : Int) + b.length ∧ y ≤ (a.length : Int) + b.length) :
    Calls Try.prog 4 #[.slice A0 a.length c0, .slice A1 b.length c1] w fun e w' => e = .returned (.bool true) ∧ Below w.heap.size w w' := by
  have HR0 := Lib.hid hr0
  have HR1 := Lib.hid hr1
  have HP := Lib.hid hp
  clear hr0 hr1 hp
  go_enter Try.func4, Try.ntmps4
  go_wp2_with fail
  refine (tambourlaw02_awake.calls true _ rfl).mono ?_
  rintro e w1 ⟨rfl, hb1⟩
  have B1 := Lib.hid hb1
  clear hb1
  by_cases l0 : a.length ≤ 200
  · have l0' : (a.length : Int) ≤ 200 := by omega
    by_cases l1 : b.length ≤ 200
    · have l1' : (b.length : Int) ≤ 200 := by omega
      obtain ⟨k, H, G, x, y, p1, p2, p3, p4, p5, p6, p7⟩ := HP.out l0 l1
      have P1 := Lib.hid p1
      have P2 := Lib.hid p2
      have P3 := Lib.hid p3
      have P4 := Lib.hid p4
      have P5 := Lib.hid p5
      clear p1 p2 p3 p4 p5 l0 l1
      go_wp2_with fail
      refine (edits_Diff.calls _ _ a _ _ b H _ (Kd.C_below HR0.out B1.out) hc0 (Kd.C_below HR1.out B1.out) hc1 P1.out).mono ?_
      rintro e w2 ⟨v2, rfl, hr2, hb2⟩
      obtain ⟨A2, c2, rfl, hc2, hC2⟩ := Kd.R_reads hr2
      have B2 := Lib.hid (below_then B1.out B1.out.size hb2)
      have C2 := Lib.hid hC2
      clear hr2 hb2 hC2
      go_wp2_with fail
      refine (tambourref02_Cost.calls k _ _ H x _ C2.out hc2 P2.out).mono ?_
      rintro e w3 ⟨rfl, hd3⟩
      have B3 := Lib.hid (below_then B2.out B2.out.size hd3.below)
      clear hd3 C2
      go_wp2_with fail
      refine (edits_Diff.calls _ _ b _ _ a G _ (Kd.C_below HR1.out B3.out) hc1 (Kd.C_below HR0.out B3.out) hc0 P3.out).mono ?_
      rintro e w4 ⟨v4, rfl, hr4, hb4⟩
      obtain ⟨A4, c4, rfl, hc4, hC4⟩ := Kd.R_reads hr4
      have B4 := Lib.hid (below_then B3.out B3.out.size hb4)
      have C4 := Lib.hid hC4
      clear hr4 hb4 hC4
      go_wp2_with fail
      refine (tambourref02_Cost.calls k _ _ G y _ C4.out hc4 P4.out).mono ?_
      rintro e w5 ⟨rfl, hd5⟩
      have B5 := Lib.hid (below_then B4.out B4.out.size hd5.below)
      clear hd5 C4
      by_cases e1 : (x == y) = true
      · go_wp2
        go_ret
        exact ⟨rfl, B5.out⟩
      · have e1' : (x == y) = false := by simpa using e1
        clear e1
        by_cases e2 : 100 < x
        · go_wp2
          go_ret
          exact ⟨rfl, B5.out⟩
        · have e3 : 100 < y := by
            rcases P5.out with h | h | h
            · rw [h] at e1'; simp at e1'
            · exact absurd h e2
            · exact h
          go_wp2
          go_ret
          exact ⟨rfl, B5.out⟩
    · have l1' : ¬ (b.length : Int) ≤ 200 := by omega
      go_wp2
      go_ret
      exact ⟨rfl, B1.out⟩
  · have l0' : ¬ (a.length : Int) ≤ 200 := by omega
    go_wp2
    go_ret
    exact ⟨rfl, B1.out⟩
#print axioms editsTurned_calls
end Go.Proofs.YtkjjjkjgendnfaaL
