/- The walk of the law EditsDiff, over what its callees compute. -/
import Derived.Test.YtkjjjkjgendnfaaPAllx
namespace Go.Proofs.YtkjjjkjgendnfaaL
open Go.RowKit Go.Proofs.YtkjjjkjgendnfaaE Go.Proofs.YtkjjjkjgendnfaaW.PrintWords Go.Proofs.Ytkjjjkjgendnfaa.PAll

set_option maxRecDepth 100000 in
set_option maxHeartbeats 1000000 in
theorem editsDiff_calls (A0 A1 : Option Addr) (a b : List ByteArray) (c0 c1 : Nat) (w : World) (hr0 : Kd.C Kd.string w A0 a.length a) (hc0 : a.length ≤ c0) (hr1 : Kd.C Kd.string w A1 b.length b) (hc1 : b.length ≤ c1)
    (hp : a.length ≤ 400 → b.length ≤ 400 → ∃ (k : Nat) (H : List S33) (c : List ByteArray) (m n : Int), edits_Diff.f a b = some H ∧ tambourref02_Apply.f k a H = some (c, 0) ∧ tambourref01_Same.f k c b = some true ∧ tambourref01_Same.f k a b = some (H.length == 0) ∧
      tambourref02_Same.f k H H = some true ∧ tambourref02_Least.f a b = some m ∧ tambourref02_Cost.f k H = some n ∧ (n = m ∨ 100 < m)) :
    Calls Try.prog 3 #[.slice A0 a.length c0, .slice A1 b.length c1] w fun e w' => e = .returned (.bool true) ∧ Below w.heap.size w w' := by
  have HR0 := Lib.hid hr0
  have HR1 := Lib.hid hr1
  have HP := Lib.hid hp
  clear hr0 hr1 hp
  go_enter Try.func3, Try.ntmps3
  go_wp2_with fail
  refine (tambourlaw02_awake.calls true _ rfl).mono ?_
  rintro e w1 ⟨rfl, hb1⟩
  have B1 := Lib.hid hb1
  clear hb1
  by_cases l0 : a.length ≤ 400
  · have l0' : (a.length : Int) ≤ 400 := by omega
    by_cases l1 : b.length ≤ 400
    · have l1' : (b.length : Int) ≤ 400 := by omega
      obtain ⟨k, H, c, m, n, p1, p2, p3, p4, p5, p6, p7, p8⟩ := HP.out l0 l1
      have P1 := Lib.hid p1
      have P2 := Lib.hid p2
      have P3 := Lib.hid p3
      have P4 := Lib.hid p4
      have P5 := Lib.hid p5
      have P6 := Lib.hid p6
      have P7 := Lib.hid p7
      have P8 := Lib.hid p8
      clear p1 p2 p3 p4 p5 p6 p7 p8 l0 l1
      go_wp2_with fail
      refine (edits_Diff.calls _ _ a _ _ b H _ (Kd.C_below HR0.out B1.out) hc0 (Kd.C_below HR1.out B1.out) hc1 P1.out).mono ?_
      rintro e w2 ⟨v2, rfl, hr2, hb2⟩
      obtain ⟨A2, c2, rfl, hc2, hC2⟩ := Kd.R_reads hr2
      have B2 := Lib.hid (below_then B1.out B1.out.size hb2)
      have C2 := Lib.hid hC2
      clear hr2 hb2 hC2
      go_wp2_with fail
      refine (tambourref02_Apply.calls k _ _ a _ _ H c 0 _ (Kd.C_below HR0.out B2.out) hc0 C2.out hc2 P2.out).mono ?_
      rintro e w3 ⟨v3, rfl, hr3, hb3⟩
      obtain ⟨A3, c3, rfl, hc3, hC3⟩ := Kd.R_reads hr3
      have B3 := Lib.hid (below_then B2.out B2.out.size hb3)
      have C2' := Lib.hid (Kd.C_below C2.out hb3)
      have C3 := Lib.hid hC3
      clear hr3 hb3 hC3 C2
      go_wp2_with fail
      refine (tambourref01_Same.calls k _ _ c _ _ b true _ C3.out hc3 (Kd.C_below HR1.out B3.out) hc1 P3.out).mono ?_
      rintro e w4 ⟨rfl, hd4⟩
      have B4 := Lib.hid (below_then B3.out B3.out.size hd4.below)
      have C4 := Lib.hid (Kd.C_below C2'.out hd4.below)
      clear hd4 C3 C2'
      go_wp2_with fail
      refine (tambourref01_Same.calls k _ _ a _ _ b (H.length == 0) _ (Kd.C_below HR0.out B4.out) hc0 (Kd.C_below HR1.out B4.out) hc1 P4.out).mono ?_
      rintro e w5 ⟨rfl, hd5⟩
      have B5 := Lib.hid (below_then B4.out B4.out.size hd5.below)
      have C5 := Lib.hid (Kd.C_below C4.out hd5.below)
      clear hd5 C4
      have hlen : ((H.length : Int) == 0) = (H.length == 0) := by
        rw [Bool.eq_iff_iff]; simp
      generalize hq : (H.length == 0) = q at *
      clear hq
      cases q
      all_goals
        go_wp2_with fail
        refine (edits_Diff.calls _ _ a _ _ b H _ (Kd.C_below HR0.out B5.out) hc0 (Kd.C_below HR1.out B5.out) hc1 P1.out).mono ?_
        rintro e w6 ⟨v6, rfl, hr6, hb6⟩
        obtain ⟨A6, c6, rfl, hc6, hC6⟩ := Kd.R_reads hr6
        have B6 := Lib.hid (below_then B5.out B5.out.size hb6)
        have C5' := Lib.hid (Kd.C_below C5.out hb6)
        have C6 := Lib.hid hC6
        clear hr6 hb6 hC6
        go_wp2_with fail
        refine (tambourref02_Same.calls k _ _ H _ _ H true _ C6.out hc6 C5'.out hc2 P5.out).mono ?_
        rintro e w7 ⟨rfl, hd7⟩
        have B7 := Lib.hid (below_then B6.out B6.out.size hd7.below)
        have C7 := Lib.hid (Kd.C_below C5'.out hd7.below)
        clear hd7
        go_wp2_with fail
        refine (tambourref02_Least.calls _ _ a _ _ b m _ (Kd.C_below HR0.out B7.out) hc0 (Kd.C_below HR1.out B7.out) hc1 P6.out).mono ?_
        rintro e w8 ⟨rfl, hb8⟩
        have B8 := Lib.hid (below_then B7.out B7.out.size hb8)
        have C8 := Lib.hid (Kd.C_below C7.out hb8)
        clear hb8
        go_wp2_with fail
        refine (tambourref02_Cost.calls k _ _ H n _ C8.out hc2 P7.out).mono ?_
        rintro e w9 ⟨rfl, hd9⟩
        have B9 := Lib.hid (below_then B8.out B8.out.size hd9.below)
        clear hd9
        rcases P8.out with e8 | e8
        · have e8' : (n == m) = true := by simpa using e8
          have E8 := Lib.hid e8
          clear e8
          go_wp2
          go_ret
          exact ⟨rfl, B9.out⟩
        · by_cases e9 : (n == m) = true
          · go_wp2
            go_ret
            exact ⟨rfl, B9.out⟩
          · have e9' : (n == m) = false := by simpa using e9
            clear e9
            go_wp2
            go_ret
            exact ⟨rfl, B9.out⟩
    · have l1' : ¬ (b.length : Int) ≤ 400 := by omega
      go_wp2
      go_ret
      exact ⟨rfl, B1.out⟩
  · have l0' : ¬ (a.length : Int) ≤ 400 := by omega
    go_wp2
    go_ret
    exact ⟨rfl, B1.out⟩
#print axioms editsDiff_calls
end Go.Proofs.YtkjjjkjgendnfaaL
