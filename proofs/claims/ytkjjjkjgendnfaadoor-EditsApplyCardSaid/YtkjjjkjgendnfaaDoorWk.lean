/- edits.walk: the shortest way through the grid of two lists, or none up to MaxWork. -/
import Derived.Test.YtkjjjkjgendnfaaDoorWkP
import Derived.Deep.DeepCutAuto
import Derived.Deep.QuietTactic
import Derived.BigQuiet
namespace Go.Proofs.YtkjjjkjgendnfaaDoorR
open Go.RowKit Go.Proofs.YtkjjjkjgendnfaaDoorM Go.Proofs.YtkjjjkjgendnfaaDoorE Go.Proofs.YtkjjjkjgendnfaaDoorW.PrintWords

set_option maxRecDepth 100000 in
set_option maxHeartbeats 1000000 in
theorem walk_calls (A0 A1 : Option Addr) (a b : List ByteArray) (c0 c1 : Nat) (w : World) (hr0 : Kd.C Kd.string w A0 a.length a) (hr1 : Kd.C Kd.string w A1 b.length b)
    (ha : a.length ≤ 140737488351232) (hb : b.length ≤ 140737488351232) :
    Calls Tryd.prog 18 #[.slice A0 a.length c0, .slice A1 b.length c1] w fun e w' => ∃ v', e = .returned (.tuple #[v', .bool (walkL a b).2]) ∧ w'.ownsRow w.heap.size 70 3 v' (walkL a b).1.length (flat (walkL a b).1) ∧ Below w.heap.size w w' := by
  have HR0 := Lib.hid hr0
  have HR1 := Lib.hid hr1
  clear hr0 hr1
  have hmm := @run_makeMap Tryd.prog
  obtain ⟨w1, hins, hm1, hg1⟩ := (MapF.made Tryd.prog 3 3 w).update Tryd.underlying3 Tryd.underlying3 Tryd.underlying67 (by unfold maxLen; omega) 1 0 (by decide) (by decide)
  have start : Round w w1 a b [] (put1 (fun _ => 0) 1 0) [] w.heap.size 1 (.slice none 0 0) := by
    refine ⟨hm1, by omega, Nat.le_refl _, rfl, fun i b h => by simp at h, World.ownsRow_nil _ _ _ _, ?_, ?_, ?_, ?_, Nat.zero_le _, rfl⟩
    · exact ((Below.refl _ _).alloc (Nat.le_refl _) _).grown hg1 (by simp) (fun k hk => by injection hk with hk; omega)
    · intro j; unfold put1; dsimp only; split <;> omega
    · intro j; unfold put1; dsimp only; split <;> simp <;> omega
    · intro i j; simp [trailF]
  have START := Lib.hid start
  clear start hg1 hm1
  go_enter Tryd.func18, Tryd.ntmps18
  go_wp2
  go_loopw [6, 7, 8] (fun v t d wr => ∃ (Ts : List (Int → Int)) (far : Int → Int) (bs : List Nat) (bf n : Nat), d = .int .i64 Ts.length ∧ t = .map (some bf) ∧ Hid (Round w wr a b Ts far bs bf n v))
    (fun _ _ d _ => 1000 - (intOf d).toNat)
  case atStart => exact ⟨[], _, [], _, _, rfl, rfl, START⟩
  case round =>
    obtain ⟨Ts, far, bs, bf, n, rfl, rfl, HRd⟩ := hrel
    obtain ⟨M, hM, hM1⟩ : ∃ M : Int, (if (100 : Int) < (a.length : Int) + (b.length : Int) then (100 : Int) else (a.length : Int) + (b.length : Int)) = M ∧ M + 1 = (roundsL a b : Nat) := ⟨_, rfl, by unfold roundsL; split <;> omega⟩
    have HM1 := Lib.hid hM1
    clear hM1
    by_cases hc : Ts.length < roundsL a b
    · have t1 : (Ts.length : Int) ≤ M := by have := HM1.out; omega
      have t2 : (Ts.length : Int) ≤ 100 := by unfold roundsL at hc; omega
      have HD0 := Lib.hid HRd.out.begin_
      obtain ⟨wo, rfl⟩ : ∃ wo : World, wo = wr := ⟨_, rfl⟩
      go_wp2
      go_loopw [10] (fun kk wr' => ∃ (j : Nat) (k : Int) (now : Int → Int), kk = .int .i64 k ∧ Hid (k = 2 * (j : Int) - Ts.length) ∧ -100 ≤ k ∧ k ≤ 200 ∧ Hid (Diag w wr' a b Ts far bs bf n u6 wo.heap.size j now))
        (fun kk _ => ((Ts.length : Int) + 2 - intOf kk).toNat)
      case atStart => exact ⟨0, -(Ts.length : Int), _, rfl, Lib.hid (by omega), by omega, by omega, HD0⟩
      case round =>
        obtain ⟨j, k, now, rfl, HK, hk0, hk1, HD⟩ := hrel
        by_cases hj : j < Ts.length + 1
        · have hkd : k ≤ (Ts.length : Int) := by have := HK.out; omega
          have fb1 := HD.out.rd.f0 (k - 1)
          have fb2 := HD.out.rd.f1 (k - 1)
          have fb3 := HD.out.rd.f0 (k + 1)
          have fb4 := HD.out.rd.f1 (k + 1)
          have r1 := HD.out.rd.fm.lookup Tryd.underlying3 Tryd.underlying3 Tryd.underlying67 zeroInt (k - 1) (wf64 (by omega) (by omega))
          have r2 := HD.out.rd.fm.lookup Tryd.underlying3 Tryd.underlying3 Tryd.underlying67 zeroInt (k + 1) (wf64 (by omega) (by omega))
          go_upto_region 11 with fail
          go_cut [51] (fun s wx => s = .bool (decB far k Ts.length) ∧ wr = wx)
          case first =>
            by_cases c1 : (k == -(Ts.length : Int)) = true
            · have e := decB_first (far := far) c1
              have E := Lib.hid e
              clear e
              go_wp2
              go_meet
              exact ⟨by rw [E.out], rfl⟩
            · have c1' : (k == -(Ts.length : Int)) = false := by simpa using c1
              clear c1
              by_cases c2 : (k != (Ts.length : Int)) = true
              · have e := decB_mid (far := far) c1' c2
                have E := Lib.hid e
                clear e
                go_wp2
                go_meet
                exact ⟨by rw [E.out], rfl⟩
              · have c2' : (k != (Ts.length : Int)) = false := by simpa using c2
                clear c2
                have e := decB_last (far := far) c1' c2'
                have E := Lib.hid e
                clear e
                go_wp2
                go_meet
                exact ⟨by rw [E.out], rfl⟩
          case rest =>
            obtain ⟨rfl, rfl⟩ := hcut
            generalize hdec : decB far k Ts.length = dec at *
            have HDEC := Lib.hid hdec
            clear hdec
            go_upto_if 51 with fail
            go_cut [11] (fun s wx => s = .int .i64 (startX far k Ts.length) ∧ wr = wx)
            case first =>
              cases dec
              · go_wp2
                go_meet
                exact ⟨by simp [startX, HDEC.out], rfl⟩
              · go_wp2
                go_meet
                exact ⟨by simp [startX, HDEC.out], rfl⟩
            case rest =>
              obtain ⟨rfl, rfl⟩ := hcut
              have hx := startX_bounds (k := k) (d := Ts.length) HD.out.rd.f0 HD.out.rd.f1
              have HX : Hid (nowX a b far k Ts.length = snake a b k a.length (startX far k Ts.length)) := Lib.hid rfl
              generalize startX far k Ts.length = x0 at *
              obtain ⟨hx0, hx1⟩ := hx
              go_wp2
              obtain ⟨w2, rfl⟩ : ∃ w2 : World, w2 = wr := ⟨_, rfl⟩
              go_loopw [11] (fun xx wr' => ∃ (x : Int) (f : Nat), xx = .int .i64 x ∧ 0 ≤ x ∧ x ≤ 1000000000000000 ∧ Hid (snake a b k f x = nowX a b far k Ts.length) ∧ Hid ((a.length : Int) ≤ x + f) ∧ Hid (Diag w wr' a b Ts far bs bf n u6 wo.heap.size j now))
                (fun xx _ => ((a.length : Int) - intOf xx).toNat)
              case atStart => exact ⟨x0, a.length, rfl, hx0, by omega, Lib.hid HX.out.symm, Lib.hid (by omega), HD⟩
              case round =>
                clear HD hx0 hx1
                obtain ⟨x, f, rfl, hx0, hx1, HS, HF, HD⟩ := hrel
                have hbe := HD.out.rd.below
                have HBE := Lib.hid hbe
                clear hbe
                go_upto_region 14 with fail
                go_cut [91] (fun s wx => s = .bool (snB a b k x) ∧ ∃ q, wx = wr.drewN q)
                case first =>
                  by_cases p1 : x < (a.length : Int)
                  · have q1 : decide (x < (a.length : Int)) = true := decide_eq_true p1
                    have hw1 : IntKind.i64.wrap (x - k) = x - k := IntWalk.i64_in _ (by omega)
                    obtain ⟨ad0, e0, hc0'⟩ := Kd.at_string HR0.out x hx0 p1
                    replace hc0' := (HBE.out.cell (World.block_lt_of_cell? w _ hc0')).trans hc0'
                    cases e0
                    by_cases p2 : x - k < (b.length : Int)
                    · have q2 : decide (x - k < (b.length : Int)) = true := decide_eq_true p2
                      by_cases p3 : 0 ≤ x - k
                      · have q3 : decide (0 ≤ x - k) = true := decide_eq_true p3
                        have p5 : k ≤ x := by omega
                        have q5 : decide (k ≤ x) = true := decide_eq_true p5
                        obtain ⟨ad1, e1, hc1'⟩ := Kd.at_string HR1.out (x - k) p3 p2
                        replace hc1' := (HBE.out.cell (World.block_lt_of_cell? w _ hc1')).trans hc1'
                        cases e1
                        have E := Lib.hid (snB_4 p1 p2 p3)
                        go_quiet (fail)
                        go_wp2
                        go_meet
                        exact ⟨by rw [E.out]; rfl, _, rfl⟩
                      · have q3 : decide (0 ≤ x - k) = false := decide_eq_false p3
                        have p5 : ¬ k ≤ x := by omega
                        have q5 : decide (k ≤ x) = false := decide_eq_false p5
                        have E := Lib.hid (snB_3 (a := a) (b := b) p3)
                        go_quiet (fail)
                        go_wp2
                        go_meet
                        exact ⟨by rw [E.out], _, rfl⟩
                    · have q2 : decide (x - k < (b.length : Int)) = false := decide_eq_false p2
                      have E := Lib.hid (snB_2 (a := a) p2)
                      go_quiet (fail)
                      go_wp2
                      go_meet
                      exact ⟨by rw [E.out], _, rfl⟩
                  · have q1 : decide (x < (a.length : Int)) = false := decide_eq_false p1
                    have E := Lib.hid (snB_1 (b := b) (k := k) p1)
                    go_quiet (fail)
                    go_wp2
                    go_meet
                    exact ⟨by rw [E.out], _, rfl⟩
                case rest =>
                  obtain ⟨rfl, q, rfl⟩ := hcut
                  have HD2 := Lib.hid (HD.out.drewN q)
                  clear HD HBE
                  by_cases hsn : snB a b k x = true
                  · have hxa := (snB_iff.1 hsn).1
                    have HSN := Lib.hid hsn
                    clear hsn
                    rw [HSN.out]
                    obtain ⟨f, rfl⟩ : ∃ f', f = f' + 1 := ⟨f - 1, by have := HF.out; omega⟩
                    go_wp2
                    go_roundw
                    case rel => exact ⟨x + 1, f, rfl, by omega, by omega, Lib.hid ((snake_goB HSN.out).symm.trans HS.out), Lib.hid (by have := HF.out; omega), HD2⟩
                    case measure => simp [intOf]; omega
                  · have hsn' : snB a b k x = false := by simpa using hsn
                    have HN := Lib.hid ((snake_stopB (f := f) hsn').symm.trans HS.out)
                    have HSN := Lib.hid hsn'
                    clear hsn hsn'
                    rw [HSN.out]
                    obtain ⟨w4, hrun4, hm4, hg4⟩ := HD2.out.nm.update Tryd.underlying3 Tryd.underlying3 Tryd.underlying67 (by have := HD2.out.jle; unfold maxLen; omega) k x (wf64 (by omega) (by omega)) (wf64 (by omega) (by omega))
                    have RD4 := Lib.hid (HD2.out.stay hg4)
                    have M4 := Lib.hid hm4
                    have G4 := Lib.hid hg4
                    have hrow4 := RD4.out.row
                    have hbe4 := RD4.out.below
                    have hbl := RD4.out.len
                    have HBL := Lib.hid hbl
                    have hbl' : bs.length ≤ 100 := by omega
                    clear hm4 hg4 hbl
                    by_cases e1 : (a.length : Int) ≤ x
                    · by_cases e2 : (b.length : Int) ≤ x - k
                      · have HW := Lib.hid (HD2.out.met hc hj HK.out HN.out e1 e2)
                        go_wp2_with (first | (at_builtin; refine print_append_cells (w0 := w) w.heap.size rfl (.tmp 109) (.tmp 111) 66 67 (.map none) 1 8 rfl Tryd.underlying66 infoMap rfl (by decide) (by decide) u6 bs.length (mapsOf bs) [.map (some bf)] rfl rfl rfl (by simp [Value.oneCell']) hrow4 hbe4 hbe4.size (by omega) ?_; intro v1 w5 hown5 hbe5 hg5 hat5) | fail)
                        have ho5 : w5.ownsRow w.heap.size 67 1 v1 (bs ++ [bf]).length (mapsOf (bs ++ [bf])) := by
                          rw [List.length_append, mapsOf, List.map_append]
                          exact hown5
                        refine (back_calls w.heap.size _ (bs ++ [bf]) (trailF (Ts ++ [far])) _ _ a.length b.length _ _ Ts.length _ ho5 (trail_rows RD4.out hg5) (trail_bounds RD4.out ha (by omega)) (by omega) (by omega) (by omega) (by simp; have := HBL.out; omega)).mono ?_
                        rintro e w6 ⟨v2, rfl, hr6, hbe6⟩
                        go_wp2
                        go_ret2
                        refine ⟨v2, by simp [HW.out], ?_, below_then hbe5 hbe5.size hbe6⟩
                        rw [HW.out]
                        simp only [List.length_reverse]
                        exact own_weaken hr6 hbe5.size
                      · have HD4 := Lib.hid (HD2.out.step hj HK.out HN.out M4.out G4.out (fun h => e2 h.2))
                        go_wp2
                        go_roundw
                        case rel => exact ⟨j + 1, k + 2, _, rfl, Lib.hid (by have := HK.out; omega), by omega, by omega, HD4⟩
                        case measure => simp [intOf]; omega
                    · have HD4 := Lib.hid (HD2.out.step hj HK.out HN.out M4.out G4.out (fun h => e1 h.1))
                      go_wp2
                      go_roundw
                      case rel => exact ⟨j + 1, k + 2, _, rfl, Lib.hid (by have := HK.out; omega), by omega, by omega, HD4⟩
                      case measure => simp [intOf]; omega
        · have hkd : ¬ k ≤ (Ts.length : Int) := by have := HK.out; omega
          have hje : j = Ts.length + 1 := by have := HD.out.jle; omega
          have HJE := Lib.hid hje
          clear hje
          have hrow4 := HD.out.rd.row
          have hbe4 := HD.out.rd.below
          have hbl' : bs.length ≤ 100 := by have := HD.out.rd.len; omega
          go_wp2_with (first | (at_builtin; refine print_append_cells (w0 := w) w.heap.size rfl (.tmp 117) (.tmp 119) 66 67 (.map none) 1 8 rfl Tryd.underlying66 infoMap rfl (by decide) (by decide) u6 bs.length (mapsOf bs) [.map (some bf)] rfl rfl rfl (by simp [Value.oneCell']) hrow4 hbe4 hbe4.size (by omega) ?_; intro v1 w5 hown5 hbe5 hg5 hat5) | fail)
          go_roundw
          case rel => exact ⟨Ts ++ [far], now, bs ++ [bf], wo.heap.size, j, by simp, rfl, Lib.hid (HD.out.next ha hc HJE.out hg5 hbe5 hown5)⟩
          case measure => simp [intOf]; omega
    · have t1 : ¬ (Ts.length : Int) ≤ M := by have := HM1.out; have := HRd.out.le; omega
      go_wp2
      go_ret2
      have hw : walkO a b = none := by
        rw [← HRd.out.out, show roundsL a b - Ts.length = 0 by omega]
        rfl
      refine ⟨.slice none 0 0, by simp [walkL, hw], by simp [walkL, hw]; exact World.ownsRow_nil _ _ _ _, HRd.out.below⟩
#print axioms walk_calls
end Go.Proofs.YtkjjjkjgendnfaaDoorR
