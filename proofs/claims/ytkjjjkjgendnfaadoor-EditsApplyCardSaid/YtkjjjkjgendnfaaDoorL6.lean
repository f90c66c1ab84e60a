/- The walk of the law EditsApply, over what its callees compute. -/
import Derived.Test.YtkjjjkjgendnfaaDoorPAllx
import Derived.Test.YtkjjjkjgendnfaaDoorCd
namespace Go.Proofs.YtkjjjkjgendnfaaDoorL
open Go.RowKit Go.Proofs.YtkjjjkjgendnfaaDoorE Go.Proofs.YtkjjjkjgendnfaaDoorW.PrintWords Go.Proofs.YtkjjjkjgendnfaaDoorW.PrintLast Go.Proofs.YtkjjjkjgendnfaaDoorW.PrintMore Go.Proofs.YtkjjjkjgendnfaaDoor.PAll
attribute [local go_sem] max2_int min2_int max_two min_two max_three min_three max_four min_four
set_option linter.unusedVariables false
set_option linter.unusedSimpArgs false

/-- How many lines the first i hunks put, as the machine adds them. -/
def sumP (l : List S26) : Nat → Int
  | 0 => 0
  | i + 1 => wrap64 (sumP l i + ((rd_T26 l (i : Int)).f2.length : Int))

/-- Code of an error as the print spells it. -/
theorem code_calls (e : Option Int) (c : Int) (h : (e = none ∧ c = 0) ∨ e = some c) (w : World) (hg : Go.Proofs.YtkjjjkjgendnfaaDoorC.HasEt w) : Calls Tryd.prog 12 #[errW e] w fun r w' => r = .returned (.int .i64 c) ∧ Below w.heap.size w w' := by
  rcases h with ⟨rfl, rfl⟩ | rfl
  · refine (Go.Proofs.YtkjjjkjgendnfaaDoorC.code_nil w).mono ?_
    rintro r w' ⟨rfl, rfl⟩
    exact ⟨rfl, Below.refl _ _⟩
  · exact Go.Proofs.YtkjjjkjgendnfaaDoorC.code_err c w hg

set_option maxRecDepth 100000 in
set_option maxHeartbeats 2000000 in
theorem editsApply_calls (A0 A1 : Option Addr) (a : List ByteArray) (l1 : List S26) (c0 c1 : Nat) (w : World) (hg : Go.Proofs.YtkjjjkjgendnfaaDoorC.HasEt w) (hr0 : Kd.C Kd.string w A0 a.length a) (hc0 : a.length ≤ c0) (hr1 : Kd.C k26 w A1 l1.length l1) (hc1 : l1.length ≤ c1)
    (hp : a.length ≤ 1000 → l1.length ≤ 500 → sumP l1 l1.length ≤ 2000 → ∃ (k : Nat) (b : List ByteArray) (K : List S26) (e : Option Int) (c : Int) (q : Bool), edits_Apply.f k a l1 = some (b, e) ∧ tambourref02_Apply.f k a l1 = some (b, c) ∧ edits_Back.f k a l1 = some (K, e) ∧ tambourref02_Back.f k a l1 = some (K, c) ∧
      edits_Right.f k l1 a.length = some q ∧ tambourref02_Right.f k l1 a.length = some q ∧ tambourref01_Same.f k b b = some true ∧ tambourref02_Same.f k K K = some true ∧ ((e = none ∧ c = 0) ∨ e = some c)) :
    Calls Tryd.prog 3 #[.slice A0 a.length c0, .slice A1 l1.length c1] w fun e w' => e = .returned (.bool true) ∧ Below w.heap.size w w' := by
  have hu26 := Tryd.underlying26
  have HR0 := Lib.hid hr0
  have HR1 := Lib.hid hr1
  have HP := Lib.hid hp
  have HG := Lib.hid hg
  clear hr0 hr1 hp hg
  go_enter Tryd.func3, Tryd.ntmps3
  go_wp2_with fail
  refine (tambourlaw02_awake.calls true _ rfl).mono ?_
  rintro e w1 ⟨rfl, hb1⟩
  have HB1 := Lib.hid hb1
  clear hb1
  go_wp2_with fail
  go_loopg [5, 20] l1.length (fun kq v5 v20 w' => ∃ i : Nat, v5 = .int .i64 (sumP l1 i) ∧ v20 = .int .i64 (i : Int) ∧ Aside0 (kq + i = l1.length) ∧ Aside0 (Below w.heap.size w w'))
  case atStart => exact ⟨0, rfl, rfl, ⟨rfl⟩, ⟨HB1.out⟩⟩
  case round =>
    clear HB1
    obtain ⟨i, rfl, rfl, HK, HB⟩ := hrel
    have hk := HK.out
    clear HK
    by_cases hi : i < l1.length
    · have p1 : 0 ≤ (i : Int) := by omega
      have q1 : (i : Int) < (l1.length : Int) := by omega
      have hlm : l1.length ≤ 9223372036854775807 := HR1.out.2.1
      have hwi : wrap64 ((i : Int) + 1) = ((i + 1 : Nat) : Int) := by unfold wrap64; omega
      clear hlm
      obtain ⟨ad, A2, c2, e, hx0, hx1, hx2, hl2, hi2⟩ := at_T26 HR1.out (i : Int) p1 q1
      cases e
      rw [Int.toNat_natCast] at hx0 hx1 hx2
      replace hx0 := (HB.out.cell (World.block_lt_of_cell? w _ hx0)).trans hx0
      replace hx1 := (HB.out.cell (World.block_lt_of_cell? w _ hx1)).trans hx1
      replace hx2 := (HB.out.cell (World.block_lt_of_cell? w _ hx2)).trans hx2
      have HR2 := Lib.hid hi2
      have HL2 := Lib.hid hl2
      clear hi2 hl2
      replace p1 := eq_true p1
      replace q1b : decide ((i : Int) < (l1.length : Int)) = true := decide_eq_true q1
      replace q1 := eq_true q1
      go_wp2_with (first | ((with_reducible refine gate_dst (N := 7) rfl ?_); (try (refine gate_guard (by rfl) ?_; dsimp only)); refine box_event ?hg (N := 7) ?hd (cs := #[.int .i64 0, .int .i64 0, .slice none 0 0]) (t := 26) ?hr ?_; (case hd => rfl); (case hg => rfl); (case hr => first | (go_simp; done) | (go_simp; rfl)); intro gb134 hg w22 hbox hb; have n0_ := Aside0.mk (below_step (by repeat (first | (with_reducible first | exact HB.out | apply below_alloc | apply pw_below_drewN | apply below_drew1) | exact HB.out)) hb); have n1_ := Aside0.mk (hbox); have n2_ := Aside0.mk ((by rw [hg]; exact (below_size (by repeat (first | (with_reducible first | exact HB.out | apply below_alloc | apply pw_below_drewN | apply below_drew1) | exact HB.out))) : w.heap.size ≤ gb134)); clear HB; have HB := n0_; have BK134 := n1_; have GE134 := n2_; clear n0_ n1_ n2_; clear hb hbox hg; have hcz23_0 : w22.cell? ⟨gb134, 0, none⟩ = some (.int .i64 0) := (blk_cell BK134.out 0).trans rfl; have hcz23_1 : w22.cell? ⟨gb134, 1, none⟩ = some (.int .i64 0) := (blk_cell BK134.out 1).trans rfl; have hcz23_2 : w22.cell? ⟨gb134, 2, none⟩ = some (.slice none 0 0) := (blk_cell BK134.out 2).trans rfl; have hfz23_0 := blk_frozen BK134.out 0; have hfz23_1 := blk_frozen BK134.out 1; have hfz23_2 := blk_frozen BK134.out 2))
      go_roundg (gk - 1)
      case measure => omega
      case rel => exact ⟨i + 1, rfl, by rw [hwi], ⟨by omega⟩, ⟨by repeat (first | (with_reducible first | exact HB.out | apply below_alloc | apply pw_below_drewN | apply below_drew1 | refine below_set ?_ GE134.out) | exact HB.out)⟩⟩
    · have hil : i = l1.length := by omega
      subst hil
      have q1 : decide ((l1.length : Int) < (l1.length : Int)) = false := decide_eq_false (by omega)
      have B1 := Lib.hid HB.out
      clear HB q1
      by_cases la : a.length ≤ 1000
      · by_cases lb : l1.length ≤ 500
        · by_cases ls : sumP l1 l1.length ≤ 2000
          · have q1 : decide ((l1.length : Int) < (l1.length : Int)) = false := decide_eq_false (by omega)
            have qa : decide ((1000 : Int) < (a.length : Int)) = false := decide_eq_false (by omega)
            have qb : decide ((500 : Int) < (l1.length : Int)) = false := decide_eq_false (by omega)
            have qs : decide ((2000 : Int) < sumP l1 l1.length) = false := decide_eq_false (by omega)
            have HPP := Lib.hid (HP.out la lb ls)
            clear HP la lb ls
            obtain ⟨k, b, K, e, c, q, e1, e2, e3, e4, e5, e6, e7, e8, e9⟩ := HPP.out
            have E1 := Lib.hid e1
            have E2 := Lib.hid e2
            have E3 := Lib.hid e3
            have E4 := Lib.hid e4
            have E5 := Lib.hid e5
            have E6 := Lib.hid e6
            have E7 := Lib.hid e7
            have E8 := Lib.hid e8
            have E9 := Lib.hid e9
            clear e1 e2 e3 e4 e5 e6 e7 e8 e9 HPP
            go_wp2_with fail
            refine (edits_Apply.calls k _ _ a _ _ l1 b e _ (Kd.C_below HR0.out B1.out) hc0 (Kd.C_below HR1.out B1.out) hc1 E1.out).mono ?_
            rintro e_ w2 ⟨v2, rfl, hr2, hb2⟩
            obtain ⟨A2, c2, rfl, hc2, hC2⟩ := Kd.R_reads hr2
            have B2 := Lib.hid (below_then B1.out B1.out.size hb2)
            have C2 := Lib.hid hC2
            clear hr2 hb2 hC2
            go_wp2_with fail
            refine (tambourref02_Apply.calls k _ _ a _ _ l1 b c _ (Kd.C_below HR0.out B2.out) hc0 (Kd.C_below HR1.out B2.out) hc1 E2.out).mono ?_
            rintro e_ w3 ⟨v3, rfl, hr3, hb3⟩
            obtain ⟨A3, c3, rfl, hc3, hC3⟩ := Kd.R_reads hr3
            have B3 := Lib.hid (below_then B2.out B2.out.size hb3)
            have C23 := Lib.hid (Kd.C_below C2.out hb3)
            have C3 := Lib.hid hC3
            clear hr3 hb3 hC3 C2
            go_wp2_with fail
            refine (edits_Back.calls k _ _ a _ _ l1 K e _ (Kd.C_below HR0.out B3.out) hc0 (Kd.C_below HR1.out B3.out) hc1 E3.out).mono ?_
            rintro e_ w4 ⟨v4, rfl, hr4, hb4⟩
            obtain ⟨A4, c4, rfl, hc4, hC4⟩ := Kd.S_reads hr4
            have B4 := Lib.hid (below_then B3.out B3.out.size hb4)
            have C24 := Lib.hid (Kd.C_below C23.out hb4)
            have C34 := Lib.hid (Kd.C_below C3.out hb4)
            have C4 := Lib.hid hC4
            clear hr4 hb4 hC4 C23 C3
            go_wp2_with fail
            refine (tambourref02_Back.calls k _ _ a _ _ l1 K c _ (Kd.C_below HR0.out B4.out) hc0 (Kd.C_below HR1.out B4.out) hc1 E4.out).mono ?_
            rintro e_ w5 ⟨v5, rfl, hr5, hb5⟩
            obtain ⟨A5, c5, rfl, hc5, hC5⟩ := Kd.S_reads hr5
            have B5 := Lib.hid (below_then B4.out B4.out.size hb5)
            have C25 := Lib.hid (Kd.C_below C24.out hb5)
            have C35 := Lib.hid (Kd.C_below C34.out hb5)
            have C45 := Lib.hid (Kd.C_below C4.out hb5)
            have C5 := Lib.hid hC5
            clear hr5 hb5 hC5 C24 C34 C4
            go_wp2_with fail
            refine (edits_Right.calls k _ _ l1 a.length q _ (Kd.C_below HR1.out B5.out) hc1 E5.out).mono ?_
            rintro e_ w6 ⟨rfl, hb6⟩
            have B6 := Lib.hid (below_then B5.out B5.out.size hb6)
            have C26 := Lib.hid (Kd.C_below C25.out hb6)
            have C36 := Lib.hid (Kd.C_below C35.out hb6)
            have C46 := Lib.hid (Kd.C_below C45.out hb6)
            have C56 := Lib.hid (Kd.C_below C5.out hb6)
            clear hb6 C25 C35 C45 C5
            go_wp2_with fail
            refine (tambourref02_Right.calls k _ _ l1 a.length q _ (Kd.C_below HR1.out B6.out) hc1 E6.out).mono ?_
            rintro e_ w7 ⟨rfl, hb7⟩
            have B7 := Lib.hid (below_then B6.out B6.out.size hb7)
            have C27 := Lib.hid (Kd.C_below C26.out hb7)
            have C37 := Lib.hid (Kd.C_below C36.out hb7)
            have C47 := Lib.hid (Kd.C_below C46.out hb7)
            have C57 := Lib.hid (Kd.C_below C56.out hb7)
            clear hb7 C26 C36 C46 C56
            have hqq : (q == q) = true := by simp
            go_wp2_with fail
            refine (tambourref01_Same.calls k _ _ b _ _ b true _ C27.out hc2 C37.out hc3 E7.out).mono ?_
            rintro e_ w8 ⟨rfl, hd8⟩
            have B8 := Lib.hid (below_then B7.out B7.out.size hd8.below)
            have C48 := Lib.hid (Kd.C_below C47.out hd8.below)
            have C58 := Lib.hid (Kd.C_below C57.out hd8.below)
            clear hd8 C27 C37 C47 C57
            go_wp2_with fail
            refine (code_calls e c E9.out _ (HG.out.below B8.out)).mono ?_
            rintro e_ w9 ⟨rfl, hb9⟩
            have B9 := Lib.hid (below_then B8.out B8.out.size hb9)
            have C49 := Lib.hid (Kd.C_below C48.out hb9)
            have C59 := Lib.hid (Kd.C_below C58.out hb9)
            clear hb9 C48 C58
            have hcc : (c == c) = true := by simp
            go_wp2_with fail
            refine (tambourref02_Same.calls k _ _ K _ _ K true _ C49.out hc4 C59.out hc5 E8.out).mono ?_
            rintro e_ w10 ⟨rfl, hd10⟩
            have B10 := Lib.hid (below_then B9.out B9.out.size hd10.below)
            clear hd10 C49 C59
            go_wp2_with fail
            refine (code_calls e c E9.out _ (HG.out.below B10.out)).mono ?_
            rintro e_ w11 ⟨rfl, hb11⟩
            have B11 := Lib.hid (below_then B10.out B10.out.size hb11)
            clear hb11
            go_wp2_with fail
            go_ret
            exact ⟨rfl, B11.out⟩
          · have q1 : decide ((l1.length : Int) < (l1.length : Int)) = false := decide_eq_false (by omega)
            have qa : decide ((1000 : Int) < (a.length : Int)) = false := decide_eq_false (by omega)
            have qb : decide ((500 : Int) < (l1.length : Int)) = false := decide_eq_false (by omega)
            have qs : decide ((2000 : Int) < sumP l1 l1.length) = true := decide_eq_true (by omega)
            clear la lb ls
            go_wp2_with fail
            go_ret
            exact ⟨rfl, B1.out⟩
        · have q1 : decide ((l1.length : Int) < (l1.length : Int)) = false := decide_eq_false (by omega)
          have qa : decide ((1000 : Int) < (a.length : Int)) = false := decide_eq_false (by omega)
          have qb : decide ((500 : Int) < (l1.length : Int)) = true := decide_eq_true (by omega)
          clear la lb
          go_wp2_with fail
          go_ret
          exact ⟨rfl, B1.out⟩
      · have q1 : decide ((l1.length : Int) < (l1.length : Int)) = false := decide_eq_false (by omega)
        have qa : decide ((1000 : Int) < (a.length : Int)) = true := decide_eq_true (by omega)
        clear la
        go_wp2_with fail
        go_ret
        exact ⟨rfl, B1.out⟩
#print axioms editsApply_calls
end Go.Proofs.YtkjjjkjgendnfaaDoorL
