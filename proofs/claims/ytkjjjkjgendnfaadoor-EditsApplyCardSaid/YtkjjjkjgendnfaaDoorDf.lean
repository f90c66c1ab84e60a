/- edits.Diff: what it computes, as a plain function. -/
import Derived.Test.YtkjjjkjgendnfaaDoorWk
import Derived.Test.YtkjjjkjgendnfaaDoorHu
namespace Go.Proofs.YtkjjjkjgendnfaaDoorR
open Go.RowKit Go.Proofs.YtkjjjkjgendnfaaDoorE Go.Proofs.YtkjjjkjgendnfaaDoorW.PrintWords

theorem preB_1 {a b : List ByteArray} {i : Nat} (h : ¬ i < a.length) : preB a b i = false := by simp [preB, h]
theorem preB_2 {a b : List ByteArray} {i : Nat} (h : ¬ i < b.length) : preB a b i = false := by simp [preB, h]
theorem preB_3 {a b : List ByteArray} {i : Nat} (h1 : i < a.length) (h2 : i < b.length) : preB a b i = ((rdOf ByteArray.empty a (i : Int)).toList == (rdOf ByteArray.empty b (i : Int)).toList) := by
  simp [preB, h1, h2, alike, rdOf]
theorem sufB_1 {a b : List ByteArray} {p i : Nat} (h : ¬ i + p < a.length) : sufB a b p i = false := by simp [sufB, h]
theorem sufB_2 {a b : List ByteArray} {p i : Nat} (h : ¬ i + p < b.length) : sufB a b p i = false := by simp [sufB, h]
theorem sufB_3 {a b : List ByteArray} {p i : Nat} (h1 : i + p < a.length) (h2 : i + p < b.length) : sufB a b p i = ((rdOf ByteArray.empty a ((a.length : Int) - 1 - i)).toList == (rdOf ByteArray.empty b ((b.length : Int) - 1 - i)).toList) := by
  have e1 : ((a.length : Int) - 1 - i).toNat = a.length - 1 - i := by omega
  have e2 : ((b.length : Int) - 1 - i).toNat = b.length - 1 - i := by omega
  simp [sufB, h1, h2, alike, rdOf, e1, e2]

theorem mid_eq (l : List ByteArray) (p s : Nat) : (l.take ((l.length : Int) - s).toNat).drop (p : Int).toNat = mid l p s := by
  unfold mid
  rw [Int.toNat_natCast, show ((l.length : Int) - s).toNat = l.length - s by omega]
theorem mid_le (l : List ByteArray) (p s : Nat) : (mid l p s).length ≤ l.length := by
  unfold mid
  simp
  omega
theorem steps_read {w : World} {base g cap : Nat} {l : List St} (h : w.ownsRow base 70 3 (.slice (some ⟨g, 0, none⟩) l.length cap) l.length (flat l)) (j : Nat) (s : St) (hs : l[j]? = some s) :
    ∃ ad, some (⟨g, 0, none⟩ : Addr) = some ad ∧ w.cell? (ad.add (j * 3)) = some (.int .i64 s.1) ∧ w.cell? ⟨(ad.add (j * 3)).block, (ad.add (j * 3)).off + 1, none⟩ = some (.int .i64 s.2.1) ∧ w.cell? ⟨(ad.add (j * 3)).block, (ad.add (j * 3)).off + 2, none⟩ = some (.bool s.2.2) := by
  obtain ⟨hj, rfl⟩ := List.getElem?_eq_some_iff.1 hs
  obtain ⟨h1, h2, h3⟩ := flat_get l j hj
  refine ⟨_, rfl, ?_, ?_, ?_⟩
  · rw [add_plain, h.cellAt (j * 3) (by omega)]; exact h1
  · rw [add_plain, h.cellAt (j * 3 + 1) (by omega)]; exact h2
  · rw [add_plain, h.cellAt (j * 3 + 2) (by omega)]; exact h3

set_option maxRecDepth 100000 in
set_option maxHeartbeats 1000000 in
theorem diff_calls (A0 A1 : Option Addr) (a b : List ByteArray) (c0 c1 : Nat) (w : World) (hr0 : Kd.C Kd.string w A0 a.length a) (hc0 : a.length ≤ c0) (hr1 : Kd.C Kd.string w A1 b.length b) (hc1 : b.length ≤ c1)
    (ha : a.length < 8796093022208) (hb : b.length < 8796093022208) (hok : (walkL (diffX a b) (diffY a b)).2 = true → stepsOk (preL a b) (walkL (diffX a b) (diffY a b)).1 (diffY a b) = true) :
    Calls Tryd.prog 14 #[.slice A0 a.length c0, .slice A1 b.length c1] w fun e w' => ∃ v' ps, e = .returned v' ∧ HRow w' w.heap.size v' (diffL a b) ps ∧ Below w.heap.size w w' := by
  have HR0 := Lib.hid hr0
  have HR1 := Lib.hid hr1
  have OK := Lib.hid hok
  clear hr0 hr1 hok
  go_enter Tryd.func14, Tryd.ntmps14
  go_wp2
  go_loopw [5] (fun i wr => ∃ (k f : Nat), i = .int .i64 k ∧ k ≤ a.length ∧ k ≤ b.length ∧ Hid (preGo a b f k = preL a b) ∧ Hid (a.length ≤ k + f) ∧ (∃ q, wr = w.drewN q))
    (fun i _ => a.length - (intOf i).toNat)
  case atStart => exact ⟨0, a.length, rfl, Nat.zero_le _, Nat.zero_le _, Lib.hid rfl, Lib.hid (by omega), 0, rfl⟩
  case round =>
    obtain ⟨k, f, rfl, hk, hkb, HP, HF, q0, rfl⟩ := hrel
    go_upto_region 2 with fail
    go_cut [31] (fun s wx => s = .bool (preB a b k) ∧ ∃ q, wx = w.drewN q)
    case first =>
      by_cases p1 : k < a.length
      · have q1 : decide (k < a.length) = true := decide_eq_true p1
        obtain ⟨ad0, e0, x0⟩ := Kd.at_string HR0.out (k : Int) (by omega) (by omega)
        cases e0
        rw [Int.toNat_natCast] at x0
        by_cases p2 : k < b.length
        · have q2 : decide (k < b.length) = true := decide_eq_true p2
          obtain ⟨ad1, e1, x1⟩ := Kd.at_string HR1.out (k : Int) (by omega) (by omega)
          cases e1
          rw [Int.toNat_natCast] at x1
          have E := Lib.hid (preB_3 p1 p2)
          go_quiet (fail)
          go_wp2
          go_meet
          refine ⟨by rw [E.out], ?_⟩
          exact ⟨_, World.drewN_drewN _ _ _⟩
        · have q2 : decide (k < b.length) = false := decide_eq_false p2
          have E := Lib.hid (preB_2 (a := a) p2)
          go_quiet (fail)
          go_wp2
          go_meet
          exact ⟨by rw [E.out], _, World.drewN_drewN _ _ _⟩
      · have q1 : decide (k < a.length) = false := decide_eq_false p1
        have E := Lib.hid (preB_1 (b := b) p1)
        go_quiet (fail)
        go_wp2
        go_meet
        exact ⟨by rw [E.out], _, World.drewN_drewN _ _ _⟩
    case rest =>
      obtain ⟨rfl, q1, rfl⟩ := hcut
      by_cases hpb : preB a b k = true
      · have hkl := preB_le hpb
        have PB := Lib.hid hpb
        clear hpb
        rw [PB.out]
        obtain ⟨f, rfl⟩ : ∃ f', f = f' + 1 := ⟨f - 1, by have := HF.out; omega⟩
        go_wp2
        go_roundw
        case rel => exact ⟨k + 1, f, rfl, by omega, by omega, Lib.hid ((preGo_step PB.out).symm.trans HP.out), Lib.hid (by have := HF.out; omega), q1, rfl⟩
        case measure => simp [intOf]; omega
      · have hpb' : preB a b k = false := by simpa using hpb
        have hkp := (preGo_stop (f := f) hpb').symm.trans HP.out
        have PB := Lib.hid hpb'
        clear hpb hpb'
        rw [PB.out]
        go_wp2
        have HKP := Lib.hid hkp
        clear hkp
        go_loopw [6] (fun i wr => ∃ (s f : Nat), i = .int .i64 s ∧ s ≤ a.length ∧ Hid (sufGo a b k f s = sufL a b k) ∧ Hid (a.length ≤ s + f) ∧ (∃ q, wr = w.drewN q) ∧ Hid (s + k ≤ a.length ∧ s + k ≤ b.length))
          (fun i _ => a.length - (intOf i).toNat)
        case atStart => exact ⟨0, a.length, rfl, Nat.zero_le _, Lib.hid rfl, Lib.hid (by omega), ⟨q1, rfl⟩, Lib.hid ⟨by omega, by omega⟩⟩
        case round =>
          obtain ⟨s, f2, rfl, hs, HS, HF2, ⟨q2, rfl⟩, HB⟩ := hrel
          have hw1 : IntKind.i64.wrap ((a.length : Int) - k) = (a.length : Int) - k := IntWalk.i64_in _ (by omega)
          have hw2 : IntKind.i64.wrap ((b.length : Int) - k) = (b.length : Int) - k := IntWalk.i64_in _ (by omega)
          have hw3 : IntKind.i64.wrap ((a.length : Int) - 1) = (a.length : Int) - 1 := IntWalk.i64_in _ (by omega)
          have hw4 : IntKind.i64.wrap ((b.length : Int) - 1) = (b.length : Int) - 1 := IntWalk.i64_in _ (by omega)
          obtain ⟨ix, hw5, hix⟩ : ∃ ix : Int, IntKind.i64.wrap ((a.length : Int) - 1 - s) = ix ∧ ix = (a.length : Int) - 1 - s := ⟨_, rfl, IntWalk.i64_in _ (by omega)⟩
          obtain ⟨iy, hw6, hiy⟩ : ∃ iy : Int, IntKind.i64.wrap ((b.length : Int) - 1 - s) = iy ∧ iy = (b.length : Int) - 1 - s := ⟨_, rfl, IntWalk.i64_in _ (by omega)⟩
          have HIX := Lib.hid hix
          have HIY := Lib.hid hiy
          go_upto_region 5 with fail
          go_cut [66] (fun sv wx => sv = .bool (sufB a b k s) ∧ ∃ q, wx = w.drewN q)
          case first =>
            by_cases p1 : s + k < a.length
            · have g1 : decide ((s : Int) < (a.length : Int) - k) = true := decide_eq_true (by omega)
              have z1 : 0 ≤ ix := by omega
              have z2 : ix < a.length := by omega
              obtain ⟨ad0, e0, x0⟩ := Kd.at_string HR0.out ix z1 z2
              cases e0
              by_cases p2 : s + k < b.length
              · have g2 : decide ((s : Int) < (b.length : Int) - k) = true := decide_eq_true (by omega)
                have z3 : 0 ≤ iy := by omega
                have z4 : iy < b.length := by omega
                obtain ⟨ad1, e1, x1⟩ := Kd.at_string HR1.out iy z3 z4
                cases e1
                have hE := sufB_3 p1 p2
                rw [← hix, ← hiy] at hE
                have E := Lib.hid hE
                clear hE hix hiy
                go_quiet (fail)
                go_wp2
                go_meet
                exact ⟨by rw [E.out], _, World.drewN_drewN _ _ _⟩
              · have g2 : decide ((s : Int) < (b.length : Int) - k) = false := decide_eq_false (by omega)
                have E := Lib.hid (sufB_2 (a := a) p2)
                clear hix hiy
                go_quiet (fail)
                go_wp2
                go_meet
                exact ⟨by rw [E.out], _, World.drewN_drewN _ _ _⟩
            · have g1 : decide ((s : Int) < (a.length : Int) - k) = false := decide_eq_false (by omega)
              have E := Lib.hid (sufB_1 (b := b) p1)
              clear hix hiy
              go_quiet (fail)
              go_wp2
              go_meet
              exact ⟨by rw [E.out], _, World.drewN_drewN _ _ _⟩
          case rest =>
            obtain ⟨rfl, q3, rfl⟩ := hcut
            clear hix hiy hw5 hw6
            by_cases hsb : sufB a b k s = true
            · have hkl := sufB_le hsb
              have SB := Lib.hid hsb
              clear hsb
              rw [SB.out]
              obtain ⟨f2, rfl⟩ : ∃ f', f2 = f' + 1 := ⟨f2 - 1, by have := HF2.out; omega⟩
              go_wp2
              go_roundw
              case rel => exact ⟨s + 1, f2, rfl, by omega, Lib.hid ((sufGo_step SB.out).symm.trans HS.out), Lib.hid (by have := HF2.out; omega), ⟨q3, rfl⟩, Lib.hid ⟨by omega, by omega⟩⟩
              case measure => simp [intOf]; omega
            · have hsb' : sufB a b k s = false := by simpa using hsb
              have hsp := (sufGo_stop (f := f2) hsb').symm.trans HS.out
              have SB := Lib.hid hsb'
              clear hsb hsb'
              rw [SB.out]
              have hsk := HB.out
              obtain ⟨i0, hi0, _, hsz, _⟩ := info_parts infoStr
              have hw7 : IntKind.i64.wrap ((a.length : Int) - s) = (a.length : Int) - s := IntWalk.i64_in _ (by omega)
              have hw8 : IntKind.i64.wrap ((b.length : Int) - s) = (b.length : Int) - s := IntWalk.i64_in _ (by omega)
              obtain ⟨AX, hcutX, hAX, hCX⟩ := print_mid_of (P := Tryd.prog) Value.string (⟨#[]⟩ : ByteArray) 22 9 .i64 .i64 Tryd.underlying22 hi0 hsz A0 c0 a (k : Int) ((a.length : Int) - s) (by omega) (by omega) (by omega) hc0
              obtain ⟨AY, hcutY, hAY, hCY⟩ := print_mid_of (P := Tryd.prog) Value.string (⟨#[]⟩ : ByteArray) 22 9 .i64 .i64 Tryd.underlying22 hi0 hsz A1 c1 b (k : Int) ((b.length : Int) - s) (by omega) (by omega) (by omega) hc1
              have hrX := Kd.C_of_reads (h1 := fun _ => rfl) (hAX _ (Kd.reads_of_C HR0.out))
              have hrY := Kd.C_of_reads (h1 := fun _ => rfl) (hAY _ (Kd.reads_of_C HR1.out))
              rw [mid_eq] at hcutX hcutY hrX hrY
              have hX : mid a k s = diffX a b := by rw [hsp, HKP.out]; rfl
              have hY : mid b k s = diffY a b := by rw [hsp, HKP.out]; rfl
              have hXl := mid_le a k s
              have hYl := mid_le b k s
              rw [hX] at hcutX hrX hXl
              rw [hY] at hcutY hrY hYl
              have OK2 := OK.out
              rw [← HKP.out] at OK2
              have HD : Hid (diffL a b = if (diffX a b).length + (diffY a b).length = 0 then [] else if (walkL (diffX a b) (diffY a b)).2 then hunksL (k : Int) (walkL (diffX a b) (diffY a b)).1 (diffY a b) else [((k : Int), ((diffX a b).length : Int), diffY a b)]) := Lib.hid (by rw [HKP.out]; rfl)
              have RX := Lib.hid hrX
              have RY := Lib.hid hrY
              have OKH := Lib.hid OK2
              generalize diffX a b = X at *
              generalize diffY a b = Y at *
              have hXb : X.length ≤ 140737488351232 := by omega
              have hYb : Y.length < 8796093022208 := by omega
              clear hrX hrY hAX hAY hCX hCY hX hY hi0 hsz OK2 hsp hsk
              go_wp2
              go_quiet (fail)
              by_cases h0 : X.length + Y.length = 0
              · have hz : ((X.length : Int) + Y.length == 0) = true := by simp; omega
                have H0 := Lib.hid h0
                clear h0
                go_wp2
                go_ret
                refine ⟨_, [], rfl, ?_, ?_⟩
                · rw [HD.out, if_pos H0.out]
                  exact HRow.nil _ _
                · exact pw_below_drewN (Below.refl _ _) _
              · have hz : ((X.length : Int) + Y.length == 0) = false := by simp; omega
                have H0 := Lib.hid h0
                clear h0
                go_wp2_with fail
                refine (walk_calls AX AY X Y _ _ _ (Kd.C_below RX.out (pw_below_drewN (Below.refl _ _) _)) (Kd.C_below RY.out (pw_below_drewN (Below.refl _ _) _)) hXb (by omega)).mono ?_
                rintro e w1 ⟨v1, rfl, ho1, hb1⟩
                have hB1 : Below w.heap.size w w1 := below_then (pw_below_drewN (Below.refl _ _) _) (by simp [World.drewN]) hb1
                obtain ⟨A1', c1', hv1⟩ := own_slice ho1
                have HO1 := Lib.hid ho1
                have HB1 := Lib.hid hB1
                have HV1 := Lib.hid hv1
                clear ho1 hb1 hB1 hv1
                rw [HV1.out]
                cases hwb : (walkL X Y).2 with
                | true =>
                  have HWB := Lib.hid hwb
                  clear hwb
                  go_wp2_with fail
                  have hcells : ∀ (j : Nat) (s : St), (walkL X Y).1[j]? = some s → ∃ ad, A1' = some ad ∧ w1.cell? (ad.add (j * 3)) = some (.int .i64 s.1) ∧ w1.cell? ⟨(ad.add (j * 3)).block, (ad.add (j * 3)).off + 1, none⟩ = some (.int .i64 s.2.1) ∧ w1.cell? ⟨(ad.add (j * 3)).block, (ad.add (j * 3)).off + 2, none⟩ = some (.bool s.2.2) := by
                    intro j s' hs'
                    have h1 := HO1.out
                    have hj := (List.getElem?_eq_some_iff.1 hs').1
                    obtain ⟨g, cap, hv, _⟩ := World.ownsRow.form h1 (by omega)
                    rw [hv] at h1
                    have hA : A1' = some ⟨g, 0, none⟩ := by
                      have := HV1.out.symm.trans hv
                      injection this
                    rw [hA]
                    exact steps_read h1 j s' hs'
                  refine (hunks_calls A1' AY c1' _ (walkL X Y).1 (k : Int) Y w1 hcells (Kd.C_below RY.out HB1.out) (OKH.out HWB.out)).mono ?_
                  rintro e w2 ⟨v2, ps, rfl, hr2, hb2⟩
                  go_wp2
                  go_ret
                  refine ⟨v2, ps, rfl, ?_, below_then HB1.out HB1.out.size hb2⟩
                  rw [HD.out, if_neg H0.out, if_pos HWB.out]
                  exact hr2.weaken HB1.out.size
                | false =>
                  have HWB := Lib.hid hwb
                  clear hwb
                  go_wp2_with fail
                  refine (clone_calls AY _ Y w1 (Kd.C_below RY.out HB1.out) hYb).mono ?_
                  rintro e w2 ⟨v2, rfl, hr2, hb2⟩
                  have hB2 : Below w.heap.size w w2 := below_then HB1.out HB1.out.size hb2
                  have ho2 := own_weaken (Kd.own_of_R hr2) HB1.out.size
                  obtain ⟨A2, c2, rfl⟩ := own_slice ho2
                  have HO2 := Lib.hid ho2
                  have HB2 := Lib.hid hB2
                  clear hr2 hb2 hB2 ho2
                  go_wp2
                  go_ret
                  refine ⟨_, [.slice A2 Y.length c2], rfl, ?_, below_alloc HB2.out _⟩
                  rw [HD.out, if_neg H0.out, if_neg (by rw [HWB.out]; simp)]
                  exact HRow.one w2 (k : Int) (X.length : Int) HO2.out HB2.out.size
#print axioms diff_calls
end Go.Proofs.YtkjjjkjgendnfaaDoorR
