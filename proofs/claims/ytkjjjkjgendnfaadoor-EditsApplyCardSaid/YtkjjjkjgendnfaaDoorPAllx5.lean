-- Written by a program of this session (wip/t/fprint.py), which runs the kit's printer with some functions proved by hand.
import Derived.Test.YtkjjjkjgendnfaaDoorPAllx0
namespace Go.Proofs.YtkjjjkjgendnfaaDoor.PAll
open Go.RowKit Go.Proofs.YtkjjjkjgendnfaaDoorW.PrintWords Go.Proofs.YtkjjjkjgendnfaaDoorW.PrintLast Go.Proofs.YtkjjjkjgendnfaaDoorW.PrintMore
attribute [local go_sem] max2_int min2_int max_two min_two max_three min_three max_four min_four   -- for this text's walks alone
set_option linter.unusedVariables false
set_option linter.unusedSimpArgs false

/-! ### tambourref01_Same: function 11 -/
def tambourref01_Same.l0 : Nat → List ByteArray → List ByteArray → Int → Option (Bool)
  | 0, _, _, _ => none
  | k + 1, x0, x1, x5 => if x5 < (x0.length : Int) then (if 0 ≤ x5 then (if x5 < (x1.length : Int) then (if (rdOf ByteArray.empty x0 x5).toList = (rdOf ByteArray.empty x1 x5).toList then (tambourref01_Same.l0 k x0 x1 (wrap64 (x5 + 1))) else (some false)) else (none)) else (none)) else (some true)
def tambourref01_Same.f (k : Nat) (l0 : List ByteArray) (l1 : List ByteArray) : Option (Bool) := if (l0.length : Int) = (l1.length : Int) then (tambourref01_Same.l0 k l0 l1 0) else (some false)
theorem tambourref01_Same.mono_l : ∀ k, (∀ y0 y1 y2, LeO (tambourref01_Same.l0 k y0 y1 y2) (tambourref01_Same.l0 (k + 1) y0 y1 y2))
  | 0 => fun _ _ _ r h => by simp [tambourref01_Same.l0] at h
  | k + 1 => by
    have ih0 := tambourref01_Same.mono_l k
    · intro y0 y1 y2
      unfold tambourref01_Same.l0
      repeat' first
      | (with_reducible exact ih0 _ _ _)
      | (with_reducible exact LeO.refl _)
      | (with_reducible exact LeO.none _)
      | (with_reducible refine LeO.ite ?_ ?_)
      | (with_reducible refine LeO.bind ?_ (fun _ => ?_))
      | exact ih0 _ _ _
      | exact LeO.none _
      | refine LeO.ite ?_ ?_
      | refine LeO.bind ?_ (fun _ => ?_)
theorem tambourref01_Same.mono : ∀ a0 a1 k, LeO (tambourref01_Same.f k a0 a1) (tambourref01_Same.f (k + 1) a0 a1) := by
  intro a0 a1 k
  have ih0 := tambourref01_Same.mono_l k
  unfold tambourref01_Same.f
  repeat' first
      | (with_reducible exact ih0 _ _ _)
      | (with_reducible exact LeO.refl _)
      | (with_reducible exact LeO.none _)
      | (with_reducible refine LeO.ite ?_ ?_)
      | (with_reducible refine LeO.bind ?_ (fun _ => ?_))
      | exact ih0 _ _ _
      | exact LeO.none _
      | refine LeO.ite ?_ ?_
      | refine LeO.bind ?_ (fun _ => ?_)
set_option maxHeartbeats 8000000 in
set_option maxRecDepth 100000 in
theorem tambourref01_Same.calls (k : Nat) (A0 : Option Addr) (c0 : Nat) (l0 : List ByteArray) (A1 : Option Addr) (c1 : Nat) (l1 : List ByteArray) (r : Bool) (w : World) (hr0 : Kd.C Kd.string w A0 l0.length l0) (hc0 : l0.length ≤ c0) (hr1 : Kd.C Kd.string w A1 l1.length l1) (hc1 : l1.length ≤ c1) (h : tambourref01_Same.f k l0 l1 = some r) :
    Calls Tryd.prog 11 #[.slice A0 l0.length c0, .slice A1 l1.length c1] w fun e w' => e = .returned (.bool r) ∧ Drawn0 w w' := by
  have HR0 := Aside0.mk hr0
  have HC0 := Aside0.mk hc0
  clear hr0 hc0
  have HR1 := Aside0.mk hr1
  have HC1 := Aside0.mk hc1
  clear hr1 hc1
  have H : (if (l0.length : Int) = (l1.length : Int) then (tambourref01_Same.l0 k l0 l1 0) else (some false)) = some r := h
  clear h
  by_cases c3 : (l0.length : Int) = (l1.length : Int)
  · rw [if_pos c3] at H
    have c3b0 : ((l0.length : Int) == (l1.length : Int)) = true := beq_iff_eq.mpr c3
    have c3b1 : ((l0.length : Int) != (l1.length : Int)) = false := bne_eq_false_iff_eq.mpr c3
    have c3b2 : (l0.length == l1.length) = true := by first | simpa using c3 | (simp at c3 ⊢; omega)
    clear c3
    have H' := Aside0.mk H
    clear H
    go_enter Tryd.func11, Tryd.ntmps11
    go_wp2
    repeat (go_quiet (fail); try go_wp2)
    go_loopg [5] k (fun kq v5 w' => ∃ (x5_1 : Int), v5 = .int .i64 x5_1 ∧ Aside0 (tambourref01_Same.l0 kq l0 l1 x5_1 = some r) ∧ Aside0 (kq ≤ k) ∧ Drawn0 w w')
    case atStart => exact ⟨(0), (by first | rfl | (simp; done) | (simp [*]; done)), H', ⟨Nat.le_refl _⟩, by repeat (first | exact Drawn0.refl _ | apply Drawn0.step)⟩
    case round =>
      clear H'
      try clear c1
      try clear p2
      try clear c3
      try clear c3b0
      try clear c3b1
      try clear c3b2
      obtain ⟨x5_1, rfl, HA, HK1, ⟨m1, rfl⟩⟩ := hrel
      cases gk with
      | zero => exact absurd HA.out (by simp [tambourref01_Same.l0])
      | succ k1 =>
        have H := HA.out
        clear HA
        simp only [tambourref01_Same.l0] at H
        by_cases c4 : x5_1 < (l0.length : Int)
        · rw [if_pos c4] at H
          have c4b0 : decide (x5_1 < (l0.length : Int)) = true := decide_eq_true c4
          clear c4
          by_cases c5 : 0 ≤ x5_1
          · rw [if_pos c5] at H
            have c5b0 : decide (0 ≤ x5_1) = true := decide_eq_true c5
            clear c5
            by_cases c6 : x5_1 < (l1.length : Int)
            · rw [if_pos c6] at H
              have c6b0 : decide (x5_1 < (l1.length : Int)) = true := decide_eq_true c6
              clear c6
              by_cases c7 : (rdOf ByteArray.empty l0 x5_1).toList = (rdOf ByteArray.empty l1 x5_1).toList
              · rw [if_pos c7] at H
                have c7b0 : ((rdOf ByteArray.empty l0 x5_1).toList == (rdOf ByteArray.empty l1 x5_1).toList) = true := beq_iff_eq.mpr c7
                have c7b1 : ((rdOf ByteArray.empty l0 x5_1).toList != (rdOf ByteArray.empty l1 x5_1).toList) = false := bne_eq_false_iff_eq.mpr c7
                clear c7
                have H' := Aside0.mk H
                clear H
                have p160 : 0 ≤ (x5_1 : Int) := of_decide_eq_true (by first | (with_reducible assumption) | assumption)
                have q160 : x5_1 < (l0.length : Int) := of_decide_eq_true (by first | (with_reducible assumption) | assumption)
                obtain ⟨ad160, e160, hx160_0⟩ := Kd.at_string HR0.out x5_1 p160 q160
                cases e160
                replace p160 := eq_true p160
                replace q160 := eq_true q160
                have p161 : 0 ≤ (x5_1 : Int) := of_decide_eq_true (by first | (with_reducible assumption) | assumption)
                have q161 : x5_1 < (l1.length : Int) := of_decide_eq_true (by first | (with_reducible assumption) | assumption)
                obtain ⟨ad161, e161, hx161_0⟩ := Kd.at_string HR1.out x5_1 p161 q161
                cases e161
                replace p161 := eq_true p161
                replace q161 := eq_true q161
                go_wp2
                repeat (go_quiet (fail); try go_wp2)
                go_roundg k1
                case measure => have := HK1.out; omega
                case rel => exact ⟨(wrap64 (x5_1 + 1)), (by first | rfl | (simp; done) | (simp [*]; done)), H', ⟨by have := HK1.out; omega⟩, by repeat (first | exact Drawn0.refl _ | apply Drawn0.step)⟩
              · rw [if_neg c7] at H
                have c7b0 : ((rdOf ByteArray.empty l0 x5_1).toList == (rdOf ByteArray.empty l1 x5_1).toList) = false := beq_eq_false_iff_ne.mpr c7
                have c7b1 : ((rdOf ByteArray.empty l0 x5_1).toList != (rdOf ByteArray.empty l1 x5_1).toList) = true := bne_iff_ne.mpr c7
                obtain rfl := Option.some.inj H
                have p160 : 0 ≤ (x5_1 : Int) := of_decide_eq_true (by first | (with_reducible assumption) | assumption)
                have q160 : x5_1 < (l0.length : Int) := of_decide_eq_true (by first | (with_reducible assumption) | assumption)
                obtain ⟨ad160, e160, hx160_0⟩ := Kd.at_string HR0.out x5_1 p160 q160
                cases e160
                replace p160 := eq_true p160
                replace q160 := eq_true q160
                have p161 : 0 ≤ (x5_1 : Int) := of_decide_eq_true (by first | (with_reducible assumption) | assumption)
                have q161 : x5_1 < (l1.length : Int) := of_decide_eq_true (by first | (with_reducible assumption) | assumption)
                obtain ⟨ad161, e161, hx161_0⟩ := Kd.at_string HR1.out x5_1 p161 q161
                cases e161
                replace p161 := eq_true p161
                replace q161 := eq_true q161
                go_wp2
                repeat (go_quiet (fail); try go_wp2)
                go_ret
                exact ⟨by first | rfl | (simp; done) | (simp [*]; done), by repeat (first | exact Drawn0.refl _ | apply Drawn0.step)⟩
            · rw [if_neg c6] at H
              exact absurd H (by simp)
          · rw [if_neg c5] at H
            exact absurd H (by simp)
        · rw [if_neg c4] at H
          have c4b0 : decide (x5_1 < (l0.length : Int)) = false := decide_eq_false c4
          clear c4
          obtain rfl := Option.some.inj H
          go_wp2
          repeat (go_quiet (fail); try go_wp2)
          go_ret
          exact ⟨by first | rfl | (simp; done) | (simp [*]; done), by repeat (first | exact Drawn0.refl _ | apply Drawn0.step)⟩
  · rw [if_neg c3] at H
    have c3b0 : ((l0.length : Int) == (l1.length : Int)) = false := beq_eq_false_iff_ne.mpr c3
    have c3b1 : ((l0.length : Int) != (l1.length : Int)) = true := bne_iff_ne.mpr c3
    have c3b2 : (l0.length == l1.length) = false := by first | simpa using c3 | (simp at c3 ⊢; omega)
    obtain rfl := Option.some.inj H
    go_enter Tryd.func11, Tryd.ntmps11
    go_wp2
    repeat (go_quiet (fail); try go_wp2)
    go_ret
    exact ⟨by first | rfl | (simp; done) | (simp [*]; done), by repeat (first | exact Drawn0.refl _ | apply Drawn0.step)⟩

-- NOT PRINTED: function 20 (reflectlite_ValueOf)

-- NOT PRINTED: function 21 (reflectlite_Value_Type)

-- NOT PRINTED: function 22 (reflectlite_Value_IsNil)

-- NOT PRINTED: function 24 (reflectlite_TypeOf)

-- NOT PRINTED: function 27 (reflectlite_Value_Elem)

-- NOT PRINTED: function 28 (reflectlite_Value_Set)

-- NOT PRINTED: function 23 (errors_as)

-- NOT PRINTED: function 16 (errors_As)

-- HIDDEN: function 25 (errors_is)

-- HIDDEN: function 17 (errors_Is)

/-! ### tambourlaw01_Code: function 12 -/
def tambourlaw01_Code.f (e : Option Int) : Option Int := some (e.getD 0)

/-! ### tambourref02_Same: function 13 -/
mutual
def tambourref02_Same.l0 : Nat → List (S26) → List (S26) → Int → Option (Bool)
  | 0, _, _, _ => none
  | k + 1, x0, x1, x5 => if x5 < (x0.length : Int) then (if 0 ≤ x5 then (if x5 < (x1.length : Int) then (if ((rd_T26 x0 x5).f0) = ((rd_T26 x1 x5).f0) then (if ((rd_T26 x0 x5).f1) = ((rd_T26 x1 x5).f1) then (tambourref02_Same.j1 k x0 x1 x5 ((((rd_T26 x0 x5).f2).length : Int) != (((rd_T26 x1 x5).f2).length : Int))) else (tambourref02_Same.j1 k x0 x1 x5 true)) else (tambourref02_Same.j1 k x0 x1 x5 true)) else (none)) else (none)) else (some true)
def tambourref02_Same.j1 : Nat → List (S26) → List (S26) → Int → Bool → Option (Bool)
  | 0, _, _, _, _ => none
  | k + 1, x0, x1, x5, x56 => if x56 = true then (some false) else (tambourref02_Same.l1 k x0 x1 x5 0)
def tambourref02_Same.l1 : Nat → List (S26) → List (S26) → Int → Int → Option (Bool)
  | 0, _, _, _, _ => none
  | k + 1, x0, x1, x5, x6 => if 0 ≤ x5 then (if x5 < (x0.length : Int) then (if x6 < (((rd_T26 x0 x5).f2).length : Int) then (if 0 ≤ x6 then (if x5 < (x1.length : Int) then (if x6 < (((rd_T26 x1 x5).f2).length : Int) then (if (rdOf ByteArray.empty ((rd_T26 x0 x5).f2) x6).toList = (rdOf ByteArray.empty ((rd_T26 x1 x5).f2) x6).toList then (tambourref02_Same.l1 k x0 x1 x5 (wrap64 (x6 + 1))) else (some false)) else (none)) else (none)) else (none)) else (tambourref02_Same.l0 k x0 x1 (wrap64 (x5 + 1)))) else (none)) else (none)
end
def tambourref02_Same.f (k : Nat) (l0 : List (S26)) (l1 : List (S26)) : Option (Bool) := if (l0.length : Int) = (l1.length : Int) then (tambourref02_Same.l0 k l0 l1 0) else (some false)
theorem tambourref02_Same.mono_l : ∀ k, (∀ y0 y1 y2, LeO (tambourref02_Same.l0 k y0 y1 y2) (tambourref02_Same.l0 (k + 1) y0 y1 y2)) ∧ (∀ y0 y1 y2 y3, LeO (tambourref02_Same.j1 k y0 y1 y2 y3) (tambourref02_Same.j1 (k + 1) y0 y1 y2 y3)) ∧ (∀ y0 y1 y2 y3, LeO (tambourref02_Same.l1 k y0 y1 y2 y3) (tambourref02_Same.l1 (k + 1) y0 y1 y2 y3))
  | 0 => ⟨fun _ _ _ r h => by simp [tambourref02_Same.l0] at h, fun _ _ _ _ r h => by simp [tambourref02_Same.j1] at h, fun _ _ _ _ r h => by simp [tambourref02_Same.l1] at h⟩
  | k + 1 => by
    obtain ⟨ih0, ih1, ih2⟩ := tambourref02_Same.mono_l k
    refine ⟨?_, ?_, ?_⟩
    · intro y0 y1 y2
      unfold tambourref02_Same.l0
      repeat' first
      | (with_reducible exact ih0 _ _ _)
      | (with_reducible exact ih1 _ _ _ _)
      | (with_reducible exact ih2 _ _ _ _)
      | (with_reducible exact LeO.refl _)
      | (with_reducible exact LeO.none _)
      | (with_reducible refine LeO.ite ?_ ?_)
      | (with_reducible refine LeO.bind ?_ (fun _ => ?_))
      | exact ih0 _ _ _
      | exact ih1 _ _ _ _
      | exact ih2 _ _ _ _
      | exact LeO.none _
      | refine LeO.ite ?_ ?_
      | refine LeO.bind ?_ (fun _ => ?_)
    · intro y0 y1 y2 y3
      unfold tambourref02_Same.j1
      repeat' first
      | (with_reducible exact ih0 _ _ _)
      | (with_reducible exact ih1 _ _ _ _)
      | (with_reducible exact ih2 _ _ _ _)
      | (with_reducible exact LeO.refl _)
      | (with_reducible exact LeO.none _)
      | (with_reducible refine LeO.ite ?_ ?_)
      | (with_reducible refine LeO.bind ?_ (fun _ => ?_))
      | exact ih0 _ _ _
      | exact ih1 _ _ _ _
      | exact ih2 _ _ _ _
      | exact LeO.none _
      | refine LeO.ite ?_ ?_
      | refine LeO.bind ?_ (fun _ => ?_)
    · intro y0 y1 y2 y3
      unfold tambourref02_Same.l1
      repeat' first
      | (with_reducible exact ih0 _ _ _)
      | (with_reducible exact ih1 _ _ _ _)
      | (with_reducible exact ih2 _ _ _ _)
      | (with_reducible exact LeO.refl _)
      | (with_reducible exact LeO.none _)
      | (with_reducible refine LeO.ite ?_ ?_)
      | (with_reducible refine LeO.bind ?_ (fun _ => ?_))
      | exact ih0 _ _ _
      | exact ih1 _ _ _ _
      | exact ih2 _ _ _ _
      | exact LeO.none _
      | refine LeO.ite ?_ ?_
      | refine LeO.bind ?_ (fun _ => ?_)
theorem tambourref02_Same.mono : ∀ a0 a1 k, LeO (tambourref02_Same.f k a0 a1) (tambourref02_Same.f (k + 1) a0 a1) := by
  intro a0 a1 k
  obtain ⟨ih0, ih1, ih2⟩ := tambourref02_Same.mono_l k
  unfold tambourref02_Same.f
  repeat' first
      | (with_reducible exact ih0 _ _ _)
      | (with_reducible exact ih1 _ _ _ _)
      | (with_reducible exact ih2 _ _ _ _)
      | (with_reducible exact LeO.refl _)
      | (with_reducible exact LeO.none _)
      | (with_reducible refine LeO.ite ?_ ?_)
      | (with_reducible refine LeO.bind ?_ (fun _ => ?_))
      | exact ih0 _ _ _
      | exact ih1 _ _ _ _
      | exact ih2 _ _ _ _
      | exact LeO.none _
      | refine LeO.ite ?_ ?_
      | refine LeO.bind ?_ (fun _ => ?_)
set_option maxHeartbeats 8000000 in
set_option maxRecDepth 100000 in
theorem tambourref02_Same.calls (k : Nat) (A0 : Option Addr) (c0 : Nat) (l0 : List (S26)) (A1 : Option Addr) (c1 : Nat) (l1 : List (S26)) (r : Bool) (w : World) (hr0 : Kd.C k26 w A0 l0.length l0) (hc0 : l0.length ≤ c0) (hr1 : Kd.C k26 w A1 l1.length l1) (hc1 : l1.length ≤ c1) (h : tambourref02_Same.f k l0 l1 = some r) :
    Calls Tryd.prog 13 #[.slice A0 l0.length c0, .slice A1 l1.length c1] w fun e w' => e = .returned (.bool r) ∧ Drawn0 w w' := by
  have HR0 := Aside0.mk hr0
  have HC0 := Aside0.mk hc0
  clear hr0 hc0
  have HR1 := Aside0.mk hr1
  have HC1 := Aside0.mk hc1
  clear hr1 hc1
  have H : (if (l0.length : Int) = (l1.length : Int) then (tambourref02_Same.l0 k l0 l1 0) else (some false)) = some r := h
  clear h
  by_cases c3 : (l0.length : Int) = (l1.length : Int)
  · rw [if_pos c3] at H
    have c3b0 : ((l0.length : Int) == (l1.length : Int)) = true := beq_iff_eq.mpr c3
    have c3b1 : ((l0.length : Int) != (l1.length : Int)) = false := bne_eq_false_iff_eq.mpr c3
    have c3b2 : (l0.length == l1.length) = true := by first | simpa using c3 | (simp at c3 ⊢; omega)
    clear c3
    have H' := Aside0.mk H
    clear H
    go_enter Tryd.func13, Tryd.ntmps13
    go_wp2
    repeat (go_quiet (fail); try go_wp2)
    go_loopg [5] k (fun kq v5 w' => ∃ (x5_1 : Int), v5 = .int .i64 x5_1 ∧ Aside0 (tambourref02_Same.l0 kq l0 l1 x5_1 = some r) ∧ Aside0 (kq ≤ k) ∧ Drawn0 w w')
    case atStart => exact ⟨(0), (by first | rfl | (simp; done) | (simp [*]; done)), H', ⟨Nat.le_refl _⟩, by repeat (first | exact Drawn0.refl _ | apply Drawn0.step)⟩
    case round =>
      clear H'
      try clear c1
      try clear p2
      try clear c3
      try clear c3b0
      try clear c3b1
      try clear c3b2
      obtain ⟨x5_1, rfl, HA, HK1, ⟨m1, rfl⟩⟩ := hrel
      cases gk with
      | zero => exact absurd HA.out (by simp [tambourref02_Same.l0])
      | succ k1 =>
        have H := HA.out
        clear HA
        simp only [tambourref02_Same.l0] at H
        by_cases c4 : x5_1 < (l0.length : Int)
        · rw [if_pos c4] at H
          have c4b0 : decide (x5_1 < (l0.length : Int)) = true := decide_eq_true c4
          clear c4
          have HC5 := Aside0.mk H
          clear H
          go_upto_region 6 with (fail)
          repeat (go_quiet (fail); go_upto_region 6 with (fail))
          go_cut [56] (fun v56 wc => ∃ (kq : Nat) (x56_4 : Bool), v56 = .bool x56_4 ∧ Aside0 (tambourref02_Same.j1 kq l0 l1 x5_1 x56_4 = some r) ∧ Aside0 (kq ≤ k1) ∧ Drawn0 w wc)
          case first =>
            have H := HC5.out
            clear HC5
            by_cases c6 : 0 ≤ x5_1
            · rw [if_pos c6] at H
              have c6b0 : decide (0 ≤ x5_1) = true := decide_eq_true c6
              clear c6
              (first | rw [c6b0] | (simp only [i64_w, i32_w]; rw [c6b0]) | skip)
              by_cases c7 : x5_1 < (l1.length : Int)
              · rw [if_pos c7] at H
                have c7b0 : decide (x5_1 < (l1.length : Int)) = true := decide_eq_true c7
                clear c7
                by_cases c8 : ((rd_T26 l0 x5_1).f0) = ((rd_T26 l1 x5_1).f0)
                · rw [if_pos c8] at H
                  have c8b0 : (((rd_T26 l0 x5_1).f0) == ((rd_T26 l1 x5_1).f0)) = true := beq_iff_eq.mpr c8
                  have c8b1 : (((rd_T26 l0 x5_1).f0) != ((rd_T26 l1 x5_1).f0)) = false := bne_eq_false_iff_eq.mpr c8
                  clear c8
                  by_cases c9 : ((rd_T26 l0 x5_1).f1) = ((rd_T26 l1 x5_1).f1)
                  · rw [if_pos c9] at H
                    have c9b0 : (((rd_T26 l0 x5_1).f1) == ((rd_T26 l1 x5_1).f1)) = true := beq_iff_eq.mpr c9
                    have c9b1 : (((rd_T26 l0 x5_1).f1) != ((rd_T26 l1 x5_1).f1)) = false := bne_eq_false_iff_eq.mpr c9
                    clear c9
                    have H' := Aside0.mk H
                    clear H
                    have p162 : 0 ≤ (x5_1 : Int) := of_decide_eq_true (by first | (with_reducible assumption) | assumption)
                    have q162 : x5_1 < (l0.length : Int) := of_decide_eq_true (by first | (with_reducible assumption) | assumption)
                    obtain ⟨ad162, A162_2, c162_2, e162, hx162_0, hx162_1, hx162_2, hl162_2, hi162_2⟩ := at_T26 HR0.out x5_1 p162 q162
                    cases e162
                    have HR162_2 := Aside0.mk hi162_2
                    have HC162_2 := Aside0.mk hl162_2
                    clear hi162_2 hl162_2
                    replace p162 := eq_true p162
                    replace q162 := eq_true q162
                    have p163 : 0 ≤ (x5_1 : Int) := of_decide_eq_true (by first | (with_reducible assumption) | assumption)
                    have q163 : x5_1 < (l1.length : Int) := of_decide_eq_true (by first | (with_reducible assumption) | assumption)
                    obtain ⟨ad163, A163_2, c163_2, e163, hx163_0, hx163_1, hx163_2, hl163_2, hi163_2⟩ := at_T26 HR1.out x5_1 p163 q163
                    cases e163
                    have HR163_2 := Aside0.mk hi163_2
                    have HC163_2 := Aside0.mk hl163_2
                    clear hi163_2 hl163_2
                    replace p163 := eq_true p163
                    replace q163 := eq_true q163
                    have p164 : 0 ≤ (x5_1 : Int) := of_decide_eq_true (by first | (with_reducible assumption) | assumption)
                    have q164 : x5_1 < (l0.length : Int) := of_decide_eq_true (by first | (with_reducible assumption) | assumption)
                    obtain ⟨ad164, A164_2, c164_2, e164, hx164_0, hx164_1, hx164_2, hl164_2, hi164_2⟩ := at_T26 HR0.out x5_1 p164 q164
                    obtain rfl : ad162 = ad164 := (by injection e164)
                    have HR164_2 := Aside0.mk hi164_2
                    have HC164_2 := Aside0.mk hl164_2
                    clear hi164_2 hl164_2
                    replace p164 := eq_true p164
                    replace q164 := eq_true q164
                    have ea_ := Option.some.inj (hx162_2.symm.trans hx164_2)
                    injection ea_ with ea_ en_ ec_
                    subst ea_
                    subst ec_
                    clear en_
                    have p165 : 0 ≤ (x5_1 : Int) := of_decide_eq_true (by first | (with_reducible assumption) | assumption)
                    have q165 : x5_1 < (l1.length : Int) := of_decide_eq_true (by first | (with_reducible assumption) | assumption)
                    obtain ⟨ad165, A165_2, c165_2, e165, hx165_0, hx165_1, hx165_2, hl165_2, hi165_2⟩ := at_T26 HR1.out x5_1 p165 q165
                    obtain rfl : ad163 = ad165 := (by injection e165)
                    have HR165_2 := Aside0.mk hi165_2
                    have HC165_2 := Aside0.mk hl165_2
                    clear hi165_2 hl165_2
                    replace p165 := eq_true p165
                    replace q165 := eq_true q165
                    have ea_ := Option.some.inj (hx163_2.symm.trans hx165_2)
                    injection ea_ with ea_ en_ ec_
                    subst ea_
                    subst ec_
                    clear en_
                    have p166 : 0 ≤ (x5_1 : Int) := of_decide_eq_true (by first | (with_reducible assumption) | assumption)
                    have q166 : x5_1 < (l0.length : Int) := of_decide_eq_true (by first | (with_reducible assumption) | assumption)
                    obtain ⟨ad166, A166_2, c166_2, e166, hx166_0, hx166_1, hx166_2, hl166_2, hi166_2⟩ := at_T26 HR0.out x5_1 p166 q166
                    obtain rfl : ad162 = ad166 := (by injection e166)
                    have HR166_2 := Aside0.mk hi166_2
                    have HC166_2 := Aside0.mk hl166_2
                    clear hi166_2 hl166_2
                    replace p166 := eq_true p166
                    replace q166 := eq_true q166
                    have ea_ := Option.some.inj (hx162_2.symm.trans hx166_2)
                    injection ea_ with ea_ en_ ec_
                    subst ea_
                    subst ec_
                    clear en_
                    have p167 : 0 ≤ (x5_1 : Int) := of_decide_eq_true (by first | (with_reducible assumption) | assumption)
                    have q167 : x5_1 < (l1.length : Int) := of_decide_eq_true (by first | (with_reducible assumption) | assumption)
                    obtain ⟨ad167, A167_2, c167_2, e167, hx167_0, hx167_1, hx167_2, hl167_2, hi167_2⟩ := at_T26 HR1.out x5_1 p167 q167
                    obtain rfl : ad163 = ad167 := (by injection e167)
                    have HR167_2 := Aside0.mk hi167_2
                    have HC167_2 := Aside0.mk hl167_2
                    clear hi167_2 hl167_2
                    replace p167 := eq_true p167
                    replace q167 := eq_true q167
                    have ea_ := Option.some.inj (hx163_2.symm.trans hx167_2)
                    injection ea_ with ea_ en_ ec_
                    subst ea_
                    subst ec_
                    clear en_
                    go_wp2
                    repeat (go_quiet (fail); try go_wp2)
                    go_meet
                    case rel => exact ⟨_, (((((rd_T26 l0 x5_1).f2).length : Int) != (((rd_T26 l1 x5_1).f2).length : Int))), (by first | rfl | (simp; done) | (simp [*]; done)), H', ⟨by have := HK1.out; first | omega | exact Nat.le_refl _⟩, by repeat (first | exact Drawn0.refl _ | apply Drawn0.step)⟩
                  · rw [if_neg c9] at H
                    have c9b0 : (((rd_T26 l0 x5_1).f1) == ((rd_T26 l1 x5_1).f1)) = false := beq_eq_false_iff_ne.mpr c9
                    have c9b1 : (((rd_T26 l0 x5_1).f1) != ((rd_T26 l1 x5_1).f1)) = true := bne_iff_ne.mpr c9
                    have H' := Aside0.mk H
                    clear H
                    have p162 : 0 ≤ (x5_1 : Int) := of_decide_eq_true (by first | (with_reducible assumption) | assumption)
                    have q162 : x5_1 < (l0.length : Int) := of_decide_eq_true (by first | (with_reducible assumption) | assumption)
                    obtain ⟨ad162, A162_2, c162_2, e162, hx162_0, hx162_1, hx162_2, hl162_2, hi162_2⟩ := at_T26 HR0.out x5_1 p162 q162
                    cases e162
                    have HR162_2 := Aside0.mk hi162_2
                    have HC162_2 := Aside0.mk hl162_2
                    clear hi162_2 hl162_2
                    replace p162 := eq_true p162
                    replace q162 := eq_true q162
                    have p163 : 0 ≤ (x5_1 : Int) := of_decide_eq_true (by first | (with_reducible assumption) | assumption)
                    have q163 : x5_1 < (l1.length : Int) := of_decide_eq_true (by first | (with_reducible assumption) | assumption)
                    obtain ⟨ad163, A163_2, c163_2, e163, hx163_0, hx163_1, hx163_2, hl163_2, hi163_2⟩ := at_T26 HR1.out x5_1 p163 q163
                    cases e163
                    have HR163_2 := Aside0.mk hi163_2
                    have HC163_2 := Aside0.mk hl163_2
                    clear hi163_2 hl163_2
                    replace p163 := eq_true p163
                    replace q163 := eq_true q163
                    have p164 : 0 ≤ (x5_1 : Int) := of_decide_eq_true (by first | (with_reducible assumption) | assumption)
                    have q164 : x5_1 < (l0.length : Int) := of_decide_eq_true (by first | (with_reducible assumption) | assumption)
                    obtain ⟨ad164, A164_2, c164_2, e164, hx164_0, hx164_1, hx164_2, hl164_2, hi164_2⟩ := at_T26 HR0.out x5_1 p164 q164
                    obtain rfl : ad162 = ad164 := (by injection e164)
                    have HR164_2 := Aside0.mk hi164_2
                    have HC164_2 := Aside0.mk hl164_2
                    clear hi164_2 hl164_2
                    replace p164 := eq_true p164
                    replace q164 := eq_true q164
                    have ea_ := Option.some.inj (hx162_2.symm.trans hx164_2)
                    injection ea_ with ea_ en_ ec_
                    subst ea_
                    subst ec_
                    clear en_
                    have p165 : 0 ≤ (x5_1 : Int) := of_decide_eq_true (by first | (with_reducible assumption) | assumption)
                    have q165 : x5_1 < (l1.length : Int) := of_decide_eq_true (by first | (with_reducible assumption) | assumption)
                    obtain ⟨ad165, A165_2, c165_2, e165, hx165_0, hx165_1, hx165_2, hl165_2, hi165_2⟩ := at_T26 HR1.out x5_1 p165 q165
                    obtain rfl : ad163 = ad165 := (by injection e165)
                    have HR165_2 := Aside0.mk hi165_2
                    have HC165_2 := Aside0.mk hl165_2
                    clear hi165_2 hl165_2
                    replace p165 := eq_true p165
                    replace q165 := eq_true q165
                    have ea_ := Option.some.inj (hx163_2.symm.trans hx165_2)
                    injection ea_ with ea_ en_ ec_
                    subst ea_
                    subst ec_
                    clear en_
                    go_wp2
                    repeat (go_quiet (fail); try go_wp2)
                    go_meet
                    case rel => exact ⟨_, (true), (by first | rfl | (simp; done) | (simp [*]; done)), H', ⟨by have := HK1.out; first | omega | exact Nat.le_refl _⟩, by repeat (first | exact Drawn0.refl _ | apply Drawn0.step)⟩
                · rw [if_neg c8] at H
                  have c8b0 : (((rd_T26 l0 x5_1).f0) == ((rd_T26 l1 x5_1).f0)) = false := beq_eq_false_iff_ne.mpr c8
                  have c8b1 : (((rd_T26 l0 x5_1).f0) != ((rd_T26 l1 x5_1).f0)) = true := bne_iff_ne.mpr c8
                  have H' := Aside0.mk H
                  clear H
                  have p162 : 0 ≤ (x5_1 : Int) := of_decide_eq_true (by first | (with_reducible assumption) | assumption)
                  have q162 : x5_1 < (l0.length : Int) := of_decide_eq_true (by first | (with_reducible assumption) | assumption)
                  obtain ⟨ad162, A162_2, c162_2, e162, hx162_0, hx162_1, hx162_2, hl162_2, hi162_2⟩ := at_T26 HR0.out x5_1 p162 q162
                  cases e162
                  have HR162_2 := Aside0.mk hi162_2
                  have HC162_2 := Aside0.mk hl162_2
                  clear hi162_2 hl162_2
                  replace p162 := eq_true p162
                  replace q162 := eq_true q162
                  have p163 : 0 ≤ (x5_1 : Int) := of_decide_eq_true (by first | (with_reducible assumption) | assumption)
                  have q163 : x5_1 < (l1.length : Int) := of_decide_eq_true (by first | (with_reducible assumption) | assumption)
                  obtain ⟨ad163, A163_2, c163_2, e163, hx163_0, hx163_1, hx163_2, hl163_2, hi163_2⟩ := at_T26 HR1.out x5_1 p163 q163
                  cases e163
                  have HR163_2 := Aside0.mk hi163_2
                  have HC163_2 := Aside0.mk hl163_2
                  clear hi163_2 hl163_2
                  replace p163 := eq_true p163
                  replace q163 := eq_true q163
                  go_wp2
                  repeat (go_quiet (fail); try go_wp2)
                  go_meet
                  case rel => exact ⟨_, (true), (by first | rfl | (simp; done) | (simp [*]; done)), H', ⟨by have := HK1.out; first | omega | exact Nat.le_refl _⟩, by repeat (first | exact Drawn0.refl _ | apply Drawn0.step)⟩
              · rw [if_neg c7] at H
                exact absurd H (by simp)
            · rw [if_neg c6] at H
              exact absurd H (by simp)
          case rest =>
            clear HC5
            try clear c1
            try clear p1
            try clear q1
            try clear hx1
            try clear p2
            try clear c3
            try clear c3b0
            try clear c3b1
            try clear c3b2
            try clear c4
            try clear c4b0
            try clear c6
            try clear c6b0
            try clear c7
            try clear c7b0
            try clear c8
            try clear c8b0
            try clear c8b1
            try clear c9
            try clear c9b0
            try clear c9b1
            try clear hx162_0
            try clear hx162_1
            try clear hx162_2
            try clear hx163_0
            try clear hx163_1
            try clear hx163_2
            try clear hx164_0
            try clear hx164_1
            try clear hx164_2
            try clear hx165_0
            try clear hx165_1
            try clear hx165_2
            try clear hx166_0
            try clear hx166_1
            try clear hx166_2
            try clear hx167_0
            try clear hx167_1
            try clear hx167_2
            try clear p162
            try clear p163
            try clear p164
            try clear p165
            try clear p166
            try clear p167
            try clear p2
            try clear q162
            try clear q163
            try clear q164
            try clear q165
            try clear q166
            try clear q167
            obtain ⟨kq, x56_4, rfl, HA, HJ4, ⟨mc4, rfl⟩⟩ := hcut
            cases kq with
            | zero => exact absurd HA.out (by simp [tambourref02_Same.j1])
            | succ kj4 =>
              have H := HA.out
              clear HA
              simp only [tambourref02_Same.j1] at H
              by_cases c10 : x56_4 = true
              · subst c10
                have H1 : (some false) = some r := by rw [if_pos rfl] at H; exact H
                clear H
                have H := H1
                clear H1
                obtain rfl := Option.some.inj H
                go_wp2
                repeat (go_quiet (fail); try go_wp2)
                go_ret
                exact ⟨by first | rfl | (simp; done) | (simp [*]; done), by repeat (first | exact Drawn0.refl _ | apply Drawn0.step)⟩
              · replace c10 := Bool.eq_false_iff.mpr c10
                subst c10
                have H1 : (tambourref02_Same.l1 kj4 l0 l1 x5_1 0) = some r := by rw [if_neg (show ¬ (false = true) by decide)] at H; exact H
                clear H
                have H := H1
                clear H1
                have H' := Aside0.mk H
                clear H
                go_wp2
                repeat (go_quiet (fail); try go_wp2)
                go_loopg [6] kj4 (fun kq v6 w' => ∃ (x6_3 : Int), v6 = .int .i64 x6_3 ∧ Aside0 (tambourref02_Same.l1 kq l0 l1 x5_1 x6_3 = some r) ∧ Aside0 (kq ≤ kj4) ∧ Drawn0 w w')
                case atStart => exact ⟨(0), (by first | rfl | (simp; done) | (simp [*]; done)), H', ⟨Nat.le_refl _⟩, by repeat (first | exact Drawn0.refl _ | apply Drawn0.step)⟩
                case round =>
                  clear H'
                  try clear c1
                  try clear p1
                  try clear q1
                  try clear hx1
                  try clear p2
                  try clear c3
                  try clear c3b0
                  try clear c3b1
                  try clear c3b2
                  try clear c4
                  try clear c4b0
                  try clear c6
                  try clear c6b0
                  try clear c7
                  try clear c7b0
                  try clear c8
                  try clear c8b0
                  try clear c8b1
                  try clear c9
                  try clear c9b0
                  try clear c9b1
                  try clear c10
                  try clear hx162_0
                  try clear hx162_1
                  try clear hx162_2
                  try clear hx163_0
                  try clear hx163_1
                  try clear hx163_2
                  try clear hx164_0
                  try clear hx164_1
                  try clear hx164_2
                  try clear hx165_0
                  try clear hx165_1
                  try clear hx165_2
                  try clear hx166_0
                  try clear hx166_1
                  try clear hx166_2
                  try clear hx167_0
                  try clear hx167_1
                  try clear hx167_2
                  try clear p1
                  try clear p162
                  try clear p163
                  try clear p164
                  try clear p165
                  try clear p166
                  try clear p167
                  try clear p2
                  try clear q1
                  try clear q162
                  try clear q163
                  try clear q164
                  try clear q165
                  try clear q166
                  try clear q167
                  obtain ⟨x6_3, rfl, HA, HK3, ⟨m3, rfl⟩⟩ := hrel
                  cases gk with
                  | zero => exact absurd HA.out (by simp [tambourref02_Same.l1])
                  | succ k3 =>
                    have H := HA.out
                    clear HA
                    simp only [tambourref02_Same.l1] at H
                    by_cases c11 : 0 ≤ x5_1
                    · rw [if_pos c11] at H
                      have c11b0 : decide (0 ≤ x5_1) = true := decide_eq_true c11
                      clear c11
                      by_cases c12 : x5_1 < (l0.length : Int)
                      · rw [if_pos c12] at H
                        have c12b0 : decide (x5_1 < (l0.length : Int)) = true := decide_eq_true c12
                        clear c12
                        by_cases c13 : x6_3 < (((rd_T26 l0 x5_1).f2).length : Int)
                        · rw [if_pos c13] at H
                          have c13b0 : decide (x6_3 < (((rd_T26 l0 x5_1).f2).length : Int)) = true := decide_eq_true c13
                          clear c13
                          by_cases c14 : 0 ≤ x6_3
                          · rw [if_pos c14] at H
                            have c14b0 : decide (0 ≤ x6_3) = true := decide_eq_true c14
                            clear c14
                            by_cases c15 : x5_1 < (l1.length : Int)
                            · rw [if_pos c15] at H
                              have c15b0 : decide (x5_1 < (l1.length : Int)) = true := decide_eq_true c15
                              clear c15
                              by_cases c16 : x6_3 < (((rd_T26 l1 x5_1).f2).length : Int)
                              · rw [if_pos c16] at H
                                have c16b0 : decide (x6_3 < (((rd_T26 l1 x5_1).f2).length : Int)) = true := decide_eq_true c16
                                clear c16
                                by_cases c17 : (rdOf ByteArray.empty ((rd_T26 l0 x5_1).f2) x6_3).toList = (rdOf ByteArray.empty ((rd_T26 l1 x5_1).f2) x6_3).toList
                                · rw [if_pos c17] at H
                                  have c17b0 : ((rdOf ByteArray.empty ((rd_T26 l0 x5_1).f2) x6_3).toList == (rdOf ByteArray.empty ((rd_T26 l1 x5_1).f2) x6_3).toList) = true := beq_iff_eq.mpr c17
                                  have c17b1 : ((rdOf ByteArray.empty ((rd_T26 l0 x5_1).f2) x6_3).toList != (rdOf ByteArray.empty ((rd_T26 l1 x5_1).f2) x6_3).toList) = false := bne_eq_false_iff_eq.mpr c17
                                  clear c17
                                  have H' := Aside0.mk H
                                  clear H
                                  have p168 : 0 ≤ (x5_1 : Int) := of_decide_eq_true (by first | (with_reducible assumption) | assumption)
                                  have q168 : x5_1 < (l0.length : Int) := of_decide_eq_true (by first | (with_reducible assumption) | assumption)
                                  obtain ⟨ad168, A168_2, c168_2, e168, hx168_0, hx168_1, hx168_2, hl168_2, hi168_2⟩ := at_T26 HR0.out x5_1 p168 q168
                                  cases e168
                                  have HR168_2 := Aside0.mk hi168_2
                                  have HC168_2 := Aside0.mk hl168_2
                                  clear hi168_2 hl168_2
                                  replace p168 := eq_true p168
                                  replace q168 := eq_true q168
                                  have p169 : 0 ≤ (x5_1 : Int) := of_decide_eq_true (by first | (with_reducible assumption) | assumption)
                                  have q169 : x5_1 < (l0.length : Int) := of_decide_eq_true (by first | (with_reducible assumption) | assumption)
                                  obtain ⟨ad169, A169_2, c169_2, e169, hx169_0, hx169_1, hx169_2, hl169_2, hi169_2⟩ := at_T26 HR0.out x5_1 p169 q169
                                  obtain rfl : ad168 = ad169 := (by injection e169)
                                  have HR169_2 := Aside0.mk hi169_2
                                  have HC169_2 := Aside0.mk hl169_2
                                  clear hi169_2 hl169_2
                                  replace p169 := eq_true p169
                                  replace q169 := eq_true q169
                                  have ea_ := Option.some.inj (hx168_2.symm.trans hx169_2)
                                  injection ea_ with ea_ en_ ec_
                                  subst ea_
                                  subst ec_
                                  clear en_
                                  have p170 : 0 ≤ (x6_3 : Int) := of_decide_eq_true (by first | (with_reducible assumption) | assumption)
                                  have q170 : x6_3 < (((rd_T26 l0 x5_1).f2).length : Int) := of_decide_eq_true (by first | (with_reducible assumption) | assumption)
                                  obtain ⟨ad170, e170, hx170_0⟩ := Kd.at_string HR169_2.out x6_3 p170 q170
                                  cases e170
                                  replace p170 := eq_true p170
                                  replace q170 := eq_true q170
                                  have p171 : 0 ≤ (x5_1 : Int) := of_decide_eq_true (by first | (with_reducible assumption) | assumption)
                                  have q171 : x5_1 < (l1.length : Int) := of_decide_eq_true (by first | (with_reducible assumption) | assumption)
                                  obtain ⟨ad171, A171_2, c171_2, e171, hx171_0, hx171_1, hx171_2, hl171_2, hi171_2⟩ := at_T26 HR1.out x5_1 p171 q171
                                  cases e171
                                  have HR171_2 := Aside0.mk hi171_2
                                  have HC171_2 := Aside0.mk hl171_2
                                  clear hi171_2 hl171_2
                                  replace p171 := eq_true p171
                                  replace q171 := eq_true q171
                                  have p172 : 0 ≤ (x6_3 : Int) := of_decide_eq_true (by first | (with_reducible assumption) | assumption)
                                  have q172 : x6_3 < (((rd_T26 l1 x5_1).f2).length : Int) := of_decide_eq_true (by first | (with_reducible assumption) | assumption)
                                  obtain ⟨ad172, e172, hx172_0⟩ := Kd.at_string HR171_2.out x6_3 p172 q172
                                  cases e172
                                  replace p172 := eq_true p172
                                  replace q172 := eq_true q172
                                  go_wp2
                                  repeat (go_quiet (fail); try go_wp2)
                                  go_roundg k3
                                  case measure => have := HK1.out; have := HJ4.out; have := HK3.out; omega
                                  case rel => exact ⟨(wrap64 (x6_3 + 1)), (by first | rfl | (simp; done) | (simp [*]; done)), H', ⟨by have := HK1.out; have := HJ4.out; have := HK3.out; omega⟩, by repeat (first | exact Drawn0.refl _ | apply Drawn0.step)⟩
                                · rw [if_neg c17] at H
                                  have c17b0 : ((rdOf ByteArray.empty ((rd_T26 l0 x5_1).f2) x6_3).toList == (rdOf ByteArray.empty ((rd_T26 l1 x5_1).f2) x6_3).toList) = false := beq_eq_false_iff_ne.mpr c17
                                  have c17b1 : ((rdOf ByteArray.empty ((rd_T26 l0 x5_1).f2) x6_3).toList != (rdOf ByteArray.empty ((rd_T26 l1 x5_1).f2) x6_3).toList) = true := bne_iff_ne.mpr c17
                                  obtain rfl := Option.some.inj H
                                  have p168 : 0 ≤ (x5_1 : Int) := of_decide_eq_true (by first | (with_reducible assumption) | assumption)
                                  have q168 : x5_1 < (l0.length : Int) := of_decide_eq_true (by first | (with_reducible assumption) | assumption)
                                  obtain ⟨ad168, A168_2, c168_2, e168, hx168_0, hx168_1, hx168_2, hl168_2, hi168_2⟩ := at_T26 HR0.out x5_1 p168 q168
                                  cases e168
                                  have HR168_2 := Aside0.mk hi168_2
                                  have HC168_2 := Aside0.mk hl168_2
                                  clear hi168_2 hl168_2
                                  replace p168 := eq_true p168
                                  replace q168 := eq_true q168
                                  have p169 : 0 ≤ (x5_1 : Int) := of_decide_eq_true (by first | (with_reducible assumption) | assumption)
                                  have q169 : x5_1 < (l0.length : Int) := of_decide_eq_true (by first | (with_reducible assumption) | assumption)
                                  obtain ⟨ad169, A169_2, c169_2, e169, hx169_0, hx169_1, hx169_2, hl169_2, hi169_2⟩ := at_T26 HR0.out x5_1 p169 q169
                                  obtain rfl : ad168 = ad169 := (by injection e169)
                                  have HR169_2 := Aside0.mk hi169_2
                                  have HC169_2 := Aside0.mk hl169_2
                                  clear hi169_2 hl169_2
                                  replace p169 := eq_true p169
                                  replace q169 := eq_true q169
                                  have ea_ := Option.some.inj (hx168_2.symm.trans hx169_2)
                                  injection ea_ with ea_ en_ ec_
                                  subst ea_
                                  subst ec_
                                  clear en_
                                  have p170 : 0 ≤ (x6_3 : Int) := of_decide_eq_true (by first | (with_reducible assumption) | assumption)
                                  have q170 : x6_3 < (((rd_T26 l0 x5_1).f2).length : Int) := of_decide_eq_true (by first | (with_reducible assumption) | assumption)
                                  obtain ⟨ad170, e170, hx170_0⟩ := Kd.at_string HR169_2.out x6_3 p170 q170
                                  cases e170
                                  replace p170 := eq_true p170
                                  replace q170 := eq_true q170
                                  have p171 : 0 ≤ (x5_1 : Int) := of_decide_eq_true (by first | (with_reducible assumption) | assumption)
                                  have q171 : x5_1 < (l1.length : Int) := of_decide_eq_true (by first | (with_reducible assumption) | assumption)
                                  obtain ⟨ad171, A171_2, c171_2, e171, hx171_0, hx171_1, hx171_2, hl171_2, hi171_2⟩ := at_T26 HR1.out x5_1 p171 q171
                                  cases e171
                                  have HR171_2 := Aside0.mk hi171_2
                                  have HC171_2 := Aside0.mk hl171_2
                                  clear hi171_2 hl171_2
                                  replace p171 := eq_true p171
                                  replace q171 := eq_true q171
                                  have p172 : 0 ≤ (x6_3 : Int) := of_decide_eq_true (by first | (with_reducible assumption) | assumption)
                                  have q172 : x6_3 < (((rd_T26 l1 x5_1).f2).length : Int) := of_decide_eq_true (by first | (with_reducible assumption) | assumption)
                                  obtain ⟨ad172, e172, hx172_0⟩ := Kd.at_string HR171_2.out x6_3 p172 q172
                                  cases e172
                                  replace p172 := eq_true p172
                                  replace q172 := eq_true q172
                                  go_wp2
                                  repeat (go_quiet (fail); try go_wp2)
                                  go_ret
                                  exact ⟨by first | rfl | (simp; done) | (simp [*]; done), by repeat (first | exact Drawn0.refl _ | apply Drawn0.step)⟩
                              · rw [if_neg c16] at H
                                exact absurd H (by simp)
                            · rw [if_neg c15] at H
                              exact absurd H (by simp)
                          · rw [if_neg c14] at H
                            exact absurd H (by simp)
                        · rw [if_neg c13] at H
                          have c13b0 : decide (x6_3 < (((rd_T26 l0 x5_1).f2).length : Int)) = false := decide_eq_false c13
                          clear c13
                          have H' := Aside0.mk H
                          clear H
                          have p168 : 0 ≤ (x5_1 : Int) := of_decide_eq_true (by first | (with_reducible assumption) | assumption)
                          have q168 : x5_1 < (l0.length : Int) := of_decide_eq_true (by first | (with_reducible assumption) | assumption)
                          obtain ⟨ad168, A168_2, c168_2, e168, hx168_0, hx168_1, hx168_2, hl168_2, hi168_2⟩ := at_T26 HR0.out x5_1 p168 q168
                          cases e168
                          have HR168_2 := Aside0.mk hi168_2
                          have HC168_2 := Aside0.mk hl168_2
                          clear hi168_2 hl168_2
                          replace p168 := eq_true p168
                          replace q168 := eq_true q168
                          go_wp2
                          repeat (go_quiet (fail); try go_wp2)
                          go_roundg k3
                          case measure => have := HK1.out; have := HJ4.out; have := HK3.out; omega
                          case rel => exact ⟨(wrap64 (x5_1 + 1)), (by first | rfl | (simp; done) | (simp [*]; done)), H', ⟨by have := HK1.out; have := HJ4.out; have := HK3.out; omega⟩, by repeat (first | exact Drawn0.refl _ | apply Drawn0.step)⟩
                      · rw [if_neg c12] at H
                        exact absurd H (by simp)
                    · rw [if_neg c11] at H
                      exact absurd H (by simp)
        · rw [if_neg c4] at H
          have c4b0 : decide (x5_1 < (l0.length : Int)) = false := decide_eq_false c4
          clear c4
          obtain rfl := Option.some.inj H
          go_wp2
          repeat (go_quiet (fail); try go_wp2)
          go_ret
          exact ⟨by first | rfl | (simp; done) | (simp [*]; done), by repeat (first | exact Drawn0.refl _ | apply Drawn0.step)⟩
  · rw [if_neg c3] at H
    have c3b0 : ((l0.length : Int) == (l1.length : Int)) = false := beq_eq_false_iff_ne.mpr c3
    have c3b1 : ((l0.length : Int) != (l1.length : Int)) = true := bne_iff_ne.mpr c3
    have c3b2 : (l0.length == l1.length) = false := by first | simpa using c3 | (simp at c3 ⊢; omega)
    obtain rfl := Option.some.inj H
    go_enter Tryd.func13, Tryd.ntmps13
    go_wp2
    repeat (go_quiet (fail); try go_wp2)
    go_ret
    exact ⟨by first | rfl | (simp; done) | (simp [*]; done), by repeat (first | exact Drawn0.refl _ | apply Drawn0.step)⟩

-- HIDDEN: function 3 (tambourlaw02_EditsApply)

end Go.Proofs.YtkjjjkjgendnfaaDoor.PAll
