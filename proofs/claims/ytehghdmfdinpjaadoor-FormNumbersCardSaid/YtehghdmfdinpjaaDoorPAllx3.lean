-- Written by a program of this session (wip/t/fprint.py), which runs the kit's printer with some functions proved by hand.
import Derived.Test.YtehghdmfdinpjaaDoorPAllx0
namespace Go.Proofs.YtehghdmfdinpjaaDoor.PAll
open Go.RowKit Go.Proofs.YtehghdmfdinpjaaDoorW.PrintWords Go.Proofs.YtehghdmfdinpjaaDoorW.PrintLast Go.Proofs.YtehghdmfdinpjaaDoorW.PrintMore
attribute [local go_sem] max2_int min2_int max_two min_two max_three min_three max_four min_four   -- for this text's walks alone
set_option linter.unusedVariables false
set_option linter.unusedSimpArgs false

/-! ### tambourref04_Same: function 11 -/
mutual
def tambourref04_Same.j0 : Nat → Bool → Bool → ByteArray → List (S24) → Bool → ByteArray → List (S24) → Option (Bool)
  | 0, _, _, _, _, _, _, _ => none
  | k + 1, x26, x167000, x167001, x167002, x168000, x168001, x168002 => if x26 = true then (some false) else (tambourref04_Same.l0 k 0 x167000 x167001 x167002 x168000 x168001 x168002)
def tambourref04_Same.l0 : Nat → Int → Bool → ByteArray → List (S24) → Bool → ByteArray → List (S24) → Option (Bool)
  | 0, _, _, _, _, _, _, _ => none
  | k + 1, x5, x167000, x167001, x167002, x168000, x168001, x168002 => if x5 < (x167002.length : Int) then (if 0 ≤ x5 then (if x5 < (x168002.length : Int) then ((tambourref04_Same.f k ((rd_T24 x167002 x5).f0) ((rd_T24 x167002 x5).f1) ((rd_T24 x167002 x5).f2) ((rd_T24 x168002 x5).f0) ((rd_T24 x168002 x5).f1) ((rd_T24 x168002 x5).f2)).bind fun t170 => (if t170 = true then (tambourref04_Same.l0 k (wrap64 (x5 + 1)) x167000 x167001 x167002 x168000 x168001 x168002) else (some false))) else (none)) else (none)) else (some true)
def tambourref04_Same.f : Nat → Bool → ByteArray → List (S24) → Bool → ByteArray → List (S24) → Option (Bool)
  | 0, _, _, _, _, _, _ => none
  | k + 1, a0_0, a0_1, l0_2, a1_0, a1_1, l1_2 => if (a0_0 != a1_0) = true then (tambourref04_Same.j0 k true a0_0 a0_1 l0_2 a1_0 a1_1 l1_2) else (if a0_1.toList = a1_1.toList then (tambourref04_Same.j0 k ((l0_2.length : Int) != (l1_2.length : Int)) a0_0 a0_1 l0_2 a1_0 a1_1 l1_2) else (tambourref04_Same.j0 k true a0_0 a0_1 l0_2 a1_0 a1_1 l1_2))
end
theorem tambourref04_Same.mono_l : ∀ k, (∀ y0 y1 y2 y3 y4 y5, LeO (tambourref04_Same.f k y0 y1 y2 y3 y4 y5) (tambourref04_Same.f (k + 1) y0 y1 y2 y3 y4 y5)) ∧ (∀ y0 y1 y2 y3 y4 y5 y6, LeO (tambourref04_Same.j0 k y0 y1 y2 y3 y4 y5 y6) (tambourref04_Same.j0 (k + 1) y0 y1 y2 y3 y4 y5 y6)) ∧ (∀ y0 y1 y2 y3 y4 y5 y6, LeO (tambourref04_Same.l0 k y0 y1 y2 y3 y4 y5 y6) (tambourref04_Same.l0 (k + 1) y0 y1 y2 y3 y4 y5 y6))
  | 0 => ⟨fun _ _ _ _ _ _ r h => by simp [tambourref04_Same.f] at h, fun _ _ _ _ _ _ _ r h => by simp [tambourref04_Same.j0] at h, fun _ _ _ _ _ _ _ r h => by simp [tambourref04_Same.l0] at h⟩
  | k + 1 => by
    obtain ⟨ih0, ih1, ih2⟩ := tambourref04_Same.mono_l k
    refine ⟨?_, ?_, ?_⟩
    · intro y0 y1 y2 y3 y4 y5
      unfold tambourref04_Same.f
      repeat' first
      | (with_reducible exact ih0 _ _ _ _ _ _)
      | (with_reducible exact ih1 _ _ _ _ _ _ _)
      | (with_reducible exact ih2 _ _ _ _ _ _ _)
      | (with_reducible exact LeO.refl _)
      | (with_reducible exact LeO.none _)
      | (with_reducible refine LeO.ite ?_ ?_)
      | (with_reducible refine LeO.bind ?_ (fun _ => ?_))
      | exact ih0 _ _ _ _ _ _
      | exact ih1 _ _ _ _ _ _ _
      | exact ih2 _ _ _ _ _ _ _
      | exact LeO.none _
      | refine LeO.ite ?_ ?_
      | refine LeO.bind ?_ (fun _ => ?_)
    · intro y0 y1 y2 y3 y4 y5 y6
      unfold tambourref04_Same.j0
      repeat' first
      | (with_reducible exact ih0 _ _ _ _ _ _)
      | (with_reducible exact ih1 _ _ _ _ _ _ _)
      | (with_reducible exact ih2 _ _ _ _ _ _ _)
      | (with_reducible exact LeO.refl _)
      | (with_reducible exact LeO.none _)
      | (with_reducible refine LeO.ite ?_ ?_)
      | (with_reducible refine LeO.bind ?_ (fun _ => ?_))
      | exact ih0 _ _ _ _ _ _
      | exact ih1 _ _ _ _ _ _ _
      | exact ih2 _ _ _ _ _ _ _
      | exact LeO.none _
      | refine LeO.ite ?_ ?_
      | refine LeO.bind ?_ (fun _ => ?_)
    · intro y0 y1 y2 y3 y4 y5 y6
      unfold tambourref04_Same.l0
      repeat' first
      | (with_reducible exact ih0 _ _ _ _ _ _)
      | (with_reducible exact ih1 _ _ _ _ _ _ _)
      | (with_reducible exact ih2 _ _ _ _ _ _ _)
      | (with_reducible exact LeO.refl _)
      | (with_reducible exact LeO.none _)
      | (with_reducible refine LeO.ite ?_ ?_)
      | (with_reducible refine LeO.bind ?_ (fun _ => ?_))
      | exact ih0 _ _ _ _ _ _
      | exact ih1 _ _ _ _ _ _ _
      | exact ih2 _ _ _ _ _ _ _
      | exact LeO.none _
      | refine LeO.ite ?_ ?_
      | refine LeO.bind ?_ (fun _ => ?_)
theorem tambourref04_Same.mono : ∀ a0 a1 a2 a3 a4 a5 k, LeO (tambourref04_Same.f k a0 a1 a2 a3 a4 a5) (tambourref04_Same.f (k + 1) a0 a1 a2 a3 a4 a5) := by
  intro a0 a1 a2 a3 a4 a5 k
  obtain ⟨ih0, ih1, ih2⟩ := tambourref04_Same.mono_l k
  exact ih0 a0 a1 a2 a3 a4 a5
def tambourref04_Same.T6 : Bool × List (List Nat × List Nat) := (true, [([], []), ([0], [0]), ([], []), ([1, 2], [1, 2]), ([3], [3]), ([], []), ([5], [5]), ([], []), ([6, 7], [6, 7]), ([8], [8]), ([4, 9], [4, 9]), ([10], [10])])
def tambourref04_Same.B6 : List Nat := [0, 1, 0, 7, 15, 0, 32, 0, 224, 480, 1023, 2047]
theorem tambourref04_Same.tab6 : rtab .any (opsOf Tryd.f11 6) = tambourref04_Same.T6 := by kernel_rfl
theorem tambourref04_Same.bits6 : waitsOk tambourref04_Same.T6.2 tambourref04_Same.B6 = true := by kernel_rfl
set_option maxHeartbeats 8000000 in
set_option maxRecDepth 100000 in
theorem tambourref04_Same.calls (k : Nat) : ∀ (a0_0 : Bool) (a0_1 : ByteArray) (A0_2 : Option Addr) (c0_2 : Nat) (l0_2 : List (S24)) (a1_0 : Bool) (a1_1 : ByteArray) (A1_2 : Option Addr) (c1_2 : Nat) (l1_2 : List (S24)) (r : Bool) (w : World) (hr0_2 : Kd.C k24 w A0_2 l0_2.length l0_2) (hc0_2 : l0_2.length ≤ c0_2) (hr1_2 : Kd.C k24 w A1_2 l1_2.length l1_2) (hc1_2 : l1_2.length ≤ c1_2) (h : tambourref04_Same.f k a0_0 a0_1 l0_2 a1_0 a1_1 l1_2 = some r),
    Calls Tryd.prog 11 #[.agg #[.bool a0_0, .string a0_1, .slice A0_2 l0_2.length c0_2], .agg #[.bool a1_0, .string a1_1, .slice A1_2 l1_2.length c1_2]] w fun e w' => e = .returned (.bool r) ∧ Below w.heap.size w w' := by
  induction k using Nat.strongRecOn with
  | _ k ih =>
  intro a0_0 a0_1 A0_2 c0_2 l0_2 a1_0 a1_1 A1_2 c1_2 l1_2 r w hr0_2 hc0_2 hr1_2 hc1_2 h
  cases k with
  | zero => exact absurd h (by simp [tambourref04_Same.f])
  | succ k =>
  simp only [tambourref04_Same.f] at h
  have hu24 := Tryd.underlying24
  have HR0_2 := Aside0.mk hr0_2
  have HC0_2 := Aside0.mk hc0_2
  clear hr0_2 hc0_2
  have HR1_2 := Aside0.mk hr1_2
  have HC1_2 := Aside0.mk hc1_2
  clear hr1_2 hc1_2
  have HB := Aside0.mk (Below.refl w.heap.size w)
  have H : (if (a0_0 != a1_0) = true then (tambourref04_Same.j0 k true a0_0 a0_1 l0_2 a1_0 a1_1 l1_2) else (if a0_1.toList = a1_1.toList then (tambourref04_Same.j0 k ((l0_2.length : Int) != (l1_2.length : Int)) a0_0 a0_1 l0_2 a1_0 a1_1 l1_2) else (tambourref04_Same.j0 k true a0_0 a0_1 l0_2 a1_0 a1_1 l1_2))) = some r := h
  clear h
  have HC3 := Aside0.mk H
  clear H
  go_enter Tryd.func11, Tryd.ntmps11
  go_upto_region 1 with (first | ((with_reducible refine gate_dst (N := 2) rfl ?_); (try (refine gate_guard (by rfl) ?_; dsimp only)); refine box_event ?hg (N := 2) ?hd (cs := #[.bool a0_0, .string a0_1, .slice A0_2 l0_2.length c0_2]) (t := 24) ?hr ?_; (case hd => rfl); (case hg => rfl); (case hr => first | (go_simp; done) | (go_simp; rfl)); intro gb166 hg w4 hbox hb; have n0_ := Aside0.mk (below_step (by repeat (first | (with_reducible first | exact HB.out | apply below_alloc | apply pw_below_drewN | apply below_drew1) | exact HB.out)) hb); have n1_ := Aside0.mk (hbox); have n2_ := Aside0.mk ((by rw [hg]; exact (below_size (by repeat (first | (with_reducible first | exact HB.out | apply below_alloc | apply pw_below_drewN | apply below_drew1) | exact HB.out))) : w.heap.size ≤ gb166)); have n3_ := Aside0.mk ((by rw [hg]; exact (below_size (by repeat (first | (with_reducible first | exact HB.out | apply below_alloc | apply pw_below_drewN | apply below_drew1) | exact HB.out))) : w.heap.size ≤ gb166)); clear HB; have HB := n0_; have BK166 := n1_; have GW166 := n2_; have GE166 := n3_; clear n0_ n1_ n2_ n3_; clear hb hbox hg) | ((with_reducible refine gate_dst (N := 3) rfl ?_); (try (refine gate_guard (by rfl) ?_; dsimp only)); refine box_event ?hg (N := 3) ?hd (cs := #[.bool a1_0, .string a1_1, .slice A1_2 l1_2.length c1_2]) (t := 24) ?hr ?_; (case hd => rfl); (case hg => rfl); (case hr => first | (go_simp; done) | (go_simp; rfl)); intro gb167 hg w5 hbox hb; have n0_ := Aside0.mk (blk_below (g := gb166) (o := .cells #[.bool a0_0, .string a0_1, .slice A0_2 l0_2.length c0_2] 24 (0, 0)) (by (with_reducible repeat (first | refine blk_drewN ?_ _ | refine blk_drew ?_ | refine blk_alloc ?_ _)); exact BK166.out) hb); have n1_ := Aside0.mk (below_step (by repeat (first | (with_reducible first | exact HB.out | apply below_alloc | apply pw_below_drewN | apply below_drew1 | refine below_set ?_ GE166.out) | exact HB.out)) hb); have n2_ := Aside0.mk (hbox); have n3_ := Aside0.mk ((by rw [hg]; exact (below_size (by repeat (first | (with_reducible first | exact HB.out | apply below_alloc | apply pw_below_drewN | apply below_drew1 | refine below_set ?_ GE166.out) | exact HB.out))) : w.heap.size ≤ gb167)); have n4_ := Aside0.mk ((by rw [hg]; exact (below_size (by repeat (first | (with_reducible first | exact HB.out | apply below_alloc | apply pw_below_drewN | apply below_drew1 | refine below_set ?_ GE166.out) | exact HB.out))) : w.heap.size ≤ gb167)); have n5_ := Aside0.mk ((by rw [hg]; exact Nat.ne_of_lt (blk_lt (g := gb166) (o := .cells #[.bool a0_0, .string a0_1, .slice A0_2 l0_2.length c0_2] 24 (0, 0)) (by (with_reducible repeat (first | refine blk_drewN ?_ _ | refine blk_drew ?_ | refine blk_alloc ?_ _)); exact BK166.out)) : gb166 ≠ gb167)); have n6_ := Aside0.mk ((by rw [hg]; exact Nat.ne_of_gt (blk_lt (g := gb166) (o := .cells #[.bool a0_0, .string a0_1, .slice A0_2 l0_2.length c0_2] 24 (0, 0)) (by (with_reducible repeat (first | refine blk_drewN ?_ _ | refine blk_drew ?_ | refine blk_alloc ?_ _)); exact BK166.out)) : gb167 ≠ gb166)); clear BK166; clear HB; have BK166 := n0_; have HB := n1_; have BK167 := n2_; have GW167 := n3_; have GE167 := n4_; have NB166_167 := n5_; have NB167_166 := n6_; clear n0_ n1_ n2_ n3_ n4_ n5_ n6_; clear hb hbox hg))
  (try simp only [Act.put, List.setIfInBounds_toArray, List.set_cons_zero, List.set_cons_succ])
  go_cut [26] (fun v26 wc => ∃ (kq : Nat) (x26_2 : Bool), v26 = .bool x26_2 ∧ Aside0 (tambourref04_Same.j0 kq x26_2 a0_0 a0_1 l0_2 a1_0 a1_1 l1_2 = some r) ∧ Aside0 (kq ≤ k) ∧ Aside0 (wc.heap[gb166]? = some (.cells #[.bool a0_0, .string a0_1, (.slice A0_2 l0_2.length c0_2)] 24 (0, 0))) ∧ Aside0 (wc.heap[gb167]? = some (.cells #[.bool a1_0, .string a1_1, (.slice A1_2 l1_2.length c1_2)] 24 (0, 0))) ∧ Aside0 (Below w.heap.size w wc))
  case first =>
    have H := HC3.out
    clear HC3
    by_cases c6 : (a0_0 != a1_0) = true
    · rw [if_pos c6] at H
      have c6b0 : (a0_0 != a1_0) = true := c6
      (try (have c6b1 : decide (a0_0 = a1_0) = false := by simpa using c6))
      (try (have c6b2 : (a0_0 == a1_0) = false := by simpa using c6))
      (try (have c6b3 : ¬ (a0_0 = a1_0) := by simpa using c6))
      clear c6
      (first | rw [c6b0] | (simp only [i64_w, i32_w]; rw [c6b0]) | skip)
      have H' := Aside0.mk H
      clear H
      have hnb7 := NB166_167.out
      have hnc7 := NB167_166.out
      have hcz8_0 : w5.cell? ⟨gb166, 0, none⟩ = some (.bool a0_0) := (blk_cell BK166.out 0).trans rfl
      have hcz8_1 : w5.cell? ⟨gb166, 1, none⟩ = some (.string a0_1) := (blk_cell BK166.out 1).trans rfl
      have hcz8_2 : w5.cell? ⟨gb166, 2, none⟩ = some (.slice A0_2 l0_2.length c0_2) := (blk_cell BK166.out 2).trans rfl
      have hfz8_0 := blk_frozen BK166.out 0
      have hfz8_1 := blk_frozen BK166.out 1
      have hfz8_2 := blk_frozen BK166.out 2
      have hcz9_0 : w5.cell? ⟨gb167, 0, none⟩ = some (.bool a1_0) := (blk_cell BK167.out 0).trans rfl
      have hcz9_1 : w5.cell? ⟨gb167, 1, none⟩ = some (.string a1_1) := (blk_cell BK167.out 1).trans rfl
      have hcz9_2 : w5.cell? ⟨gb167, 2, none⟩ = some (.slice A1_2 l1_2.length c1_2) := (blk_cell BK167.out 2).trans rfl
      have hfz9_0 := blk_frozen BK167.out 0
      have hfz9_1 := blk_frozen BK167.out 1
      have hfz9_2 := blk_frozen BK167.out 2
      go_wp2
      go_meet
      case rel => exact ⟨_, (true), (by first | rfl | (simp; done) | (simp [*]; done)), H', ⟨by first | omega | exact Nat.le_refl _⟩, ⟨by (with_reducible repeat (first | refine blk_drewN ?_ _ | refine blk_drew ?_ | refine blk_alloc ?_ _)); exact BK166.out⟩, ⟨by (with_reducible repeat (first | refine blk_drewN ?_ _ | refine blk_drew ?_ | refine blk_alloc ?_ _)); exact BK167.out⟩, ⟨by repeat (first | (with_reducible first | exact HB.out | apply below_alloc | apply pw_below_drewN | apply below_drew1 | refine below_set ?_ GE166.out | refine below_set ?_ GE167.out) | exact HB.out)⟩⟩
    · rw [if_neg c6] at H
      have c6b0 : (a0_0 != a1_0) = false := by simpa using c6
      (try (have c6b1 : decide (a0_0 = a1_0) = true := by simpa using c6))
      (try (have c6b2 : (a0_0 == a1_0) = true := by simpa using c6))
      clear c6
      (first | rw [c6b0] | (simp only [i64_w, i32_w]; rw [c6b0]) | skip)
      by_cases c10 : a0_1.toList = a1_1.toList
      · rw [if_pos c10] at H
        have c10b0 : (a0_1.toList == a1_1.toList) = true := beq_iff_eq.mpr c10
        have c10b1 : (a0_1.toList != a1_1.toList) = false := bne_eq_false_iff_eq.mpr c10
        clear c10
        have H' := Aside0.mk H
        clear H
        have hnb11 := NB166_167.out
        have hnc11 := NB167_166.out
        have hcz12_0 : w5.cell? ⟨gb166, 0, none⟩ = some (.bool a0_0) := (blk_cell BK166.out 0).trans rfl
        have hcz12_1 : w5.cell? ⟨gb166, 1, none⟩ = some (.string a0_1) := (blk_cell BK166.out 1).trans rfl
        have hcz12_2 : w5.cell? ⟨gb166, 2, none⟩ = some (.slice A0_2 l0_2.length c0_2) := (blk_cell BK166.out 2).trans rfl
        have hfz12_0 := blk_frozen BK166.out 0
        have hfz12_1 := blk_frozen BK166.out 1
        have hfz12_2 := blk_frozen BK166.out 2
        have hcz13_0 : w5.cell? ⟨gb167, 0, none⟩ = some (.bool a1_0) := (blk_cell BK167.out 0).trans rfl
        have hcz13_1 : w5.cell? ⟨gb167, 1, none⟩ = some (.string a1_1) := (blk_cell BK167.out 1).trans rfl
        have hcz13_2 : w5.cell? ⟨gb167, 2, none⟩ = some (.slice A1_2 l1_2.length c1_2) := (blk_cell BK167.out 2).trans rfl
        have hfz13_0 := blk_frozen BK167.out 0
        have hfz13_1 := blk_frozen BK167.out 1
        have hfz13_2 := blk_frozen BK167.out 2
        go_wp2
        go_meet
        case rel => exact ⟨_, (((l0_2.length : Int) != (l1_2.length : Int))), (by first | rfl | (simp; done) | (simp [*]; done)), H', ⟨by first | omega | exact Nat.le_refl _⟩, ⟨by (with_reducible repeat (first | refine blk_drewN ?_ _ | refine blk_drew ?_ | refine blk_alloc ?_ _)); exact BK166.out⟩, ⟨by (with_reducible repeat (first | refine blk_drewN ?_ _ | refine blk_drew ?_ | refine blk_alloc ?_ _)); exact BK167.out⟩, ⟨by repeat (first | (with_reducible first | exact HB.out | apply below_alloc | apply pw_below_drewN | apply below_drew1 | refine below_set ?_ GE166.out | refine below_set ?_ GE167.out) | exact HB.out)⟩⟩
      · rw [if_neg c10] at H
        have c10b0 : (a0_1.toList == a1_1.toList) = false := beq_eq_false_iff_ne.mpr c10
        have c10b1 : (a0_1.toList != a1_1.toList) = true := bne_iff_ne.mpr c10
        have H' := Aside0.mk H
        clear H
        have hnb14 := NB166_167.out
        have hnc14 := NB167_166.out
        have hcz15_0 : w5.cell? ⟨gb166, 0, none⟩ = some (.bool a0_0) := (blk_cell BK166.out 0).trans rfl
        have hcz15_1 : w5.cell? ⟨gb166, 1, none⟩ = some (.string a0_1) := (blk_cell BK166.out 1).trans rfl
        have hcz15_2 : w5.cell? ⟨gb166, 2, none⟩ = some (.slice A0_2 l0_2.length c0_2) := (blk_cell BK166.out 2).trans rfl
        have hfz15_0 := blk_frozen BK166.out 0
        have hfz15_1 := blk_frozen BK166.out 1
        have hfz15_2 := blk_frozen BK166.out 2
        have hcz16_0 : w5.cell? ⟨gb167, 0, none⟩ = some (.bool a1_0) := (blk_cell BK167.out 0).trans rfl
        have hcz16_1 : w5.cell? ⟨gb167, 1, none⟩ = some (.string a1_1) := (blk_cell BK167.out 1).trans rfl
        have hcz16_2 : w5.cell? ⟨gb167, 2, none⟩ = some (.slice A1_2 l1_2.length c1_2) := (blk_cell BK167.out 2).trans rfl
        have hfz16_0 := blk_frozen BK167.out 0
        have hfz16_1 := blk_frozen BK167.out 1
        have hfz16_2 := blk_frozen BK167.out 2
        go_wp2
        go_meet
        case rel => exact ⟨_, (true), (by first | rfl | (simp; done) | (simp [*]; done)), H', ⟨by first | omega | exact Nat.le_refl _⟩, ⟨by (with_reducible repeat (first | refine blk_drewN ?_ _ | refine blk_drew ?_ | refine blk_alloc ?_ _)); exact BK166.out⟩, ⟨by (with_reducible repeat (first | refine blk_drewN ?_ _ | refine blk_drew ?_ | refine blk_alloc ?_ _)); exact BK167.out⟩, ⟨by repeat (first | (with_reducible first | exact HB.out | apply below_alloc | apply pw_below_drewN | apply below_drew1 | refine below_set ?_ GE166.out | refine below_set ?_ GE167.out) | exact HB.out)⟩⟩
  case rest =>
    clear HC3
    try clear c1
    try clear p2
    try clear c6
    try clear c6b0
    try clear c6b1
    try clear c6b2
    try clear c7
    try clear c10
    try clear c10b0
    try clear c10b1
    try clear c11
    try clear c14
    try clear hcz12_0
    try clear hcz12_1
    try clear hcz12_2
    try clear hcz13_0
    try clear hcz13_1
    try clear hcz13_2
    try clear hcz15_0
    try clear hcz15_1
    try clear hcz15_2
    try clear hcz16_0
    try clear hcz16_1
    try clear hcz16_2
    try clear hcz8_0
    try clear hcz8_1
    try clear hcz8_2
    try clear hcz9_0
    try clear hcz9_1
    try clear hcz9_2
    try clear hfz12_0
    try clear hfz12_1
    try clear hfz12_2
    try clear hfz13_0
    try clear hfz13_1
    try clear hfz13_2
    try clear hfz15_0
    try clear hfz15_1
    try clear hfz15_2
    try clear hfz16_0
    try clear hfz16_1
    try clear hfz16_2
    try clear hfz8_0
    try clear hfz8_1
    try clear hfz8_2
    try clear hfz9_0
    try clear hfz9_1
    try clear hfz9_2
    obtain ⟨kq, x26_2, rfl, HA, HJ2, BK166, BK167, HB⟩ := hcut
    cases kq with
    | zero => exact absurd HA.out (by simp [tambourref04_Same.j0])
    | succ kj2 =>
      have H := HA.out
      clear HA
      simp only [tambourref04_Same.j0] at H
      by_cases c17 : x26_2 = true
      · subst c17
        have H1 : (some false) = some r := by rw [if_pos rfl] at H; exact H
        clear H
        have H := H1
        clear H1
        obtain rfl := Option.some.inj H
        go_wp2
        go_ret
        exact ⟨by first | rfl | (simp [errW_none, errW_some] <;> rfl) | (simp [*, errW_none, errW_some] <;> rfl), by repeat (first | (with_reducible first | exact HB.out | apply below_alloc | apply pw_below_drewN | apply below_drew1 | refine below_set ?_ GE166.out | refine below_set ?_ GE167.out) | exact HB.out)⟩
      · replace c17 := Bool.eq_false_iff.mpr c17
        subst c17
        have H1 : (tambourref04_Same.l0 kj2 0 a0_0 a0_1 l0_2 a1_0 a1_1 l1_2) = some r := by rw [if_neg (show ¬ (false = true) by decide)] at H; exact H
        clear H
        have H := H1
        clear H1
        have H' := Aside0.mk H
        clear H
        go_wp2
        go_loopg [5] kj2 (fun kq v5 w' => ∃ (x5_2 : Int), v5 = .int .i64 x5_2 ∧ Aside0 (tambourref04_Same.l0 kq x5_2 a0_0 a0_1 l0_2 a1_0 a1_1 l1_2 = some r) ∧ Aside0 (kq ≤ kj2) ∧ Aside0 (w'.heap[gb166]? = some (.cells #[.bool a0_0, .string a0_1, (.slice A0_2 l0_2.length c0_2)] 24 (0, 0))) ∧ Aside0 (w'.heap[gb167]? = some (.cells #[.bool a1_0, .string a1_1, (.slice A1_2 l1_2.length c1_2)] 24 (0, 0))) ∧ Aside0 (Below w.heap.size w w'))
        case atStart => exact ⟨(0), (by first | rfl | (simp; done) | (simp [*]; done)), H', ⟨Nat.le_refl _⟩, ⟨by (with_reducible repeat (first | refine blk_drewN ?_ _ | refine blk_drew ?_ | refine blk_alloc ?_ _)); exact BK166.out⟩, ⟨by (with_reducible repeat (first | refine blk_drewN ?_ _ | refine blk_drew ?_ | refine blk_alloc ?_ _)); exact BK167.out⟩, ⟨by repeat (first | (with_reducible first | exact HB.out | apply below_alloc | apply pw_below_drewN | apply below_drew1 | refine below_set ?_ GE166.out | refine below_set ?_ GE167.out) | exact HB.out)⟩⟩
        case round =>
          clear H'
          try clear c1
          try clear p2
          try clear c6
          try clear c6b0
          try clear c6b1
          try clear c6b2
          try clear c7
          try clear c10
          try clear c10b0
          try clear c10b1
          try clear c11
          try clear c14
          try clear c17
          try clear hcz12_0
          try clear hcz12_1
          try clear hcz12_2
          try clear hcz13_0
          try clear hcz13_1
          try clear hcz13_2
          try clear hcz15_0
          try clear hcz15_1
          try clear hcz15_2
          try clear hcz16_0
          try clear hcz16_1
          try clear hcz16_2
          try clear hcz8_0
          try clear hcz8_1
          try clear hcz8_2
          try clear hcz9_0
          try clear hcz9_1
          try clear hcz9_2
          try clear hfz12_0
          try clear hfz12_1
          try clear hfz12_2
          try clear hfz13_0
          try clear hfz13_1
          try clear hfz13_2
          try clear hfz15_0
          try clear hfz15_1
          try clear hfz15_2
          try clear hfz16_0
          try clear hfz16_1
          try clear hfz16_2
          try clear hfz8_0
          try clear hfz8_1
          try clear hfz8_2
          try clear hfz9_0
          try clear hfz9_1
          try clear hfz9_2
          try clear p2
          obtain ⟨x5_2, rfl, HA, HK2, BK166, BK167, HB⟩ := hrel
          cases gk with
          | zero => exact absurd HA.out (by simp [tambourref04_Same.l0])
          | succ k2 =>
            have H := HA.out
            clear HA
            simp only [tambourref04_Same.l0] at H
            by_cases c18 : x5_2 < (l0_2.length : Int)
            · rw [if_pos c18] at H
              have c18b0 : decide (x5_2 < (l0_2.length : Int)) = true := decide_eq_true c18
              clear c18
              by_cases c19 : 0 ≤ x5_2
              · rw [if_pos c19] at H
                have c19b0 : decide (0 ≤ x5_2) = true := decide_eq_true c19
                clear c19
                by_cases c20 : x5_2 < (l1_2.length : Int)
                · rw [if_pos c20] at H
                  have c20b0 : decide (x5_2 < (l1_2.length : Int)) = true := decide_eq_true c20
                  clear c20
                  replace H := Option.bind_eq_some_iff.mp H
                  obtain ⟨t170, A210, H⟩ := H
                  replace H : (if t170 = true then (tambourref04_Same.l0 k2 (wrap64 (x5_2 + 1)) a0_0 a0_1 l0_2 a1_0 a1_1 l1_2) else (some false)) = some r := H
                  have A21 := Aside0.mk A210
                  clear A210
                  by_cases c22 : t170 = true
                  · subst c22
                    have H1 : (tambourref04_Same.l0 k2 (wrap64 (x5_2 + 1)) a0_0 a0_1 l0_2 a1_0 a1_1 l1_2) = some r := by rw [if_pos rfl] at H; exact H
                    clear H
                    have H := H1
                    clear H1
                    have H' := Aside0.mk H
                    clear H
                    have hnb23 := NB166_167.out
                    have hnc23 := NB167_166.out
                    have hcz24_0 : wr.cell? ⟨gb166, 0, none⟩ = some (.bool a0_0) := (blk_cell BK166.out 0).trans rfl
                    have hcz24_1 : wr.cell? ⟨gb166, 1, none⟩ = some (.string a0_1) := (blk_cell BK166.out 1).trans rfl
                    have hcz24_2 : wr.cell? ⟨gb166, 2, none⟩ = some (.slice A0_2 l0_2.length c0_2) := (blk_cell BK166.out 2).trans rfl
                    have hfz24_0 := blk_frozen BK166.out 0
                    have hfz24_1 := blk_frozen BK166.out 1
                    have hfz24_2 := blk_frozen BK166.out 2
                    try go_wp2
                    have n0_ := Aside0.mk (blk_drew BK166.out)
                    have n1_ := Aside0.mk (blk_drew BK167.out)
                    have n2_ := Aside0.mk (below_drew1 HB.out)
                    clear BK166
                    clear BK167
                    clear HB
                    have BK166 := n0_
                    have BK167 := n1_
                    have HB := n2_
                    clear n0_ n1_ n2_
                    have p168 : 0 ≤ (x5_2 : Int) := of_decide_eq_true (by first | (with_reducible assumption) | assumption)
                    have q168 : x5_2 < (l0_2.length : Int) := of_decide_eq_true (by first | (with_reducible assumption) | assumption)
                    obtain ⟨ad168, A168_2, c168_2, e168, hx168_0, hx168_1, hx168_2, hl168_2, hi168_2⟩ := at_T24 HR0_2.out x5_2 p168 q168
                    have hw168_2 := hx168_2
                    have hw168_1 := hx168_1
                    have hw168_0 := hx168_0
                    cases e168
                    replace hx168_0 := (HB.out.cell (World.block_lt_of_cell? w _ hx168_0)).trans hx168_0
                    replace hx168_1 := (HB.out.cell (World.block_lt_of_cell? w _ hx168_1)).trans hx168_1
                    replace hx168_2 := (HB.out.cell (World.block_lt_of_cell? w _ hx168_2)).trans hx168_2
                    have HR168_2 := Aside0.mk hi168_2
                    have HC168_2 := Aside0.mk hl168_2
                    clear hi168_2 hl168_2
                    replace p168 := eq_true p168
                    replace q168 := eq_true q168
                    have p169 : 0 ≤ (x5_2 : Int) := of_decide_eq_true (by first | (with_reducible assumption) | assumption)
                    have q169 : x5_2 < (l1_2.length : Int) := of_decide_eq_true (by first | (with_reducible assumption) | assumption)
                    obtain ⟨ad169, A169_2, c169_2, e169, hx169_0, hx169_1, hx169_2, hl169_2, hi169_2⟩ := at_T24 HR1_2.out x5_2 p169 q169
                    have hw169_2 := hx169_2
                    have hw169_1 := hx169_1
                    have hw169_0 := hx169_0
                    cases e169
                    replace hx169_0 := (HB.out.cell (World.block_lt_of_cell? w _ hx169_0)).trans hx169_0
                    replace hx169_1 := (HB.out.cell (World.block_lt_of_cell? w _ hx169_1)).trans hx169_1
                    replace hx169_2 := (HB.out.cell (World.block_lt_of_cell? w _ hx169_2)).trans hx169_2
                    have HR169_2 := Aside0.mk hi169_2
                    have HC169_2 := Aside0.mk hl169_2
                    clear hi169_2 hl169_2
                    replace p169 := eq_true p169
                    replace q169 := eq_true q169
                    refine start_ (n := 12) (S := fun w' => w'.cell? ⟨gb166, 0, none⟩ = some (.bool a0_0) ∧ w'.cell? ⟨gb166, 1, none⟩ = some (.string a0_1) ∧ w'.cell? ⟨gb166, 2, none⟩ = some (.slice (some ad168) l0_2.length c0_2) ∧ w'.cell? ⟨gb167, 0, none⟩ = some (.bool a1_0) ∧ w'.cell? ⟨gb167, 1, none⟩ = some (.string a1_1) ∧ w'.cell? ⟨gb167, 2, none⟩ = some (.slice (some ad169) l1_2.length c1_2) ∧ w'.cell? (ad168.add ((x5_2).toNat * 3)) = some (.bool ((rd_T24 l0_2 x5_2).f0)) ∧ w'.cell? ⟨(ad168.add ((x5_2).toNat * 3)).block, (ad168.add ((x5_2).toNat * 3)).off + 1, none⟩ = some (.string ((rd_T24 l0_2 x5_2).f1)) ∧ w'.cell? ⟨(ad168.add ((x5_2).toNat * 3)).block, (ad168.add ((x5_2).toNat * 3)).off + 2, none⟩ = some (.slice A168_2 ((rd_T24 l0_2 x5_2).f2).length c168_2) ∧ w'.cell? (ad169.add ((x5_2).toNat * 3)) = some (.bool ((rd_T24 l1_2 x5_2).f0)) ∧ w'.cell? ⟨(ad169.add ((x5_2).toNat * 3)).block, (ad169.add ((x5_2).toNat * 3)).off + 1, none⟩ = some (.string ((rd_T24 l1_2 x5_2).f1)) ∧ w'.cell? ⟨(ad169.add ((x5_2).toNat * 3)).block, (ad169.add ((x5_2).toNat * 3)).off + 2, none⟩ = some (.slice A169_2 ((rd_T24 l1_2 x5_2).f2).length c169_2)) (ds := []) #[false, false, false, false, false, false, false, false, false, false, false, false] (by kernel_rfl) rfl rfl ⟨(blk_cell BK166.out 0).trans rfl, (blk_cell BK166.out 1).trans rfl, (blk_cell BK166.out 2).trans rfl, (blk_cell BK167.out 0).trans rfl, (blk_cell BK167.out 1).trans rfl, (blk_cell BK167.out 2).trans rfl, ((HB.out.cell (World.block_lt_of_cell? w _ hw168_0)).trans hw168_0), ((HB.out.cell (World.block_lt_of_cell? w _ hw168_1)).trans hw168_1), ((HB.out.cell (World.block_lt_of_cell? w _ hw168_2)).trans hw168_2), ((HB.out.cell (World.block_lt_of_cell? w _ hw169_0)).trans hw169_0), ((HB.out.cell (World.block_lt_of_cell? w _ hw169_1)).trans hw169_1), ((HB.out.cell (World.block_lt_of_cell? w _ hw169_2)).trans hw169_2)⟩ (fun hHeld => ?_); refine with_tabW tambourref04_Same.tab6 tambourref04_Same.bits6 (fun HT_ HW_ => ?_)
                    generalize wr.drew = w25 at BK166 BK167 HB HR168_2 HR169_2 hx168_0 hx168_1 hx168_2 hx169_0 hx169_1 hx169_2 hHeld ⊢
                    refine pure_ (i := 0) (N := some 34) (v := ?_) (a' := ?_) #[true, false, false, false, false, false, false, false, false, false, false, false] rfl rfl (any_of HT_.out (by kernel_rfl)) (fun _ _ _ h => h) (Or.inl ⟨by rfl, ?_⟩) ?_ ?_
                    rotate_left
                    · intro w'
                      go_simp
                      with_reducible rfl
                    rotate_left
                    · simp only [Act.put, List.setIfInBounds_toArray, List.set_cons_zero, List.set_cons_succ, i64_w, i32_w]
                      rfl
                    refine pure_ (i := 2) (N := some 36) (v := ?_) (a' := ?_) #[true, false, true, false, false, false, false, false, false, false, false, false] rfl rfl (any_of HT_.out (by kernel_rfl)) (fun _ _ _ h => h) (Or.inl ⟨by rfl, ?_⟩) ?_ ?_
                    rotate_left
                    · intro w'
                      go_simp
                      with_reducible rfl
                    rotate_left
                    · simp only [Act.put, List.setIfInBounds_toArray, List.set_cons_zero, List.set_cons_succ, i64_w, i32_w]
                      rfl
                    refine pure_ (i := 5) (N := some 39) (v := ?_) (a' := ?_) #[true, false, true, false, false, true, false, false, false, false, false, false] rfl rfl (any_of HT_.out (by kernel_rfl)) (fun _ _ _ h => h) (Or.inl ⟨by rfl, ?_⟩) ?_ ?_
                    rotate_left
                    · intro w'
                      go_simp
                      with_reducible rfl
                    rotate_left
                    · simp only [Act.put, List.setIfInBounds_toArray, List.set_cons_zero, List.set_cons_succ, i64_w, i32_w]
                      rfl
                    refine pure_ (i := 7) (N := some 41) (v := ?_) (a' := ?_) #[true, false, true, false, false, true, false, true, false, false, false, false] rfl rfl (any_of HT_.out (by kernel_rfl)) (fun _ _ _ h => h) (Or.inl ⟨by rfl, ?_⟩) ?_ ?_
                    rotate_left
                    · intro w'
                      go_simp
                      with_reducible rfl
                    rotate_left
                    · simp only [Act.put, List.setIfInBounds_toArray, List.set_cons_zero, List.set_cons_succ, i64_w, i32_w]
                      rfl
                    refine take_ (i := 1) (N := some 35) (v := ?_) (a' := ?_) #[true, true, true, false, false, true, false, true, false, false, false, false] rfl rfl (take_ofW HT_.out HW_.out (by kernel_rfl)) (fun _ _ _ h => h) (Or.inl ⟨by rfl, ?_⟩) hHeld ?_ ?_
                    rotate_left
                    · rintro w' ⟨s0, s1, s2, s3, s4, s5, s6, s7, s8, s9, s10, s11⟩
                      go_simp
                      with_reducible rfl
                    rotate_left
                    · simp only [Act.put, List.setIfInBounds_toArray, List.set_cons_zero, List.set_cons_succ, i64_w, i32_w]
                      rfl
                    refine pure_ (i := 3) (N := some 37) (v := ?_) (a' := ?_) #[true, true, true, true, false, true, false, true, false, false, false, false] rfl rfl (any_of HT_.out (by kernel_rfl)) (fun _ _ _ h => h) (Or.inl ⟨by rfl, ?_⟩) ?_ ?_
                    rotate_left
                    · intro w'
                      go_simp
                      with_reducible rfl
                    rotate_left
                    · simp only [Act.put, List.setIfInBounds_toArray, List.set_cons_zero, List.set_cons_succ, i64_w, i32_w]
                      rfl
                    refine take_ (i := 4) (N := some 38) (v := ?_) (a' := ?_) #[true, true, true, true, true, true, false, true, false, false, false, false] rfl rfl (take_ofW HT_.out HW_.out (by kernel_rfl)) (fun _ _ _ h => h) (Or.inl ⟨by rfl, ?_⟩) hHeld ?_ ?_
                    rotate_left
                    · rintro w' ⟨s0, s1, s2, s3, s4, s5, s6, s7, s8, s9, s10, s11⟩
                      go_simp
                      with_reducible rfl
                    rotate_left
                    · simp only [Act.put, List.setIfInBounds_toArray, List.set_cons_zero, List.set_cons_succ, i64_w, i32_w]
                      rfl
                    refine take_ (i := 6) (N := some 40) (v := ?_) (a' := ?_) #[true, true, true, true, true, true, true, true, false, false, false, false] rfl rfl (take_ofW HT_.out HW_.out (by kernel_rfl)) (fun _ _ _ h => h) (Or.inl ⟨by rfl, ?_⟩) hHeld ?_ ?_
                    rotate_left
                    · rintro w' ⟨s0, s1, s2, s3, s4, s5, s6, s7, s8, s9, s10, s11⟩
                      go_simp
                      with_reducible rfl
                    rotate_left
                    · simp only [Act.put, List.setIfInBounds_toArray, List.set_cons_zero, List.set_cons_succ, i64_w, i32_w]
                      rfl
                    refine pure_ (i := 8) (N := some 42) (v := ?_) (a' := ?_) #[true, true, true, true, true, true, true, true, true, false, false, false] rfl rfl (any_of HT_.out (by kernel_rfl)) (fun _ _ _ h => h) (Or.inl ⟨by rfl, ?_⟩) ?_ ?_
                    rotate_left
                    · intro w'
                      go_simp
                      with_reducible rfl
                    rotate_left
                    · simp only [Act.put, List.setIfInBounds_toArray, List.set_cons_zero, List.set_cons_succ, i64_w, i32_w]
                      rfl
                    refine take_ (i := 9) (N := some 43) (v := ?_) (a' := ?_) #[true, true, true, true, true, true, true, true, true, true, false, false] rfl rfl (take_ofW HT_.out HW_.out (by kernel_rfl)) (fun _ _ _ h => h) (Or.inl ⟨by rfl, ?_⟩) hHeld ?_ ?_
                    rotate_left
                    · rintro w' ⟨s0, s1, s2, s3, s4, s5, s6, s7, s8, s9, s10, s11⟩
                      go_simp
                      with_reducible rfl
                    rotate_left
                    · simp only [Act.put, List.setIfInBounds_toArray, List.set_cons_zero, List.set_cons_succ, i64_w, i32_w]
                      rfl
                    refine one_ (i := 10) (N := some 44) #[true, true, true, true, true, true, true, true, true, true, true, false] rfl rfl (one_of HT_.out (by kernel_rfl)) (by decide) (fun K hK => ?_)
                    refine goes_ Tryd.func11 (by kernel_rfl) rfl #[.agg #[.bool ((rd_T24 l0_2 x5_2).f0), .string ((rd_T24 l0_2 x5_2).f1), .slice A168_2 ((rd_T24 l0_2 x5_2).f2).length c168_2], .agg #[.bool ((rd_T24 l1_2 x5_2).f0), .string ((rd_T24 l1_2 x5_2).f1), .slice A169_2 ((rd_T24 l1_2 x5_2).f2).length c169_2]] (by rfl) rfl rfl (by (try simp only [List.map_toArray, List.map_cons, List.map_nil]); first | done | rfl | (simp only [List.length_drop, List.length_take]; rfl)) ?_
                    with_reducible refine (ih k2 (by have := HJ2.out; have := HK2.out; omega) ((rd_T24 l0_2 x5_2).f0) ((rd_T24 l0_2 x5_2).f1) _ _ ((rd_T24 l0_2 x5_2).f2) ((rd_T24 l1_2 x5_2).f0) ((rd_T24 l1_2 x5_2).f1) _ _ ((rd_T24 l1_2 x5_2).f2) true _ ?side1 ?side2 ?side3 ?side4 A21.out).mono ?_
                    (case side1 => repeat (first | exact (Kd.C_below HR168_2.out HB.out) | (with_reducible refine Kd.C_alloc ?_ _) | (with_reducible refine Kd.C_drewN ?_ _) | (with_reducible refine Kd.C_drew ?_)))
                    (case side2 => exact HC168_2.out)
                    (case side3 => repeat (first | exact (Kd.C_below HR169_2.out HB.out) | (with_reducible refine Kd.C_alloc ?_ _) | (with_reducible refine Kd.C_drewN ?_ _) | (with_reducible refine Kd.C_drew ?_)))
                    (case side4 => exact HC169_2.out)
                    rintro e w26 ⟨rfl, hb⟩
                    refine ⟨_, rfl, ?_⟩
                    have n0_ := Aside0.mk (blk_below (g := gb166) (o := .cells #[.bool a0_0, .string a0_1, .slice (some ad168) l0_2.length c0_2] 24 (0, 0)) (by (with_reducible repeat (first | refine blk_drewN ?_ _ | refine blk_drew ?_ | refine blk_alloc ?_ _)); exact BK166.out) hb)
                    have n1_ := Aside0.mk (blk_below (g := gb167) (o := .cells #[.bool a1_0, .string a1_1, .slice (some ad169) l1_2.length c1_2] 24 (0, 0)) (by (with_reducible repeat (first | refine blk_drewN ?_ _ | refine blk_drew ?_ | refine blk_alloc ?_ _)); exact BK167.out) hb)
                    have n2_ := Aside0.mk (below_step (by repeat (first | (with_reducible first | exact HB.out | apply below_alloc | apply pw_below_drewN | apply below_drew1 | refine below_set ?_ GE166.out | refine below_set ?_ GE167.out) | exact HB.out)) hb)
                    clear BK166
                    clear BK167
                    clear HB
                    have BK166 := n0_
                    have BK167 := n1_
                    have HB := n2_
                    clear n0_ n1_ n2_
                    (try clear hb)
                    (try clear hb2)
                    (try clear hk)
                    (try clear hi)
                    refine hK.out _ _ ⟨(blk_cell BK166.out 0).trans rfl, (blk_cell BK166.out 1).trans rfl, (blk_cell BK166.out 2).trans rfl, (blk_cell BK167.out 0).trans rfl, (blk_cell BK167.out 1).trans rfl, (blk_cell BK167.out 2).trans rfl, ((HB.out.cell (World.block_lt_of_cell? w _ hw168_0)).trans hw168_0), ((HB.out.cell (World.block_lt_of_cell? w _ hw168_1)).trans hw168_1), ((HB.out.cell (World.block_lt_of_cell? w _ hw168_2)).trans hw168_2), ((HB.out.cell (World.block_lt_of_cell? w _ hw169_0)).trans hw169_0), ((HB.out.cell (World.block_lt_of_cell? w _ hw169_1)).trans hw169_1), ((HB.out.cell (World.block_lt_of_cell? w _ hw169_2)).trans hw169_2)⟩ (fun hHeld => ?_)
                    clear hK K
                    refine norm_ (a' := ?_) ?_ ?_
                    rotate_left
                    · show Act.put _ (some 44) _ = _
                      simp only [Act.put, List.setIfInBounds_toArray, List.set_cons_zero, List.set_cons_succ, i64_w, i32_w]
                      rfl
                    refine pure_ (i := 11) (N := some 45) (v := ?_) (a' := ?_) #[true, true, true, true, true, true, true, true, true, true, true, true] rfl rfl (any_of HT_.out (by kernel_rfl)) (fun _ _ _ h => h) (Or.inl ⟨by rfl, ?_⟩) ?_ ?_
                    rotate_left
                    · intro w'
                      go_simp
                      with_reducible rfl
                    rotate_left
                    · simp only [Act.put, List.setIfInBounds_toArray, List.set_cons_zero, List.set_cons_succ, i64_w, i32_w]
                      rfl
                    refine done_ (done_of HT_.out (by kernel_rfl)) ?_
                    try go_wp2
                    go_roundg k2
                    case measure => have := HJ2.out; have := HK2.out; omega
                    case rel => exact ⟨(wrap64 (x5_2 + 1)), (by first | rfl | (simp; done) | (simp [*]; done)), H', ⟨by have := HJ2.out; have := HK2.out; omega⟩, ⟨by (with_reducible repeat (first | refine blk_drewN ?_ _ | refine blk_drew ?_ | refine blk_alloc ?_ _)); exact BK166.out⟩, ⟨by (with_reducible repeat (first | refine blk_drewN ?_ _ | refine blk_drew ?_ | refine blk_alloc ?_ _)); exact BK167.out⟩, ⟨by repeat (first | (with_reducible first | exact HB.out | apply below_alloc | apply pw_below_drewN | apply below_drew1 | refine below_set ?_ GE166.out | refine below_set ?_ GE167.out) | exact HB.out)⟩⟩
                  · replace c22 := Bool.eq_false_iff.mpr c22
                    subst c22
                    have H1 : (some false) = some r := by rw [if_neg (show ¬ (false = true) by decide)] at H; exact H
                    clear H
                    have H := H1
                    clear H1
                    obtain rfl := Option.some.inj H
                    have hnb27 := NB166_167.out
                    have hnc27 := NB167_166.out
                    have hcz28_0 : wr.cell? ⟨gb166, 0, none⟩ = some (.bool a0_0) := (blk_cell BK166.out 0).trans rfl
                    have hcz28_1 : wr.cell? ⟨gb166, 1, none⟩ = some (.string a0_1) := (blk_cell BK166.out 1).trans rfl
                    have hcz28_2 : wr.cell? ⟨gb166, 2, none⟩ = some (.slice A0_2 l0_2.length c0_2) := (blk_cell BK166.out 2).trans rfl
                    have hfz28_0 := blk_frozen BK166.out 0
                    have hfz28_1 := blk_frozen BK166.out 1
                    have hfz28_2 := blk_frozen BK166.out 2
                    try go_wp2
                    have n0_ := Aside0.mk (blk_drew BK166.out)
                    have n1_ := Aside0.mk (blk_drew BK167.out)
                    have n2_ := Aside0.mk (below_drew1 HB.out)
                    clear BK166
                    clear BK167
                    clear HB
                    have BK166 := n0_
                    have BK167 := n1_
                    have HB := n2_
                    clear n0_ n1_ n2_
                    have p168 : 0 ≤ (x5_2 : Int) := of_decide_eq_true (by first | (with_reducible assumption) | assumption)
                    have q168 : x5_2 < (l0_2.length : Int) := of_decide_eq_true (by first | (with_reducible assumption) | assumption)
                    obtain ⟨ad168, A168_2, c168_2, e168, hx168_0, hx168_1, hx168_2, hl168_2, hi168_2⟩ := at_T24 HR0_2.out x5_2 p168 q168
                    have hw168_2 := hx168_2
                    have hw168_1 := hx168_1
                    have hw168_0 := hx168_0
                    cases e168
                    replace hx168_0 := (HB.out.cell (World.block_lt_of_cell? w _ hx168_0)).trans hx168_0
                    replace hx168_1 := (HB.out.cell (World.block_lt_of_cell? w _ hx168_1)).trans hx168_1
                    replace hx168_2 := (HB.out.cell (World.block_lt_of_cell? w _ hx168_2)).trans hx168_2
                    have HR168_2 := Aside0.mk hi168_2
                    have HC168_2 := Aside0.mk hl168_2
                    clear hi168_2 hl168_2
                    replace p168 := eq_true p168
                    replace q168 := eq_true q168
                    have p169 : 0 ≤ (x5_2 : Int) := of_decide_eq_true (by first | (with_reducible assumption) | assumption)
                    have q169 : x5_2 < (l1_2.length : Int) := of_decide_eq_true (by first | (with_reducible assumption) | assumption)
                    obtain ⟨ad169, A169_2, c169_2, e169, hx169_0, hx169_1, hx169_2, hl169_2, hi169_2⟩ := at_T24 HR1_2.out x5_2 p169 q169
                    have hw169_2 := hx169_2
                    have hw169_1 := hx169_1
                    have hw169_0 := hx169_0
                    cases e169
                    replace hx169_0 := (HB.out.cell (World.block_lt_of_cell? w _ hx169_0)).trans hx169_0
                    replace hx169_1 := (HB.out.cell (World.block_lt_of_cell? w _ hx169_1)).trans hx169_1
                    replace hx169_2 := (HB.out.cell (World.block_lt_of_cell? w _ hx169_2)).trans hx169_2
                    have HR169_2 := Aside0.mk hi169_2
                    have HC169_2 := Aside0.mk hl169_2
                    clear hi169_2 hl169_2
                    replace p169 := eq_true p169
                    replace q169 := eq_true q169
                    refine start_ (n := 12) (S := fun w' => w'.cell? ⟨gb166, 0, none⟩ = some (.bool a0_0) ∧ w'.cell? ⟨gb166, 1, none⟩ = some (.string a0_1) ∧ w'.cell? ⟨gb166, 2, none⟩ = some (.slice (some ad168) l0_2.length c0_2) ∧ w'.cell? ⟨gb167, 0, none⟩ = some (.bool a1_0) ∧ w'.cell? ⟨gb167, 1, none⟩ = some (.string a1_1) ∧ w'.cell? ⟨gb167, 2, none⟩ = some (.slice (some ad169) l1_2.length c1_2) ∧ w'.cell? (ad168.add ((x5_2).toNat * 3)) = some (.bool ((rd_T24 l0_2 x5_2).f0)) ∧ w'.cell? ⟨(ad168.add ((x5_2).toNat * 3)).block, (ad168.add ((x5_2).toNat * 3)).off + 1, none⟩ = some (.string ((rd_T24 l0_2 x5_2).f1)) ∧ w'.cell? ⟨(ad168.add ((x5_2).toNat * 3)).block, (ad168.add ((x5_2).toNat * 3)).off + 2, none⟩ = some (.slice A168_2 ((rd_T24 l0_2 x5_2).f2).length c168_2) ∧ w'.cell? (ad169.add ((x5_2).toNat * 3)) = some (.bool ((rd_T24 l1_2 x5_2).f0)) ∧ w'.cell? ⟨(ad169.add ((x5_2).toNat * 3)).block, (ad169.add ((x5_2).toNat * 3)).off + 1, none⟩ = some (.string ((rd_T24 l1_2 x5_2).f1)) ∧ w'.cell? ⟨(ad169.add ((x5_2).toNat * 3)).block, (ad169.add ((x5_2).toNat * 3)).off + 2, none⟩ = some (.slice A169_2 ((rd_T24 l1_2 x5_2).f2).length c169_2)) (ds := []) #[false, false, false, false, false, false, false, false, false, false, false, false] (by kernel_rfl) rfl rfl ⟨(blk_cell BK166.out 0).trans rfl, (blk_cell BK166.out 1).trans rfl, (blk_cell BK166.out 2).trans rfl, (blk_cell BK167.out 0).trans rfl, (blk_cell BK167.out 1).trans rfl, (blk_cell BK167.out 2).trans rfl, ((HB.out.cell (World.block_lt_of_cell? w _ hw168_0)).trans hw168_0), ((HB.out.cell (World.block_lt_of_cell? w _ hw168_1)).trans hw168_1), ((HB.out.cell (World.block_lt_of_cell? w _ hw168_2)).trans hw168_2), ((HB.out.cell (World.block_lt_of_cell? w _ hw169_0)).trans hw169_0), ((HB.out.cell (World.block_lt_of_cell? w _ hw169_1)).trans hw169_1), ((HB.out.cell (World.block_lt_of_cell? w _ hw169_2)).trans hw169_2)⟩ (fun hHeld => ?_); refine with_tabW tambourref04_Same.tab6 tambourref04_Same.bits6 (fun HT_ HW_ => ?_)
                    generalize wr.drew = w29 at BK166 BK167 HB HR168_2 HR169_2 hx168_0 hx168_1 hx168_2 hx169_0 hx169_1 hx169_2 hHeld ⊢
                    refine pure_ (i := 0) (N := some 34) (v := ?_) (a' := ?_) #[true, false, false, false, false, false, false, false, false, false, false, false] rfl rfl (any_of HT_.out (by kernel_rfl)) (fun _ _ _ h => h) (Or.inl ⟨by rfl, ?_⟩) ?_ ?_
                    rotate_left
                    · intro w'
                      go_simp
                      with_reducible rfl
                    rotate_left
                    · simp only [Act.put, List.setIfInBounds_toArray, List.set_cons_zero, List.set_cons_succ, i64_w, i32_w]
                      rfl
                    refine pure_ (i := 2) (N := some 36) (v := ?_) (a' := ?_) #[true, false, true, false, false, false, false, false, false, false, false, false] rfl rfl (any_of HT_.out (by kernel_rfl)) (fun _ _ _ h => h) (Or.inl ⟨by rfl, ?_⟩) ?_ ?_
                    rotate_left
                    · intro w'
                      go_simp
                      with_reducible rfl
                    rotate_left
                    · simp only [Act.put, List.setIfInBounds_toArray, List.set_cons_zero, List.set_cons_succ, i64_w, i32_w]
                      rfl
                    refine pure_ (i := 5) (N := some 39) (v := ?_) (a' := ?_) #[true, false, true, false, false, true, false, false, false, false, false, false] rfl rfl (any_of HT_.out (by kernel_rfl)) (fun _ _ _ h => h) (Or.inl ⟨by rfl, ?_⟩) ?_ ?_
                    rotate_left
                    · intro w'
                      go_simp
                      with_reducible rfl
                    rotate_left
                    · simp only [Act.put, List.setIfInBounds_toArray, List.set_cons_zero, List.set_cons_succ, i64_w, i32_w]
                      rfl
                    refine pure_ (i := 7) (N := some 41) (v := ?_) (a' := ?_) #[true, false, true, false, false, true, false, true, false, false, false, false] rfl rfl (any_of HT_.out (by kernel_rfl)) (fun _ _ _ h => h) (Or.inl ⟨by rfl, ?_⟩) ?_ ?_
                    rotate_left
                    · intro w'
                      go_simp
                      with_reducible rfl
                    rotate_left
                    · simp only [Act.put, List.setIfInBounds_toArray, List.set_cons_zero, List.set_cons_succ, i64_w, i32_w]
                      rfl
                    refine take_ (i := 1) (N := some 35) (v := ?_) (a' := ?_) #[true, true, true, false, false, true, false, true, false, false, false, false] rfl rfl (take_ofW HT_.out HW_.out (by kernel_rfl)) (fun _ _ _ h => h) (Or.inl ⟨by rfl, ?_⟩) hHeld ?_ ?_
                    rotate_left
                    · rintro w' ⟨s0, s1, s2, s3, s4, s5, s6, s7, s8, s9, s10, s11⟩
                      go_simp
                      with_reducible rfl
                    rotate_left
                    · simp only [Act.put, List.setIfInBounds_toArray, List.set_cons_zero, List.set_cons_succ, i64_w, i32_w]
                      rfl
                    refine pure_ (i := 3) (N := some 37) (v := ?_) (a' := ?_) #[true, true, true, true, false, true, false, true, false, false, false, false] rfl rfl (any_of HT_.out (by kernel_rfl)) (fun _ _ _ h => h) (Or.inl ⟨by rfl, ?_⟩) ?_ ?_
                    rotate_left
                    · intro w'
                      go_simp
                      with_reducible rfl
                    rotate_left
                    · simp only [Act.put, List.setIfInBounds_toArray, List.set_cons_zero, List.set_cons_succ, i64_w, i32_w]
                      rfl
                    refine take_ (i := 4) (N := some 38) (v := ?_) (a' := ?_) #[true, true, true, true, true, true, false, true, false, false, false, false] rfl rfl (take_ofW HT_.out HW_.out (by kernel_rfl)) (fun _ _ _ h => h) (Or.inl ⟨by rfl, ?_⟩) hHeld ?_ ?_
                    rotate_left
                    · rintro w' ⟨s0, s1, s2, s3, s4, s5, s6, s7, s8, s9, s10, s11⟩
                      go_simp
                      with_reducible rfl
                    rotate_left
                    · simp only [Act.put, List.setIfInBounds_toArray, List.set_cons_zero, List.set_cons_succ, i64_w, i32_w]
                      rfl
                    refine take_ (i := 6) (N := some 40) (v := ?_) (a' := ?_) #[true, true, true, true, true, true, true, true, false, false, false, false] rfl rfl (take_ofW HT_.out HW_.out (by kernel_rfl)) (fun _ _ _ h => h) (Or.inl ⟨by rfl, ?_⟩) hHeld ?_ ?_
                    rotate_left
                    · rintro w' ⟨s0, s1, s2, s3, s4, s5, s6, s7, s8, s9, s10, s11⟩
                      go_simp
                      with_reducible rfl
                    rotate_left
                    · simp only [Act.put, List.setIfInBounds_toArray, List.set_cons_zero, List.set_cons_succ, i64_w, i32_w]
                      rfl
                    refine pure_ (i := 8) (N := some 42) (v := ?_) (a' := ?_) #[true, true, true, true, true, true, true, true, true, false, false, false] rfl rfl (any_of HT_.out (by kernel_rfl)) (fun _ _ _ h => h) (Or.inl ⟨by rfl, ?_⟩) ?_ ?_
                    rotate_left
                    · intro w'
                      go_simp
                      with_reducible rfl
                    rotate_left
                    · simp only [Act.put, List.setIfInBounds_toArray, List.set_cons_zero, List.set_cons_succ, i64_w, i32_w]
                      rfl
                    refine take_ (i := 9) (N := some 43) (v := ?_) (a' := ?_) #[true, true, true, true, true, true, true, true, true, true, false, false] rfl rfl (take_ofW HT_.out HW_.out (by kernel_rfl)) (fun _ _ _ h => h) (Or.inl ⟨by rfl, ?_⟩) hHeld ?_ ?_
                    rotate_left
                    · rintro w' ⟨s0, s1, s2, s3, s4, s5, s6, s7, s8, s9, s10, s11⟩
                      go_simp
                      with_reducible rfl
                    rotate_left
                    · simp only [Act.put, List.setIfInBounds_toArray, List.set_cons_zero, List.set_cons_succ, i64_w, i32_w]
                      rfl
                    refine one_ (i := 10) (N := some 44) #[true, true, true, true, true, true, true, true, true, true, true, false] rfl rfl (one_of HT_.out (by kernel_rfl)) (by decide) (fun K hK => ?_)
                    refine goes_ Tryd.func11 (by kernel_rfl) rfl #[.agg #[.bool ((rd_T24 l0_2 x5_2).f0), .string ((rd_T24 l0_2 x5_2).f1), .slice A168_2 ((rd_T24 l0_2 x5_2).f2).length c168_2], .agg #[.bool ((rd_T24 l1_2 x5_2).f0), .string ((rd_T24 l1_2 x5_2).f1), .slice A169_2 ((rd_T24 l1_2 x5_2).f2).length c169_2]] (by rfl) rfl rfl (by (try simp only [List.map_toArray, List.map_cons, List.map_nil]); first | done | rfl | (simp only [List.length_drop, List.length_take]; rfl)) ?_
                    with_reducible refine (ih k2 (by have := HJ2.out; have := HK2.out; omega) ((rd_T24 l0_2 x5_2).f0) ((rd_T24 l0_2 x5_2).f1) _ _ ((rd_T24 l0_2 x5_2).f2) ((rd_T24 l1_2 x5_2).f0) ((rd_T24 l1_2 x5_2).f1) _ _ ((rd_T24 l1_2 x5_2).f2) false _ ?side1 ?side2 ?side3 ?side4 A21.out).mono ?_
                    (case side1 => repeat (first | exact (Kd.C_below HR168_2.out HB.out) | (with_reducible refine Kd.C_alloc ?_ _) | (with_reducible refine Kd.C_drewN ?_ _) | (with_reducible refine Kd.C_drew ?_)))
                    (case side2 => exact HC168_2.out)
                    (case side3 => repeat (first | exact (Kd.C_below HR169_2.out HB.out) | (with_reducible refine Kd.C_alloc ?_ _) | (with_reducible refine Kd.C_drewN ?_ _) | (with_reducible refine Kd.C_drew ?_)))
                    (case side4 => exact HC169_2.out)
                    rintro e w30 ⟨rfl, hb⟩
                    refine ⟨_, rfl, ?_⟩
                    have n0_ := Aside0.mk (blk_below (g := gb166) (o := .cells #[.bool a0_0, .string a0_1, .slice (some ad168) l0_2.length c0_2] 24 (0, 0)) (by (with_reducible repeat (first | refine blk_drewN ?_ _ | refine blk_drew ?_ | refine blk_alloc ?_ _)); exact BK166.out) hb)
                    have n1_ := Aside0.mk (blk_below (g := gb167) (o := .cells #[.bool a1_0, .string a1_1, .slice (some ad169) l1_2.length c1_2] 24 (0, 0)) (by (with_reducible repeat (first | refine blk_drewN ?_ _ | refine blk_drew ?_ | refine blk_alloc ?_ _)); exact BK167.out) hb)
                    have n2_ := Aside0.mk (below_step (by repeat (first | (with_reducible first | exact HB.out | apply below_alloc | apply pw_below_drewN | apply below_drew1 | refine below_set ?_ GE166.out | refine below_set ?_ GE167.out) | exact HB.out)) hb)
                    clear BK166
                    clear BK167
                    clear HB
                    have BK166 := n0_
                    have BK167 := n1_
                    have HB := n2_
                    clear n0_ n1_ n2_
                    (try clear hb)
                    (try clear hb2)
                    (try clear hk)
                    (try clear hi)
                    refine hK.out _ _ ⟨(blk_cell BK166.out 0).trans rfl, (blk_cell BK166.out 1).trans rfl, (blk_cell BK166.out 2).trans rfl, (blk_cell BK167.out 0).trans rfl, (blk_cell BK167.out 1).trans rfl, (blk_cell BK167.out 2).trans rfl, ((HB.out.cell (World.block_lt_of_cell? w _ hw168_0)).trans hw168_0), ((HB.out.cell (World.block_lt_of_cell? w _ hw168_1)).trans hw168_1), ((HB.out.cell (World.block_lt_of_cell? w _ hw168_2)).trans hw168_2), ((HB.out.cell (World.block_lt_of_cell? w _ hw169_0)).trans hw169_0), ((HB.out.cell (World.block_lt_of_cell? w _ hw169_1)).trans hw169_1), ((HB.out.cell (World.block_lt_of_cell? w _ hw169_2)).trans hw169_2)⟩ (fun hHeld => ?_)
                    clear hK K
                    refine norm_ (a' := ?_) ?_ ?_
                    rotate_left
                    · show Act.put _ (some 44) _ = _
                      simp only [Act.put, List.setIfInBounds_toArray, List.set_cons_zero, List.set_cons_succ, i64_w, i32_w]
                      rfl
                    refine pure_ (i := 11) (N := some 45) (v := ?_) (a' := ?_) #[true, true, true, true, true, true, true, true, true, true, true, true] rfl rfl (any_of HT_.out (by kernel_rfl)) (fun _ _ _ h => h) (Or.inl ⟨by rfl, ?_⟩) ?_ ?_
                    rotate_left
                    · intro w'
                      go_simp
                      with_reducible rfl
                    rotate_left
                    · simp only [Act.put, List.setIfInBounds_toArray, List.set_cons_zero, List.set_cons_succ, i64_w, i32_w]
                      rfl
                    refine done_ (done_of HT_.out (by kernel_rfl)) ?_
                    try go_wp2
                    go_ret
                    exact ⟨by first | rfl | (simp [errW_none, errW_some] <;> rfl) | (simp [*, errW_none, errW_some] <;> rfl), by repeat (first | (with_reducible first | exact HB.out | apply below_alloc | apply pw_below_drewN | apply below_drew1 | refine below_set ?_ GE166.out | refine below_set ?_ GE167.out) | exact HB.out)⟩
                · rw [if_neg c20] at H
                  exact absurd H (by simp)
              · rw [if_neg c19] at H
                exact absurd H (by simp)
            · rw [if_neg c18] at H
              have c18b0 : decide (x5_2 < (l0_2.length : Int)) = false := decide_eq_false c18
              clear c18
              obtain rfl := Option.some.inj H
              have hnb31 := NB166_167.out
              have hnc31 := NB167_166.out
              have hcz32_0 : wr.cell? ⟨gb166, 0, none⟩ = some (.bool a0_0) := (blk_cell BK166.out 0).trans rfl
              have hcz32_1 : wr.cell? ⟨gb166, 1, none⟩ = some (.string a0_1) := (blk_cell BK166.out 1).trans rfl
              have hcz32_2 : wr.cell? ⟨gb166, 2, none⟩ = some (.slice A0_2 l0_2.length c0_2) := (blk_cell BK166.out 2).trans rfl
              have hfz32_0 := blk_frozen BK166.out 0
              have hfz32_1 := blk_frozen BK166.out 1
              have hfz32_2 := blk_frozen BK166.out 2
              go_wp2
              go_ret
              exact ⟨by first | rfl | (simp [errW_none, errW_some] <;> rfl) | (simp [*, errW_none, errW_some] <;> rfl), by repeat (first | (with_reducible first | exact HB.out | apply below_alloc | apply pw_below_drewN | apply below_drew1 | refine below_set ?_ GE166.out | refine below_set ?_ GE167.out) | exact HB.out)⟩

-- NOT PRINTED: function 3 (tambourlaw04_FormApart)

end Go.Proofs.YtehghdmfdinpjaaDoor.PAll
