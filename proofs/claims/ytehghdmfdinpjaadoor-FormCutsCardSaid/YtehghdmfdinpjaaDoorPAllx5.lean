-- Written by a program of this session (wip/t/fprint.py), which runs the kit's printer with some functions proved by hand.
import Derived.Test.YtehghdmfdinpjaaDoorPAllx0
import Derived.Test.YtehghdmfdinpjaaDoorPAllx4
namespace Go.Proofs.YtehghdmfdinpjaaDoor.PAll
open Go.RowKit Go.Proofs.YtehghdmfdinpjaaDoorW.PrintWords Go.Proofs.YtehghdmfdinpjaaDoorW.PrintLast Go.Proofs.YtehghdmfdinpjaaDoorW.PrintMore
attribute [local go_sem] max2_int min2_int max_two min_two max_three min_three max_four min_four   -- for this text's walks alone
set_option linter.unusedVariables false
set_option linter.unusedSimpArgs false

/-! ### tambourref04_bytes: function 30 -/
mutual
def tambourref04_bytes.l0 : Nat → ByteArray → Int → Bool → ByteArray → List (S24) → Option (ByteArray)
  | 0, _, _, _, _, _ => none
  | k + 1, x3, x4, x189000, x189001, x189002 => if x4 < (x189002.length : Int) then (if 0 ≤ x4 then ((tambourref04_bytes.f k ((rd_T24 x189002 x4).f0) ((rd_T24 x189002 x4).f1) ((rd_T24 x189002 x4).f2)).bind fun t191 => (if x3.size + t191.size ≤ 9223372036854775807 then (tambourref04_bytes.l0 k (x3 ++ t191) (wrap64 (x4 + 1)) x189000 x189001 x189002) else (none))) else (none)) else (if x3.size + 1 ≤ 9223372036854775807 then (some (x3 ++ (⟨#[41]⟩ : ByteArray))) else (none))
def tambourref04_bytes.f : Nat → Bool → ByteArray → List (S24) → Option (ByteArray)
  | 0, _, _, _ => none
  | k + 1, a0_0, a0_1, l0_2 => if a0_0 = true then (tambourref04_bytes.l0 k (⟨#[40]⟩ : ByteArray) 0 a0_0 a0_1 l0_2) else ((tambourref04_Digits.f k (a0_1.size : Int)).bind fun t189 => (if t189.size + 1 ≤ 9223372036854775807 then (if (t189 ++ (⟨#[58]⟩ : ByteArray)).size + a0_1.size ≤ 9223372036854775807 then (some ((t189 ++ (⟨#[58]⟩ : ByteArray)) ++ a0_1)) else (none)) else (none)))
end
theorem tambourref04_bytes.mono_l : ∀ k, (∀ y0 y1 y2, LeO (tambourref04_bytes.f k y0 y1 y2) (tambourref04_bytes.f (k + 1) y0 y1 y2)) ∧ (∀ y0 y1 y2 y3 y4, LeO (tambourref04_bytes.l0 k y0 y1 y2 y3 y4) (tambourref04_bytes.l0 (k + 1) y0 y1 y2 y3 y4))
  | 0 => ⟨fun _ _ _ r h => by simp [tambourref04_bytes.f] at h, fun _ _ _ _ _ r h => by simp [tambourref04_bytes.l0] at h⟩
  | k + 1 => by
    obtain ⟨ih0, ih1⟩ := tambourref04_bytes.mono_l k
    refine ⟨?_, ?_⟩
    · intro y0 y1 y2
      unfold tambourref04_bytes.f
      repeat' first
      | (with_reducible exact ih0 _ _ _)
      | (with_reducible exact ih1 _ _ _ _ _)
      | (with_reducible exact tambourref04_Digits.mono _ _)
      | (with_reducible exact LeO.refl _)
      | (with_reducible exact LeO.none _)
      | (with_reducible refine LeO.ite ?_ ?_)
      | (with_reducible refine LeO.bind ?_ (fun _ => ?_))
      | exact ih0 _ _ _
      | exact ih1 _ _ _ _ _
      | exact tambourref04_Digits.mono _ _
      | exact LeO.none _
      | refine LeO.ite ?_ ?_
      | refine LeO.bind ?_ (fun _ => ?_)
    · intro y0 y1 y2 y3 y4
      unfold tambourref04_bytes.l0
      repeat' first
      | (with_reducible exact ih0 _ _ _)
      | (with_reducible exact ih1 _ _ _ _ _)
      | (with_reducible exact tambourref04_Digits.mono _ _)
      | (with_reducible exact LeO.refl _)
      | (with_reducible exact LeO.none _)
      | (with_reducible refine LeO.ite ?_ ?_)
      | (with_reducible refine LeO.bind ?_ (fun _ => ?_))
      | exact ih0 _ _ _
      | exact ih1 _ _ _ _ _
      | exact tambourref04_Digits.mono _ _
      | exact LeO.none _
      | refine LeO.ite ?_ ?_
      | refine LeO.bind ?_ (fun _ => ?_)
theorem tambourref04_bytes.mono : ∀ a0 a1 a2 k, LeO (tambourref04_bytes.f k a0 a1 a2) (tambourref04_bytes.f (k + 1) a0 a1 a2) := by
  intro a0 a1 a2 k
  obtain ⟨ih0, ih1⟩ := tambourref04_bytes.mono_l k
  exact ih0 a0 a1 a2
def tambourref04_bytes.T2 : Bool × List (List Nat × List Nat) := (true, [([], []), ([0], [0]), ([1], [1]), ([2], [2]), ([3], [3]), ([], []), ([5], [5]), ([4, 6], [4, 6]), ([7, 3, 0, 1, 2, 3, 4, 5, 6, 7], [7])])
def tambourref04_bytes.B2 : List Nat := [0, 1, 3, 7, 15, 0, 32, 127, 255]
theorem tambourref04_bytes.tab2 : rtab .any (opsOf Tryd.f30 2) = tambourref04_bytes.T2 := by kernel_rfl
theorem tambourref04_bytes.bits2 : waitsOk tambourref04_bytes.T2.2 tambourref04_bytes.B2 = true := by kernel_rfl
set_option maxHeartbeats 8000000 in
set_option maxRecDepth 100000 in
theorem tambourref04_bytes.calls (k : Nat) : ∀ (a0_0 : Bool) (a0_1 : ByteArray) (A0_2 : Option Addr) (c0_2 : Nat) (l0_2 : List (S24)) (r : ByteArray) (w : World) (hr0_2 : Kd.C k24 w A0_2 l0_2.length l0_2) (hc0_2 : l0_2.length ≤ c0_2) (h : tambourref04_bytes.f k a0_0 a0_1 l0_2 = some r),
    Calls Tryd.prog 30 #[.agg #[.bool a0_0, .string a0_1, .slice A0_2 l0_2.length c0_2]] w fun e w' => e = .returned (.string r) ∧ Below w.heap.size w w' := by
  induction k using Nat.strongRecOn with
  | _ k ih =>
  intro a0_0 a0_1 A0_2 c0_2 l0_2 r w hr0_2 hc0_2 h
  cases k with
  | zero => exact absurd h (by simp [tambourref04_bytes.f])
  | succ k =>
  simp only [tambourref04_bytes.f] at h
  have hu24 := Tryd.underlying24
  have HR0_2 := Aside0.mk hr0_2
  have HC0_2 := Aside0.mk hc0_2
  clear hr0_2 hc0_2
  have HB := Aside0.mk (Below.refl w.heap.size w)
  have H : (if a0_0 = true then (tambourref04_bytes.l0 k (⟨#[40]⟩ : ByteArray) 0 a0_0 a0_1 l0_2) else ((tambourref04_Digits.f k (a0_1.size : Int)).bind fun t189 => (if t189.size + 1 ≤ 9223372036854775807 then (if (t189 ++ (⟨#[58]⟩ : ByteArray)).size + a0_1.size ≤ 9223372036854775807 then (some ((t189 ++ (⟨#[58]⟩ : ByteArray)) ++ a0_1)) else (none)) else (none)))) = some r := h
  clear h
  by_cases c2 : a0_0 = true
  · subst c2
    have H1 : (tambourref04_bytes.l0 k (⟨#[40]⟩ : ByteArray) 0 true a0_1 l0_2) = some r := by rw [if_pos rfl] at H; exact H
    clear H
    have H := H1
    clear H1
    have H' := Aside0.mk H
    clear H
    go_enter Tryd.func30, Tryd.ntmps30
    go_wp2_with (first | ((with_reducible refine gate_dst (N := 1) rfl ?_); refine box_event ?hg (N := 1) ?hd (cs := #[.bool true, .string a0_1, .slice A0_2 l0_2.length c0_2]) (t := 24) ?hr ?_; (case hd => rfl); (case hg => rfl); (case hr => first | (go_simp; done) | (go_simp; rfl)); intro gb188 hg w3 hbox hb; have n0_ := Aside0.mk (below_step (by repeat (first | (with_reducible first | exact HB.out | apply below_alloc | apply pw_below_drewN | apply below_drew1) | exact HB.out)) hb); have n1_ := Aside0.mk (hbox); have n2_ := Aside0.mk ((by rw [hg]; exact (below_size (by repeat (first | (with_reducible first | exact HB.out | apply below_alloc | apply pw_below_drewN | apply below_drew1) | exact HB.out))) : w.heap.size ≤ gb188)); have n3_ := Aside0.mk ((by rw [hg]; exact (below_size (by repeat (first | (with_reducible first | exact HB.out | apply below_alloc | apply pw_below_drewN | apply below_drew1) | exact HB.out))) : w.heap.size ≤ gb188)); clear HB; have HB := n0_; have BK188 := n1_; have GW188 := n2_; have GE188 := n3_; clear n0_ n1_ n2_ n3_; clear hb hbox hg; have hcz4_0 : w3.cell? ⟨gb188, 0, none⟩ = some (.bool true) := (blk_cell BK188.out 0).trans rfl; have hcz4_1 : w3.cell? ⟨gb188, 1, none⟩ = some (.string a0_1) := (blk_cell BK188.out 1).trans rfl; have hcz4_2 : w3.cell? ⟨gb188, 2, none⟩ = some (.slice A0_2 l0_2.length c0_2) := (blk_cell BK188.out 2).trans rfl; have hfz4_0 := blk_frozen BK188.out 0; have hfz4_1 := blk_frozen BK188.out 1; have hfz4_2 := blk_frozen BK188.out 2))
    go_loopg [3, 4] k (fun kq v3 v4 w' => ∃ (x3_1 : ByteArray) (x4_1 : Int), v3 = .string x3_1 ∧ v4 = .int .i64 x4_1 ∧ Aside0 (tambourref04_bytes.l0 kq x3_1 x4_1 true a0_1 l0_2 = some r) ∧ Aside0 (kq ≤ k) ∧ Aside0 (w'.heap[gb188]? = some (.cells #[.bool true, .string a0_1, (.slice A0_2 l0_2.length c0_2)] 24 (0, 0))) ∧ Aside0 (Below w.heap.size w w'))
    case atStart => exact ⟨((⟨#[40]⟩ : ByteArray)), (0), (by first | rfl | (simp; done) | (simp [*]; done)), (by first | rfl | (simp; done) | (simp [*]; done)), H', ⟨Nat.le_refl _⟩, ⟨by (with_reducible repeat (first | refine blk_drewN ?_ _ | refine blk_drew ?_ | refine blk_alloc ?_ _)); exact BK188.out⟩, ⟨by repeat (first | (with_reducible first | exact HB.out | apply below_alloc | apply pw_below_drewN | apply below_drew1 | refine below_set ?_ GE188.out) | exact HB.out)⟩⟩
    case round =>
      clear H'
      try clear c2
      try clear p2
      try clear c3
      try clear hcz4_0
      try clear hcz4_1
      try clear hcz4_2
      try clear hfz4_0
      try clear hfz4_1
      try clear hfz4_2
      obtain ⟨x3_1, x4_1, rfl, rfl, HA, HK1, BK188, HB⟩ := hrel
      cases gk with
      | zero => exact absurd HA.out (by simp [tambourref04_bytes.l0])
      | succ k1 =>
        have H := HA.out
        clear HA
        simp only [tambourref04_bytes.l0] at H
        by_cases c5 : x4_1 < (l0_2.length : Int)
        · rw [if_pos c5] at H
          have c5b0 : decide (x4_1 < (l0_2.length : Int)) = true := decide_eq_true c5
          clear c5
          by_cases c6 : 0 ≤ x4_1
          · rw [if_pos c6] at H
            have c6b0 : decide (0 ≤ x4_1) = true := decide_eq_true c6
            clear c6
            replace H := Option.bind_eq_some_iff.mp H
            obtain ⟨t191, A70, H⟩ := H
            replace H : (if x3_1.size + t191.size ≤ 9223372036854775807 then (tambourref04_bytes.l0 k1 (x3_1 ++ t191) (wrap64 (x4_1 + 1)) true a0_1 l0_2) else (none)) = some r := H
            have A7 := Aside0.mk A70
            clear A70
            by_cases c8 : x3_1.size + t191.size ≤ 9223372036854775807
            · rw [if_pos c8] at H
              have c8b0 := eq_true c8
              have c8b1 : decide (x3_1.size + t191.size ≤ 9223372036854775807) = true := decide_eq_true c8
              try have c8b2 : (9223372036854775807 < x3_1.size + t191.size) = False := eq_false (Nat.not_lt.2 c8)
              have H' := Aside0.mk H
              clear H
              have hcz9_0 : wr.cell? ⟨gb188, 0, none⟩ = some (.bool true) := (blk_cell BK188.out 0).trans rfl
              have hcz9_1 : wr.cell? ⟨gb188, 1, none⟩ = some (.string a0_1) := (blk_cell BK188.out 1).trans rfl
              have hcz9_2 : wr.cell? ⟨gb188, 2, none⟩ = some (.slice A0_2 l0_2.length c0_2) := (blk_cell BK188.out 2).trans rfl
              have hfz9_0 := blk_frozen BK188.out 0
              have hfz9_1 := blk_frozen BK188.out 1
              have hfz9_2 := blk_frozen BK188.out 2
              have p190 : 0 ≤ (x4_1 : Int) := of_decide_eq_true (by first | (with_reducible assumption) | assumption)
              have q190 : x4_1 < (l0_2.length : Int) := of_decide_eq_true (by first | (with_reducible assumption) | assumption)
              obtain ⟨ad190, A190_2, c190_2, e190, hx190_0, hx190_1, hx190_2, hl190_2, hi190_2⟩ := at_T24 HR0_2.out x4_1 p190 q190
              cases e190
              replace hx190_0 := (HB.out.cell (World.block_lt_of_cell? w _ hx190_0)).trans hx190_0
              replace hx190_1 := (HB.out.cell (World.block_lt_of_cell? w _ hx190_1)).trans hx190_1
              replace hx190_2 := (HB.out.cell (World.block_lt_of_cell? w _ hx190_2)).trans hx190_2
              have HR190_2 := Aside0.mk hi190_2
              have HC190_2 := Aside0.mk hl190_2
              clear hi190_2 hl190_2
              replace p190 := eq_true p190
              replace q190 := eq_true q190
              go_wp2_with (first | ((with_reducible refine gate_callee (f := 30) rfl ?_); refine goesL_ (some 29) rfl rfl Tryd.func30 (by kernel_rfl) rfl #[.agg #[.bool ((rd_T24 l0_2 x4_1).f0), .string ((rd_T24 l0_2 x4_1).f1), .slice A190_2 ((rd_T24 l0_2 x4_1).f2).length c190_2]] rfl (by (try simp only [List.map_toArray, List.map_cons, List.map_nil]); first | done | rfl | (simp only [List.length_drop, List.length_take]; rfl)) ?_; (with_reducible refine (ih k1 (by have := HK1.out; omega) ((rd_T24 l0_2 x4_1).f0) ((rd_T24 l0_2 x4_1).f1) _ _ ((rd_T24 l0_2 x4_1).f2) t191 _ ?side1 ?side2 A7.out).mono ?_); (case side1 => repeat (first | exact (Kd.C_below HR190_2.out HB.out) | (with_reducible refine Kd.C_alloc ?_ _) | (with_reducible refine Kd.C_drewN ?_ _) | (with_reducible refine Kd.C_drew ?_))); (case side2 => exact HC190_2.out); rintro e w10 ⟨rfl, hb⟩; refine ⟨_, rfl, ?_⟩; have n0_ := Aside0.mk (blk_below (g := gb188) (o := .cells #[.bool true, .string a0_1, .slice (some ad190) l0_2.length c0_2] 24 (0, 0)) (by (with_reducible repeat (first | refine blk_drewN ?_ _ | refine blk_drew ?_ | refine blk_alloc ?_ _)); exact BK188.out) hb); have n1_ := Aside0.mk (below_step (by repeat (first | (with_reducible first | exact HB.out | apply below_alloc | apply pw_below_drewN | apply below_drew1 | refine below_set ?_ GE188.out) | exact HB.out)) hb); clear BK188; clear HB; have BK188 := n0_; have HB := n1_; clear n0_ n1_; (try clear hb); (try clear hb2); (try clear hk); (try clear hi)))
              go_roundg k1
              case measure => have := HK1.out; omega
              case rel => exact ⟨(x3_1 ++ t191), (wrap64 (x4_1 + 1)), (by first | rfl | (simp; done) | (simp [*]; done)), (by first | rfl | (simp; done) | (simp [*]; done)), H', ⟨by have := HK1.out; omega⟩, ⟨by (with_reducible repeat (first | refine blk_drewN ?_ _ | refine blk_drew ?_ | refine blk_alloc ?_ _)); exact BK188.out⟩, ⟨by repeat (first | (with_reducible first | exact HB.out | apply below_alloc | apply pw_below_drewN | apply below_drew1 | refine below_set ?_ GE188.out) | exact HB.out)⟩⟩
            · rw [if_neg c8] at H
              exact absurd H (by simp)
          · rw [if_neg c6] at H
            exact absurd H (by simp)
        · rw [if_neg c5] at H
          have c5b0 : decide (x4_1 < (l0_2.length : Int)) = false := decide_eq_false c5
          clear c5
          by_cases c11 : x3_1.size + 1 ≤ 9223372036854775807
          · rw [if_pos c11] at H
            have c11b0 := eq_true c11
            have c11b1 : decide (x3_1.size + 1 ≤ 9223372036854775807) = true := decide_eq_true c11
            try have c11b2 : (9223372036854775807 < x3_1.size + 1) = False := eq_false (Nat.not_lt.2 c11)
            obtain rfl := Option.some.inj H
            have hcz12_0 : wr.cell? ⟨gb188, 0, none⟩ = some (.bool true) := (blk_cell BK188.out 0).trans rfl
            have hcz12_1 : wr.cell? ⟨gb188, 1, none⟩ = some (.string a0_1) := (blk_cell BK188.out 1).trans rfl
            have hcz12_2 : wr.cell? ⟨gb188, 2, none⟩ = some (.slice A0_2 l0_2.length c0_2) := (blk_cell BK188.out 2).trans rfl
            have hfz12_0 := blk_frozen BK188.out 0
            have hfz12_1 := blk_frozen BK188.out 1
            have hfz12_2 := blk_frozen BK188.out 2
            go_wp2
            go_ret
            exact ⟨by first | rfl | (simp [errW_none, errW_some] <;> rfl) | (simp [*, errW_none, errW_some] <;> rfl), by repeat (first | (with_reducible first | exact HB.out | apply below_alloc | apply pw_below_drewN | apply below_drew1 | refine below_set ?_ GE188.out) | exact HB.out)⟩
          · rw [if_neg c11] at H
            exact absurd H (by simp)
  · replace c2 := Bool.eq_false_iff.mpr c2
    subst c2
    have H1 : ((tambourref04_Digits.f k (a0_1.size : Int)).bind fun t189 => (if t189.size + 1 ≤ 9223372036854775807 then (if (t189 ++ (⟨#[58]⟩ : ByteArray)).size + a0_1.size ≤ 9223372036854775807 then (some ((t189 ++ (⟨#[58]⟩ : ByteArray)) ++ a0_1)) else (none)) else (none))) = some r := by rw [if_neg (show ¬ (false = true) by decide)] at H; exact H
    clear H
    have H := H1
    clear H1
    replace H := Option.bind_eq_some_iff.mp H
    obtain ⟨t189, A130, H⟩ := H
    replace H : (if t189.size + 1 ≤ 9223372036854775807 then (if (t189 ++ (⟨#[58]⟩ : ByteArray)).size + a0_1.size ≤ 9223372036854775807 then (some ((t189 ++ (⟨#[58]⟩ : ByteArray)) ++ a0_1)) else (none)) else (none)) = some r := H
    have A13 := Aside0.mk A130
    clear A130
    by_cases c14 : t189.size + 1 ≤ 9223372036854775807
    · rw [if_pos c14] at H
      have c14b0 := eq_true c14
      have c14b1 : decide (t189.size + 1 ≤ 9223372036854775807) = true := decide_eq_true c14
      try have c14b2 : (9223372036854775807 < t189.size + 1) = False := eq_false (Nat.not_lt.2 c14)
      by_cases c15 : (t189 ++ (⟨#[58]⟩ : ByteArray)).size + a0_1.size ≤ 9223372036854775807
      · rw [if_pos c15] at H
        have c15b0 := eq_true c15
        have c15b1 : decide ((t189 ++ (⟨#[58]⟩ : ByteArray)).size + a0_1.size ≤ 9223372036854775807) = true := decide_eq_true c15
        try have c15b2 : (9223372036854775807 < (t189 ++ (⟨#[58]⟩ : ByteArray)).size + a0_1.size) = False := eq_false (Nat.not_lt.2 c15)
        have c15b3 : (9223372036854775807 < t189.size + 1 + a0_1.size) = False := eq_false (Nat.not_lt.2 (by have := c15; rw [ByteArray.size_append] at this; exact this))
        obtain rfl := Option.some.inj H
        go_enter Tryd.func30, Tryd.ntmps30
        try go_wp2_with (first | ((with_reducible refine gate_dst (N := 1) rfl ?_); refine box_event ?hg (N := 1) ?hd (cs := #[.bool false, .string a0_1, .slice A0_2 l0_2.length c0_2]) (t := 24) ?hr ?_; (case hd => rfl); (case hg => rfl); (case hr => first | (go_simp; done) | (go_simp; rfl)); intro gb188 hg w16 hbox hb; have n0_ := Aside0.mk (below_step (by repeat (first | (with_reducible first | exact HB.out | apply below_alloc | apply pw_below_drewN | apply below_drew1) | exact HB.out)) hb); have n1_ := Aside0.mk (hbox); have n2_ := Aside0.mk ((by rw [hg]; exact (below_size (by repeat (first | (with_reducible first | exact HB.out | apply below_alloc | apply pw_below_drewN | apply below_drew1) | exact HB.out))) : w.heap.size ≤ gb188)); have n3_ := Aside0.mk ((by rw [hg]; exact (below_size (by repeat (first | (with_reducible first | exact HB.out | apply below_alloc | apply pw_below_drewN | apply below_drew1) | exact HB.out))) : w.heap.size ≤ gb188)); clear HB; have HB := n0_; have BK188 := n1_; have GW188 := n2_; have GE188 := n3_; clear n0_ n1_ n2_ n3_; clear hb hbox hg; have hcz17_0 : w16.cell? ⟨gb188, 0, none⟩ = some (.bool false) := (blk_cell BK188.out 0).trans rfl; have hcz17_1 : w16.cell? ⟨gb188, 1, none⟩ = some (.string a0_1) := (blk_cell BK188.out 1).trans rfl; have hcz17_2 : w16.cell? ⟨gb188, 2, none⟩ = some (.slice A0_2 l0_2.length c0_2) := (blk_cell BK188.out 2).trans rfl; have hfz17_0 := blk_frozen BK188.out 0; have hfz17_1 := blk_frozen BK188.out 1; have hfz17_2 := blk_frozen BK188.out 2))
        have n0_ := Aside0.mk (blk_drew BK188.out)
        have n1_ := Aside0.mk (below_drew1 HB.out)
        clear BK188
        clear HB
        have BK188 := n0_
        have HB := n1_
        clear n0_ n1_
        refine start_ (n := 9) (S := fun w' => w'.cell? ⟨gb188, 0, none⟩ = some (.bool false) ∧ w'.cell? ⟨gb188, 1, none⟩ = some (.string a0_1) ∧ w'.cell? ⟨gb188, 2, none⟩ = some (.slice A0_2 l0_2.length c0_2)) (ds := []) #[false, false, false, false, false, false, false, false, false] (by kernel_rfl) rfl rfl ⟨(blk_cell BK188.out 0).trans rfl, (blk_cell BK188.out 1).trans rfl, (blk_cell BK188.out 2).trans rfl⟩ (fun hHeld => ?_); refine with_tabW tambourref04_bytes.tab2 tambourref04_bytes.bits2 (fun HT_ HW_ => ?_)
        generalize w16.drew = w18 at BK188 HB hHeld ⊢
        refine pure_ (i := 0) (N := some 8) (v := ?_) (a' := ?_) #[true, false, false, false, false, false, false, false, false] rfl rfl (any_of HT_.out (by kernel_rfl)) (fun _ _ _ h => h) (Or.inl ⟨by rfl, ?_⟩) ?_ ?_
        rotate_left
        · intro w'
          go_simp
          with_reducible rfl
        rotate_left
        · simp only [Act.put, List.setIfInBounds_toArray, List.set_cons_zero, List.set_cons_succ, i64_w, i32_w]
          rfl
        refine pure_ (i := 5) (N := some 13) (v := ?_) (a' := ?_) #[true, false, false, false, false, true, false, false, false] rfl rfl (any_of HT_.out (by kernel_rfl)) (fun _ _ _ h => h) (Or.inl ⟨by rfl, ?_⟩) ?_ ?_
        rotate_left
        · intro w'
          go_simp
          with_reducible rfl
        rotate_left
        · simp only [Act.put, List.setIfInBounds_toArray, List.set_cons_zero, List.set_cons_succ, i64_w, i32_w]
          rfl
        refine take_ (i := 1) (N := some 9) (v := ?_) (a' := ?_) #[true, true, false, false, false, true, false, false, false] rfl rfl (take_ofW HT_.out HW_.out (by kernel_rfl)) (fun _ _ _ h => h) (Or.inl ⟨by rfl, ?_⟩) hHeld ?_ ?_
        rotate_left
        · rintro w' ⟨s0, s1, s2⟩
          go_simp
          with_reducible rfl
        rotate_left
        · simp only [Act.put, List.setIfInBounds_toArray, List.set_cons_zero, List.set_cons_succ, i64_w, i32_w]
          rfl
        refine pure_ (i := 2) (N := some 10) (v := ?_) (a' := ?_) #[true, true, true, false, false, true, false, false, false] rfl rfl (any_of HT_.out (by kernel_rfl)) (fun _ _ _ h => h) (Or.inl ⟨by rfl, ?_⟩) ?_ ?_
        rotate_left
        · intro w'
          go_simp
          with_reducible rfl
        rotate_left
        · simp only [Act.put, List.setIfInBounds_toArray, List.set_cons_zero, List.set_cons_succ, i64_w, i32_w]
          rfl
        refine take_ (i := 6) (N := some 14) (v := ?_) (a' := ?_) #[true, true, true, false, false, true, true, false, false] rfl rfl (take_ofW HT_.out HW_.out (by kernel_rfl)) (fun _ _ _ h => h) (Or.inl ⟨by rfl, ?_⟩) hHeld ?_ ?_
        rotate_left
        · rintro w' ⟨s0, s1, s2⟩
          go_simp
          with_reducible rfl
        rotate_left
        · simp only [Act.put, List.setIfInBounds_toArray, List.set_cons_zero, List.set_cons_succ, i64_w, i32_w]
          rfl
        refine one_ (i := 3) (N := some 11) #[true, true, true, true, false, true, true, false, false] rfl rfl (one_of HT_.out (by kernel_rfl)) (by decide) (fun K hK => ?_)
        refine goes_ Tryd.func37 (by kernel_rfl) rfl #[.int .i64 (a0_1.size : Int)] (by rfl) rfl rfl (by (try simp only [List.map_toArray, List.map_cons, List.map_nil]); first | done | rfl | (simp only [List.length_drop, List.length_take]; rfl)) ?_
        with_reducible refine (tambourref04_Digits.calls k (a0_1.size : Int) t189 _ A13.out).mono ?_
        rintro e w19 ⟨rfl, hb⟩
        refine ⟨_, rfl, ?_⟩
        have n0_ := Aside0.mk (blk_below (g := gb188) (o := .cells #[.bool false, .string a0_1, .slice A0_2 l0_2.length c0_2] 24 (0, 0)) (by (with_reducible repeat (first | refine blk_drewN ?_ _ | refine blk_drew ?_ | refine blk_alloc ?_ _)); exact BK188.out) hb)
        have n1_ := Aside0.mk (below_step (by repeat (first | (with_reducible first | exact HB.out | apply below_alloc | apply pw_below_drewN | apply below_drew1 | refine below_set ?_ GE188.out) | exact HB.out)) hb)
        clear BK188
        clear HB
        have BK188 := n0_
        have HB := n1_
        clear n0_ n1_
        (try clear hb)
        (try clear hb2)
        (try clear hk)
        (try clear hi)
        refine hK.out _ _ ⟨(blk_cell BK188.out 0).trans rfl, (blk_cell BK188.out 1).trans rfl, (blk_cell BK188.out 2).trans rfl⟩ (fun hHeld => ?_)
        clear hK K
        refine norm_ (a' := ?_) ?_ ?_
        rotate_left
        · show Act.put _ (some 11) _ = _
          simp only [Act.put, List.setIfInBounds_toArray, List.set_cons_zero, List.set_cons_succ, i64_w, i32_w]
          rfl
        refine pure_ (i := 4) (N := some 12) (v := ?_) (a' := ?_) #[true, true, true, true, true, true, true, false, false] rfl rfl (any_of HT_.out (by kernel_rfl)) (fun _ _ _ h => h) (Or.inl ⟨by rfl, ?_⟩) ?_ ?_
        rotate_left
        · intro w'
          go_simp
          with_reducible rfl
        rotate_left
        · simp only [Act.put, List.setIfInBounds_toArray, List.set_cons_zero, List.set_cons_succ, i64_w, i32_w]
          rfl
        refine pure_ (i := 7) (N := some 15) (v := ?_) (a' := ?_) #[true, true, true, true, true, true, true, true, false] rfl rfl (any_of HT_.out (by kernel_rfl)) (fun _ _ _ h => h) (Or.inl ⟨by rfl, ?_⟩) ?_ ?_
        rotate_left
        · intro w'
          go_simp
          with_reducible rfl
        rotate_left
        · simp only [Act.put, List.setIfInBounds_toArray, List.set_cons_zero, List.set_cons_succ, i64_w, i32_w]
          rfl
        refine pure_ (i := 8) (N := some 2) (v := ?_) (a' := ?_) #[true, true, true, true, true, true, true, true, true] rfl rfl (any_of HT_.out (by kernel_rfl)) (fun _ _ _ h => h) (Or.inl ⟨by rfl, ?_⟩) ?_ ?_
        rotate_left
        · intro w'
          go_simp
          with_reducible rfl
        rotate_left
        · simp only [Act.put, List.setIfInBounds_toArray, List.set_cons_zero, List.set_cons_succ, i64_w, i32_w]
          rfl
        refine done_ (done_of HT_.out (by kernel_rfl)) ?_
        try go_wp2
        go_ret
        exact ⟨by first | rfl | (simp [errW_none, errW_some] <;> rfl) | (simp [*, errW_none, errW_some] <;> rfl), by repeat (first | (with_reducible first | exact HB.out | apply below_alloc | apply pw_below_drewN | apply below_drew1 | refine below_set ?_ GE188.out) | exact HB.out)⟩
      · rw [if_neg c15] at H
        exact absurd H (by simp)
    · rw [if_neg c14] at H
      exact absurd H (by simp)

/-! ### tambourref04_Write: function 12 -/
def tambourref04_Write.f (k : Nat) (a0_0 : Bool) (a0_1 : ByteArray) (l0_2 : List (S24)) : Option (ByteArray × Int) := (tambourref04_right.f k a0_0 a0_1 l0_2).bind fun t193 => (if t193 = true then ((tambourref04_Depth.f k a0_0 a0_1 l0_2).bind fun t194 => (if t194 > 8 then (some ((⟨#[]⟩ : ByteArray), 2)) else ((tambourref04_size.f k a0_0 a0_1 l0_2).bind fun t195 => (if t195 > 65536 then (some ((⟨#[]⟩ : ByteArray), 2)) else ((tambourref04_bytes.f k a0_0 a0_1 l0_2).bind fun t196 => (some (t196, 0))))))) else (some ((⟨#[]⟩ : ByteArray), 1)))
theorem tambourref04_Write.mono : ∀ a0 a1 a2 k, LeO (tambourref04_Write.f k a0 a1 a2) (tambourref04_Write.f (k + 1) a0 a1 a2) := by
  intro a0 a1 a2 k
  unfold tambourref04_Write.f
  repeat' first
      | (with_reducible exact tambourref04_Depth.mono _ _ _ _)
      | (with_reducible exact tambourref04_bytes.mono _ _ _ _)
      | (with_reducible exact tambourref04_right.mono _ _ _ _)
      | (with_reducible exact tambourref04_size.mono _ _ _ _)
      | (with_reducible exact LeO.refl _)
      | (with_reducible exact LeO.none _)
      | (with_reducible refine LeO.ite ?_ ?_)
      | (with_reducible refine LeO.bind ?_ (fun _ => ?_))
      | exact tambourref04_Depth.mono _ _ _ _
      | exact tambourref04_bytes.mono _ _ _ _
      | exact tambourref04_right.mono _ _ _ _
      | exact tambourref04_size.mono _ _ _ _
      | exact LeO.none _
      | refine LeO.ite ?_ ?_
      | refine LeO.bind ?_ (fun _ => ?_)
set_option maxHeartbeats 8000000 in
set_option maxRecDepth 100000 in
theorem tambourref04_Write.calls (k : Nat) (a0_0 : Bool) (a0_1 : ByteArray) (A0_2 : Option Addr) (c0_2 : Nat) (l0_2 : List (S24)) (r1 : ByteArray) (r2 : Int) (w : World) (hr0_2 : Kd.C k24 w A0_2 l0_2.length l0_2) (hc0_2 : l0_2.length ≤ c0_2) (h : tambourref04_Write.f k a0_0 a0_1 l0_2 = some (r1, r2)) :
    Calls Tryd.prog 12 #[.agg #[.bool a0_0, .string a0_1, .slice A0_2 l0_2.length c0_2]] w fun e w' => e = .returned (.tuple #[.string r1, .int .i64 r2]) ∧ Below w.heap.size w w' := by
  have hu24 := Tryd.underlying24
  have HR0_2 := Aside0.mk hr0_2
  have HC0_2 := Aside0.mk hc0_2
  clear hr0_2 hc0_2
  have HB := Aside0.mk (Below.refl w.heap.size w)
  have H : ((tambourref04_right.f k a0_0 a0_1 l0_2).bind fun t193 => (if t193 = true then ((tambourref04_Depth.f k a0_0 a0_1 l0_2).bind fun t194 => (if t194 > 8 then (some ((⟨#[]⟩ : ByteArray), 2)) else ((tambourref04_size.f k a0_0 a0_1 l0_2).bind fun t195 => (if t195 > 65536 then (some ((⟨#[]⟩ : ByteArray), 2)) else ((tambourref04_bytes.f k a0_0 a0_1 l0_2).bind fun t196 => (some (t196, 0))))))) else (some ((⟨#[]⟩ : ByteArray), 1)))) = some (r1, r2) := h
  clear h
  replace H := Option.bind_eq_some_iff.mp H
  obtain ⟨t193, A20, H⟩ := H
  replace H : (if t193 = true then ((tambourref04_Depth.f k a0_0 a0_1 l0_2).bind fun t194 => (if t194 > 8 then (some ((⟨#[]⟩ : ByteArray), 2)) else ((tambourref04_size.f k a0_0 a0_1 l0_2).bind fun t195 => (if t195 > 65536 then (some ((⟨#[]⟩ : ByteArray), 2)) else ((tambourref04_bytes.f k a0_0 a0_1 l0_2).bind fun t196 => (some (t196, 0))))))) else (some ((⟨#[]⟩ : ByteArray), 1))) = some (r1, r2) := H
  have A2 := Aside0.mk A20
  clear A20
  by_cases c3 : t193 = true
  · subst c3
    have H1 : ((tambourref04_Depth.f k a0_0 a0_1 l0_2).bind fun t194 => (if t194 > 8 then (some ((⟨#[]⟩ : ByteArray), 2)) else ((tambourref04_size.f k a0_0 a0_1 l0_2).bind fun t195 => (if t195 > 65536 then (some ((⟨#[]⟩ : ByteArray), 2)) else ((tambourref04_bytes.f k a0_0 a0_1 l0_2).bind fun t196 => (some (t196, 0))))))) = some (r1, r2) := by rw [if_pos rfl] at H; exact H
    clear H
    have H := H1
    clear H1
    replace H := Option.bind_eq_some_iff.mp H
    obtain ⟨t194, A40, H⟩ := H
    replace H : (if t194 > 8 then (some ((⟨#[]⟩ : ByteArray), 2)) else ((tambourref04_size.f k a0_0 a0_1 l0_2).bind fun t195 => (if t195 > 65536 then (some ((⟨#[]⟩ : ByteArray), 2)) else ((tambourref04_bytes.f k a0_0 a0_1 l0_2).bind fun t196 => (some (t196, 0)))))) = some (r1, r2) := H
    have A4 := Aside0.mk A40
    clear A40
    by_cases c5 : t194 > 8
    · rw [if_pos c5] at H
      have c5b0 : decide (8 < t194) = true := decide_eq_true c5
      clear c5
      simp only [Option.some.injEq, Prod.mk.injEq] at H
      obtain ⟨rfl, rfl⟩ := H
      go_enter Tryd.func12, Tryd.ntmps12
      go_wp2_with (first | ((with_reducible refine gate_dst (N := 1) rfl ?_); refine box_event ?hg (N := 1) ?hd (cs := #[.bool a0_0, .string a0_1, .slice A0_2 l0_2.length c0_2]) (t := 24) ?hr ?_; (case hd => rfl); (case hg => rfl); (case hr => first | (go_simp; done) | (go_simp; rfl)); intro gb192 hg w6 hbox hb; have n0_ := Aside0.mk (below_step (by repeat (first | (with_reducible first | exact HB.out | apply below_alloc | apply pw_below_drewN | apply below_drew1) | exact HB.out)) hb); have n1_ := Aside0.mk (hbox); have n2_ := Aside0.mk ((by rw [hg]; exact (below_size (by repeat (first | (with_reducible first | exact HB.out | apply below_alloc | apply pw_below_drewN | apply below_drew1) | exact HB.out))) : w.heap.size ≤ gb192)); have n3_ := Aside0.mk ((by rw [hg]; exact (below_size (by repeat (first | (with_reducible first | exact HB.out | apply below_alloc | apply pw_below_drewN | apply below_drew1) | exact HB.out))) : w.heap.size ≤ gb192)); clear HB; have HB := n0_; have BK192 := n1_; have GW192 := n2_; have GE192 := n3_; clear n0_ n1_ n2_ n3_; clear hb hbox hg; have hcz7_0 : w6.cell? ⟨gb192, 0, none⟩ = some (.bool a0_0) := (blk_cell BK192.out 0).trans rfl; have hcz7_1 : w6.cell? ⟨gb192, 1, none⟩ = some (.string a0_1) := (blk_cell BK192.out 1).trans rfl; have hcz7_2 : w6.cell? ⟨gb192, 2, none⟩ = some (.slice A0_2 l0_2.length c0_2) := (blk_cell BK192.out 2).trans rfl; have hfz7_0 := blk_frozen BK192.out 0; have hfz7_1 := blk_frozen BK192.out 1; have hfz7_2 := blk_frozen BK192.out 2) | ((with_reducible refine gate_callee (f := 27) rfl ?_); refine goesL_ (some 5) rfl rfl Tryd.func27 (by kernel_rfl) rfl #[.agg #[.bool a0_0, .string a0_1, .slice A0_2 l0_2.length c0_2]] rfl (by (try simp only [List.map_toArray, List.map_cons, List.map_nil]); first | done | rfl | (simp only [List.length_drop, List.length_take]; rfl)) ?_; (with_reducible refine (tambourref04_right.calls k a0_0 a0_1 _ _ l0_2 true _ ?side1 ?side2 A2.out).mono ?_); (case side1 => repeat (first | exact (Kd.C_below HR0_2.out HB.out) | (with_reducible refine Kd.C_alloc ?_ _) | (with_reducible refine Kd.C_drewN ?_ _) | (with_reducible refine Kd.C_drew ?_))); (case side2 => exact HC0_2.out); rintro e w8 ⟨rfl, hb⟩; refine ⟨_, rfl, ?_⟩; have n0_ := Aside0.mk (blk_below (g := gb192) (o := .cells #[.bool a0_0, .string a0_1, .slice A0_2 l0_2.length c0_2] 24 (0, 0)) (by (with_reducible repeat (first | refine blk_drewN ?_ _ | refine blk_drew ?_ | refine blk_alloc ?_ _)); exact BK192.out) hb); have n1_ := Aside0.mk (below_step (by repeat (first | (with_reducible first | exact HB.out | apply below_alloc | apply pw_below_drewN | apply below_drew1 | refine below_set ?_ GE192.out) | exact HB.out)) hb); clear BK192; clear HB; have BK192 := n0_; have HB := n1_; clear n0_ n1_; (try clear hb); (try clear hb2); (try clear hk); (try clear hi); have hcz9_0 : w8.cell? ⟨gb192, 0, none⟩ = some (.bool a0_0) := (blk_cell BK192.out 0).trans rfl; have hcz9_1 : w8.cell? ⟨gb192, 1, none⟩ = some (.string a0_1) := (blk_cell BK192.out 1).trans rfl; have hcz9_2 : w8.cell? ⟨gb192, 2, none⟩ = some (.slice A0_2 l0_2.length c0_2) := (blk_cell BK192.out 2).trans rfl; have hfz9_0 := blk_frozen BK192.out 0; have hfz9_1 := blk_frozen BK192.out 1; have hfz9_2 := blk_frozen BK192.out 2) | ((with_reducible refine gate_callee (f := 28) rfl ?_); refine goesL_ (some 8) rfl rfl Tryd.func28 (by kernel_rfl) rfl #[.agg #[.bool a0_0, .string a0_1, .slice A0_2 l0_2.length c0_2]] rfl (by (try simp only [List.map_toArray, List.map_cons, List.map_nil]); first | done | rfl | (simp only [List.length_drop, List.length_take]; rfl)) ?_; (with_reducible refine (tambourref04_Depth.calls k a0_0 a0_1 _ _ l0_2 t194 _ ?side1 ?side2 A4.out).mono ?_); (case side1 => repeat (first | exact (Kd.C_below HR0_2.out HB.out) | (with_reducible refine Kd.C_alloc ?_ _) | (with_reducible refine Kd.C_drewN ?_ _) | (with_reducible refine Kd.C_drew ?_))); (case side2 => exact HC0_2.out); rintro e w10 ⟨rfl, hb⟩; refine ⟨_, rfl, ?_⟩; have n0_ := Aside0.mk (blk_below (g := gb192) (o := .cells #[.bool a0_0, .string a0_1, .slice A0_2 l0_2.length c0_2] 24 (0, 0)) (by (with_reducible repeat (first | refine blk_drewN ?_ _ | refine blk_drew ?_ | refine blk_alloc ?_ _)); exact BK192.out) hb); have n1_ := Aside0.mk (below_step (by repeat (first | (with_reducible first | exact HB.out | apply below_alloc | apply pw_below_drewN | apply below_drew1 | refine below_set ?_ GE192.out) | exact HB.out)) hb); clear BK192; clear HB; have BK192 := n0_; have HB := n1_; clear n0_ n1_; (try clear hb); (try clear hb2); (try clear hk); (try clear hi)))
      go_ret2
      exact ⟨by first | rfl | (simp [errW_none, errW_some] <;> rfl) | (simp [*, errW_none, errW_some] <;> rfl), by repeat (first | (with_reducible first | exact HB.out | apply below_alloc | apply pw_below_drewN | apply below_drew1 | refine below_set ?_ GE192.out) | exact HB.out)⟩
    · rw [if_neg c5] at H
      have c5b0 : decide (8 < t194) = false := decide_eq_false c5
      clear c5
      replace H := Option.bind_eq_some_iff.mp H
      obtain ⟨t195, A110, H⟩ := H
      replace H : (if t195 > 65536 then (some ((⟨#[]⟩ : ByteArray), 2)) else ((tambourref04_bytes.f k a0_0 a0_1 l0_2).bind fun t196 => (some (t196, 0)))) = some (r1, r2) := H
      have A11 := Aside0.mk A110
      clear A110
      by_cases c12 : t195 > 65536
      · rw [if_pos c12] at H
        have c12b0 : decide (65536 < t195) = true := decide_eq_true c12
        clear c12
        simp only [Option.some.injEq, Prod.mk.injEq] at H
        obtain ⟨rfl, rfl⟩ := H
        go_enter Tryd.func12, Tryd.ntmps12
        go_wp2_with (first | ((with_reducible refine gate_dst (N := 1) rfl ?_); refine box_event ?hg (N := 1) ?hd (cs := #[.bool a0_0, .string a0_1, .slice A0_2 l0_2.length c0_2]) (t := 24) ?hr ?_; (case hd => rfl); (case hg => rfl); (case hr => first | (go_simp; done) | (go_simp; rfl)); intro gb192 hg w13 hbox hb; have n0_ := Aside0.mk (below_step (by repeat (first | (with_reducible first | exact HB.out | apply below_alloc | apply pw_below_drewN | apply below_drew1) | exact HB.out)) hb); have n1_ := Aside0.mk (hbox); have n2_ := Aside0.mk ((by rw [hg]; exact (below_size (by repeat (first | (with_reducible first | exact HB.out | apply below_alloc | apply pw_below_drewN | apply below_drew1) | exact HB.out))) : w.heap.size ≤ gb192)); have n3_ := Aside0.mk ((by rw [hg]; exact (below_size (by repeat (first | (with_reducible first | exact HB.out | apply below_alloc | apply pw_below_drewN | apply below_drew1) | exact HB.out))) : w.heap.size ≤ gb192)); clear HB; have HB := n0_; have BK192 := n1_; have GW192 := n2_; have GE192 := n3_; clear n0_ n1_ n2_ n3_; clear hb hbox hg; have hcz14_0 : w13.cell? ⟨gb192, 0, none⟩ = some (.bool a0_0) := (blk_cell BK192.out 0).trans rfl; have hcz14_1 : w13.cell? ⟨gb192, 1, none⟩ = some (.string a0_1) := (blk_cell BK192.out 1).trans rfl; have hcz14_2 : w13.cell? ⟨gb192, 2, none⟩ = some (.slice A0_2 l0_2.length c0_2) := (blk_cell BK192.out 2).trans rfl; have hfz14_0 := blk_frozen BK192.out 0; have hfz14_1 := blk_frozen BK192.out 1; have hfz14_2 := blk_frozen BK192.out 2) | ((with_reducible refine gate_callee (f := 27) rfl ?_); refine goesL_ (some 5) rfl rfl Tryd.func27 (by kernel_rfl) rfl #[.agg #[.bool a0_0, .string a0_1, .slice A0_2 l0_2.length c0_2]] rfl (by (try simp only [List.map_toArray, List.map_cons, List.map_nil]); first | done | rfl | (simp only [List.length_drop, List.length_take]; rfl)) ?_; (with_reducible refine (tambourref04_right.calls k a0_0 a0_1 _ _ l0_2 true _ ?side1 ?side2 A2.out).mono ?_); (case side1 => repeat (first | exact (Kd.C_below HR0_2.out HB.out) | (with_reducible refine Kd.C_alloc ?_ _) | (with_reducible refine Kd.C_drewN ?_ _) | (with_reducible refine Kd.C_drew ?_))); (case side2 => exact HC0_2.out); rintro e w15 ⟨rfl, hb⟩; refine ⟨_, rfl, ?_⟩; have n0_ := Aside0.mk (blk_below (g := gb192) (o := .cells #[.bool a0_0, .string a0_1, .slice A0_2 l0_2.length c0_2] 24 (0, 0)) (by (with_reducible repeat (first | refine blk_drewN ?_ _ | refine blk_drew ?_ | refine blk_alloc ?_ _)); exact BK192.out) hb); have n1_ := Aside0.mk (below_step (by repeat (first | (with_reducible first | exact HB.out | apply below_alloc | apply pw_below_drewN | apply below_drew1 | refine below_set ?_ GE192.out) | exact HB.out)) hb); clear BK192; clear HB; have BK192 := n0_; have HB := n1_; clear n0_ n1_; (try clear hb); (try clear hb2); (try clear hk); (try clear hi); have hcz16_0 : w15.cell? ⟨gb192, 0, none⟩ = some (.bool a0_0) := (blk_cell BK192.out 0).trans rfl; have hcz16_1 : w15.cell? ⟨gb192, 1, none⟩ = some (.string a0_1) := (blk_cell BK192.out 1).trans rfl; have hcz16_2 : w15.cell? ⟨gb192, 2, none⟩ = some (.slice A0_2 l0_2.length c0_2) := (blk_cell BK192.out 2).trans rfl; have hfz16_0 := blk_frozen BK192.out 0; have hfz16_1 := blk_frozen BK192.out 1; have hfz16_2 := blk_frozen BK192.out 2) | ((with_reducible refine gate_callee (f := 28) rfl ?_); refine goesL_ (some 8) rfl rfl Tryd.func28 (by kernel_rfl) rfl #[.agg #[.bool a0_0, .string a0_1, .slice A0_2 l0_2.length c0_2]] rfl (by (try simp only [List.map_toArray, List.map_cons, List.map_nil]); first | done | rfl | (simp only [List.length_drop, List.length_take]; rfl)) ?_; (with_reducible refine (tambourref04_Depth.calls k a0_0 a0_1 _ _ l0_2 t194 _ ?side1 ?side2 A4.out).mono ?_); (case side1 => repeat (first | exact (Kd.C_below HR0_2.out HB.out) | (with_reducible refine Kd.C_alloc ?_ _) | (with_reducible refine Kd.C_drewN ?_ _) | (with_reducible refine Kd.C_drew ?_))); (case side2 => exact HC0_2.out); rintro e w17 ⟨rfl, hb⟩; refine ⟨_, rfl, ?_⟩; have n0_ := Aside0.mk (blk_below (g := gb192) (o := .cells #[.bool a0_0, .string a0_1, .slice A0_2 l0_2.length c0_2] 24 (0, 0)) (by (with_reducible repeat (first | refine blk_drewN ?_ _ | refine blk_drew ?_ | refine blk_alloc ?_ _)); exact BK192.out) hb); have n1_ := Aside0.mk (below_step (by repeat (first | (with_reducible first | exact HB.out | apply below_alloc | apply pw_below_drewN | apply below_drew1 | refine below_set ?_ GE192.out) | exact HB.out)) hb); clear BK192; clear HB; have BK192 := n0_; have HB := n1_; clear n0_ n1_; (try clear hb); (try clear hb2); (try clear hk); (try clear hi); have hcz18_0 : w17.cell? ⟨gb192, 0, none⟩ = some (.bool a0_0) := (blk_cell BK192.out 0).trans rfl; have hcz18_1 : w17.cell? ⟨gb192, 1, none⟩ = some (.string a0_1) := (blk_cell BK192.out 1).trans rfl; have hcz18_2 : w17.cell? ⟨gb192, 2, none⟩ = some (.slice A0_2 l0_2.length c0_2) := (blk_cell BK192.out 2).trans rfl; have hfz18_0 := blk_frozen BK192.out 0; have hfz18_1 := blk_frozen BK192.out 1; have hfz18_2 := blk_frozen BK192.out 2) | (go_at_call 29; (with_reducible refine (tambourref04_size.calls k a0_0 a0_1 _ _ l0_2 t195 _ ?side1 ?side2 A11.out).mono ?_); (case side1 => repeat (first | exact (Kd.C_below HR0_2.out HB.out) | (with_reducible refine Kd.C_alloc ?_ _) | (with_reducible refine Kd.C_drewN ?_ _) | (with_reducible refine Kd.C_drew ?_))); (case side2 => exact HC0_2.out); rintro e w19 ⟨rfl, hb⟩; have n0_ := Aside0.mk (blk_below (g := gb192) (o := .cells #[.bool a0_0, .string a0_1, .slice A0_2 l0_2.length c0_2] 24 (0, 0)) (by (with_reducible repeat (first | refine blk_drewN ?_ _ | refine blk_drew ?_ | refine blk_alloc ?_ _)); exact BK192.out) hb); have n1_ := Aside0.mk (below_step (by repeat (first | (with_reducible first | exact HB.out | apply below_alloc | apply pw_below_drewN | apply below_drew1 | refine below_set ?_ GE192.out) | exact HB.out)) hb); clear BK192; clear HB; have BK192 := n0_; have HB := n1_; clear n0_ n1_; (try clear hb); (try clear hb2); (try clear hk); (try clear hi)))
        go_ret2
        exact ⟨by first | rfl | (simp [errW_none, errW_some] <;> rfl) | (simp [*, errW_none, errW_some] <;> rfl), by repeat (first | (with_reducible first | exact HB.out | apply below_alloc | apply pw_below_drewN | apply below_drew1 | refine below_set ?_ GE192.out) | exact HB.out)⟩
      · rw [if_neg c12] at H
        have c12b0 : decide (65536 < t195) = false := decide_eq_false c12
        clear c12
        replace H := Option.bind_eq_some_iff.mp H
        obtain ⟨t196, A200, H⟩ := H
        replace H : (some (t196, 0)) = some (r1, r2) := H
        have A20 := Aside0.mk A200
        clear A200
        simp only [Option.some.injEq, Prod.mk.injEq] at H
        obtain ⟨rfl, rfl⟩ := H
        go_enter Tryd.func12, Tryd.ntmps12
        go_wp2_with (first | ((with_reducible refine gate_dst (N := 1) rfl ?_); refine box_event ?hg (N := 1) ?hd (cs := #[.bool a0_0, .string a0_1, .slice A0_2 l0_2.length c0_2]) (t := 24) ?hr ?_; (case hd => rfl); (case hg => rfl); (case hr => first | (go_simp; done) | (go_simp; rfl)); intro gb192 hg w21 hbox hb; have n0_ := Aside0.mk (below_step (by repeat (first | (with_reducible first | exact HB.out | apply below_alloc | apply pw_below_drewN | apply below_drew1) | exact HB.out)) hb); have n1_ := Aside0.mk (hbox); have n2_ := Aside0.mk ((by rw [hg]; exact (below_size (by repeat (first | (with_reducible first | exact HB.out | apply below_alloc | apply pw_below_drewN | apply below_drew1) | exact HB.out))) : w.heap.size ≤ gb192)); have n3_ := Aside0.mk ((by rw [hg]; exact (below_size (by repeat (first | (with_reducible first | exact HB.out | apply below_alloc | apply pw_below_drewN | apply below_drew1) | exact HB.out))) : w.heap.size ≤ gb192)); clear HB; have HB := n0_; have BK192 := n1_; have GW192 := n2_; have GE192 := n3_; clear n0_ n1_ n2_ n3_; clear hb hbox hg; have hcz22_0 : w21.cell? ⟨gb192, 0, none⟩ = some (.bool a0_0) := (blk_cell BK192.out 0).trans rfl; have hcz22_1 : w21.cell? ⟨gb192, 1, none⟩ = some (.string a0_1) := (blk_cell BK192.out 1).trans rfl; have hcz22_2 : w21.cell? ⟨gb192, 2, none⟩ = some (.slice A0_2 l0_2.length c0_2) := (blk_cell BK192.out 2).trans rfl; have hfz22_0 := blk_frozen BK192.out 0; have hfz22_1 := blk_frozen BK192.out 1; have hfz22_2 := blk_frozen BK192.out 2) | ((with_reducible refine gate_callee (f := 27) rfl ?_); refine goesL_ (some 5) rfl rfl Tryd.func27 (by kernel_rfl) rfl #[.agg #[.bool a0_0, .string a0_1, .slice A0_2 l0_2.length c0_2]] rfl (by (try simp only [List.map_toArray, List.map_cons, List.map_nil]); first | done | rfl | (simp only [List.length_drop, List.length_take]; rfl)) ?_; (with_reducible refine (tambourref04_right.calls k a0_0 a0_1 _ _ l0_2 true _ ?side1 ?side2 A2.out).mono ?_); (case side1 => repeat (first | exact (Kd.C_below HR0_2.out HB.out) | (with_reducible refine Kd.C_alloc ?_ _) | (with_reducible refine Kd.C_drewN ?_ _) | (with_reducible refine Kd.C_drew ?_))); (case side2 => exact HC0_2.out); rintro e w23 ⟨rfl, hb⟩; refine ⟨_, rfl, ?_⟩; have n0_ := Aside0.mk (blk_below (g := gb192) (o := .cells #[.bool a0_0, .string a0_1, .slice A0_2 l0_2.length c0_2] 24 (0, 0)) (by (with_reducible repeat (first | refine blk_drewN ?_ _ | refine blk_drew ?_ | refine blk_alloc ?_ _)); exact BK192.out) hb); have n1_ := Aside0.mk (below_step (by repeat (first | (with_reducible first | exact HB.out | apply below_alloc | apply pw_below_drewN | apply below_drew1 | refine below_set ?_ GE192.out) | exact HB.out)) hb); clear BK192; clear HB; have BK192 := n0_; have HB := n1_; clear n0_ n1_; (try clear hb); (try clear hb2); (try clear hk); (try clear hi); have hcz24_0 : w23.cell? ⟨gb192, 0, none⟩ = some (.bool a0_0) := (blk_cell BK192.out 0).trans rfl; have hcz24_1 : w23.cell? ⟨gb192, 1, none⟩ = some (.string a0_1) := (blk_cell BK192.out 1).trans rfl; have hcz24_2 : w23.cell? ⟨gb192, 2, none⟩ = some (.slice A0_2 l0_2.length c0_2) := (blk_cell BK192.out 2).trans rfl; have hfz24_0 := blk_frozen BK192.out 0; have hfz24_1 := blk_frozen BK192.out 1; have hfz24_2 := blk_frozen BK192.out 2) | ((with_reducible refine gate_callee (f := 28) rfl ?_); refine goesL_ (some 8) rfl rfl Tryd.func28 (by kernel_rfl) rfl #[.agg #[.bool a0_0, .string a0_1, .slice A0_2 l0_2.length c0_2]] rfl (by (try simp only [List.map_toArray, List.map_cons, List.map_nil]); first | done | rfl | (simp only [List.length_drop, List.length_take]; rfl)) ?_; (with_reducible refine (tambourref04_Depth.calls k a0_0 a0_1 _ _ l0_2 t194 _ ?side1 ?side2 A4.out).mono ?_); (case side1 => repeat (first | exact (Kd.C_below HR0_2.out HB.out) | (with_reducible refine Kd.C_alloc ?_ _) | (with_reducible refine Kd.C_drewN ?_ _) | (with_reducible refine Kd.C_drew ?_))); (case side2 => exact HC0_2.out); rintro e w25 ⟨rfl, hb⟩; refine ⟨_, rfl, ?_⟩; have n0_ := Aside0.mk (blk_below (g := gb192) (o := .cells #[.bool a0_0, .string a0_1, .slice A0_2 l0_2.length c0_2] 24 (0, 0)) (by (with_reducible repeat (first | refine blk_drewN ?_ _ | refine blk_drew ?_ | refine blk_alloc ?_ _)); exact BK192.out) hb); have n1_ := Aside0.mk (below_step (by repeat (first | (with_reducible first | exact HB.out | apply below_alloc | apply pw_below_drewN | apply below_drew1 | refine below_set ?_ GE192.out) | exact HB.out)) hb); clear BK192; clear HB; have BK192 := n0_; have HB := n1_; clear n0_ n1_; (try clear hb); (try clear hb2); (try clear hk); (try clear hi); have hcz26_0 : w25.cell? ⟨gb192, 0, none⟩ = some (.bool a0_0) := (blk_cell BK192.out 0).trans rfl; have hcz26_1 : w25.cell? ⟨gb192, 1, none⟩ = some (.string a0_1) := (blk_cell BK192.out 1).trans rfl; have hcz26_2 : w25.cell? ⟨gb192, 2, none⟩ = some (.slice A0_2 l0_2.length c0_2) := (blk_cell BK192.out 2).trans rfl; have hfz26_0 := blk_frozen BK192.out 0; have hfz26_1 := blk_frozen BK192.out 1; have hfz26_2 := blk_frozen BK192.out 2) | (go_at_call 29; (with_reducible refine (tambourref04_size.calls k a0_0 a0_1 _ _ l0_2 t195 _ ?side1 ?side2 A11.out).mono ?_); (case side1 => repeat (first | exact (Kd.C_below HR0_2.out HB.out) | (with_reducible refine Kd.C_alloc ?_ _) | (with_reducible refine Kd.C_drewN ?_ _) | (with_reducible refine Kd.C_drew ?_))); (case side2 => exact HC0_2.out); rintro e w27 ⟨rfl, hb⟩; have n0_ := Aside0.mk (blk_below (g := gb192) (o := .cells #[.bool a0_0, .string a0_1, .slice A0_2 l0_2.length c0_2] 24 (0, 0)) (by (with_reducible repeat (first | refine blk_drewN ?_ _ | refine blk_drew ?_ | refine blk_alloc ?_ _)); exact BK192.out) hb); have n1_ := Aside0.mk (below_step (by repeat (first | (with_reducible first | exact HB.out | apply below_alloc | apply pw_below_drewN | apply below_drew1 | refine below_set ?_ GE192.out) | exact HB.out)) hb); clear BK192; clear HB; have BK192 := n0_; have HB := n1_; clear n0_ n1_; (try clear hb); (try clear hb2); (try clear hk); (try clear hi); have hcz28_0 : w27.cell? ⟨gb192, 0, none⟩ = some (.bool a0_0) := (blk_cell BK192.out 0).trans rfl; have hcz28_1 : w27.cell? ⟨gb192, 1, none⟩ = some (.string a0_1) := (blk_cell BK192.out 1).trans rfl; have hcz28_2 : w27.cell? ⟨gb192, 2, none⟩ = some (.slice A0_2 l0_2.length c0_2) := (blk_cell BK192.out 2).trans rfl; have hfz28_0 := blk_frozen BK192.out 0; have hfz28_1 := blk_frozen BK192.out 1; have hfz28_2 := blk_frozen BK192.out 2) | ((with_reducible refine gate_callee (f := 30) rfl ?_); refine goesL_ (some 16) rfl rfl Tryd.func30 (by kernel_rfl) rfl #[.agg #[.bool a0_0, .string a0_1, .slice A0_2 l0_2.length c0_2]] rfl (by (try simp only [List.map_toArray, List.map_cons, List.map_nil]); first | done | rfl | (simp only [List.length_drop, List.length_take]; rfl)) ?_; (with_reducible refine (tambourref04_bytes.calls k a0_0 a0_1 _ _ l0_2 t196 _ ?side1 ?side2 A20.out).mono ?_); (case side1 => repeat (first | exact (Kd.C_below HR0_2.out HB.out) | (with_reducible refine Kd.C_alloc ?_ _) | (with_reducible refine Kd.C_drewN ?_ _) | (with_reducible refine Kd.C_drew ?_))); (case side2 => exact HC0_2.out); rintro e w29 ⟨rfl, hb⟩; refine ⟨_, rfl, ?_⟩; have n0_ := Aside0.mk (blk_below (g := gb192) (o := .cells #[.bool a0_0, .string a0_1, .slice A0_2 l0_2.length c0_2] 24 (0, 0)) (by (with_reducible repeat (first | refine blk_drewN ?_ _ | refine blk_drew ?_ | refine blk_alloc ?_ _)); exact BK192.out) hb); have n1_ := Aside0.mk (below_step (by repeat (first | (with_reducible first | exact HB.out | apply below_alloc | apply pw_below_drewN | apply below_drew1 | refine below_set ?_ GE192.out) | exact HB.out)) hb); clear BK192; clear HB; have BK192 := n0_; have HB := n1_; clear n0_ n1_; (try clear hb); (try clear hb2); (try clear hk); (try clear hi)))
        go_ret2
        exact ⟨by first | rfl | (simp [errW_none, errW_some] <;> rfl) | (simp [*, errW_none, errW_some] <;> rfl), by repeat (first | (with_reducible first | exact HB.out | apply below_alloc | apply pw_below_drewN | apply below_drew1 | refine below_set ?_ GE192.out) | exact HB.out)⟩
  · replace c3 := Bool.eq_false_iff.mpr c3
    subst c3
    have H1 : (some ((⟨#[]⟩ : ByteArray), 1)) = some (r1, r2) := by rw [if_neg (show ¬ (false = true) by decide)] at H; exact H
    clear H
    have H := H1
    clear H1
    simp only [Option.some.injEq, Prod.mk.injEq] at H
    obtain ⟨rfl, rfl⟩ := H
    go_enter Tryd.func12, Tryd.ntmps12
    go_wp2_with (first | ((with_reducible refine gate_dst (N := 1) rfl ?_); refine box_event ?hg (N := 1) ?hd (cs := #[.bool a0_0, .string a0_1, .slice A0_2 l0_2.length c0_2]) (t := 24) ?hr ?_; (case hd => rfl); (case hg => rfl); (case hr => first | (go_simp; done) | (go_simp; rfl)); intro gb192 hg w30 hbox hb; have n0_ := Aside0.mk (below_step (by repeat (first | (with_reducible first | exact HB.out | apply below_alloc | apply pw_below_drewN | apply below_drew1) | exact HB.out)) hb); have n1_ := Aside0.mk (hbox); have n2_ := Aside0.mk ((by rw [hg]; exact (below_size (by repeat (first | (with_reducible first | exact HB.out | apply below_alloc | apply pw_below_drewN | apply below_drew1) | exact HB.out))) : w.heap.size ≤ gb192)); have n3_ := Aside0.mk ((by rw [hg]; exact (below_size (by repeat (first | (with_reducible first | exact HB.out | apply below_alloc | apply pw_below_drewN | apply below_drew1) | exact HB.out))) : w.heap.size ≤ gb192)); clear HB; have HB := n0_; have BK192 := n1_; have GW192 := n2_; have GE192 := n3_; clear n0_ n1_ n2_ n3_; clear hb hbox hg; have hcz31_0 : w30.cell? ⟨gb192, 0, none⟩ = some (.bool a0_0) := (blk_cell BK192.out 0).trans rfl; have hcz31_1 : w30.cell? ⟨gb192, 1, none⟩ = some (.string a0_1) := (blk_cell BK192.out 1).trans rfl; have hcz31_2 : w30.cell? ⟨gb192, 2, none⟩ = some (.slice A0_2 l0_2.length c0_2) := (blk_cell BK192.out 2).trans rfl; have hfz31_0 := blk_frozen BK192.out 0; have hfz31_1 := blk_frozen BK192.out 1; have hfz31_2 := blk_frozen BK192.out 2) | ((with_reducible refine gate_callee (f := 27) rfl ?_); refine goesL_ (some 5) rfl rfl Tryd.func27 (by kernel_rfl) rfl #[.agg #[.bool a0_0, .string a0_1, .slice A0_2 l0_2.length c0_2]] rfl (by (try simp only [List.map_toArray, List.map_cons, List.map_nil]); first | done | rfl | (simp only [List.length_drop, List.length_take]; rfl)) ?_; (with_reducible refine (tambourref04_right.calls k a0_0 a0_1 _ _ l0_2 false _ ?side1 ?side2 A2.out).mono ?_); (case side1 => repeat (first | exact (Kd.C_below HR0_2.out HB.out) | (with_reducible refine Kd.C_alloc ?_ _) | (with_reducible refine Kd.C_drewN ?_ _) | (with_reducible refine Kd.C_drew ?_))); (case side2 => exact HC0_2.out); rintro e w32 ⟨rfl, hb⟩; refine ⟨_, rfl, ?_⟩; have n0_ := Aside0.mk (blk_below (g := gb192) (o := .cells #[.bool a0_0, .string a0_1, .slice A0_2 l0_2.length c0_2] 24 (0, 0)) (by (with_reducible repeat (first | refine blk_drewN ?_ _ | refine blk_drew ?_ | refine blk_alloc ?_ _)); exact BK192.out) hb); have n1_ := Aside0.mk (below_step (by repeat (first | (with_reducible first | exact HB.out | apply below_alloc | apply pw_below_drewN | apply below_drew1 | refine below_set ?_ GE192.out) | exact HB.out)) hb); clear BK192; clear HB; have BK192 := n0_; have HB := n1_; clear n0_ n1_; (try clear hb); (try clear hb2); (try clear hk); (try clear hi)))
    go_ret2
    exact ⟨by first | rfl | (simp [errW_none, errW_some] <;> rfl) | (simp [*, errW_none, errW_some] <;> rfl), by repeat (first | (with_reducible first | exact HB.out | apply below_alloc | apply pw_below_drewN | apply below_drew1 | refine below_set ?_ GE192.out) | exact HB.out)⟩

-- NOT PRINTED: function 40 (reflectlite_ValueOf)

-- NOT PRINTED: function 41 (reflectlite_Value_Type)

-- NOT PRINTED: function 42 (reflectlite_Value_IsNil)

-- NOT PRINTED: function 44 (reflectlite_TypeOf)

-- NOT PRINTED: function 52 (reflectlite_Value_Elem)

-- NOT PRINTED: function 53 (reflectlite_Value_Set)

-- NOT PRINTED: function 43 (errors_as)

-- NOT PRINTED: function 31 (errors_As)

-- NOT PRINTED: function 45 (errors_is)

-- NOT PRINTED: function 32 (errors_Is)

-- NOT PRINTED: function 13 (tambourlaw01_Code)

-- NOT PRINTED: function 4 (tambourlaw04_FormWrites)

/-! ### tambourref04_Text: function 20 -/
def tambourref04_Text.f (a0 : ByteArray) : Option (Bool × ByteArray × (List (S24))) := some (false, a0, ([] : List (S24)))
set_option maxHeartbeats 8000000 in
set_option maxRecDepth 100000 in
theorem tambourref04_Text.calls (a0 : ByteArray) (r1 : Bool) (r2 : ByteArray) (r3 : List (S24)) (w : World) (h : tambourref04_Text.f a0 = some (r1, r2, r3)) :
    Calls Tryd.prog 20 #[.string a0] w fun e w' => ∃ v2_ : Value, e = .returned (.agg #[.bool r1, .string r2, v2_]) ∧ Kd.R k24 24 w' w.heap.size (fun _ => True) v2_ r3 ∧ Below w.heap.size w w' := by
  have hu24 := Tryd.underlying24
  have HB := Aside0.mk (Below.refl w.heap.size w)
  have H : (some (false, a0, ([] : List (S24)))) = some (r1, r2, r3) := h
  clear h
  simp only [Option.some.injEq, Prod.mk.injEq] at H
  obtain ⟨rfl, rfl, rfl⟩ := H
  go_enter Tryd.func20, Tryd.ntmps20
  go_wp2_with (first | ((with_reducible refine gate_dst (N := 2) rfl ?_); refine box_event ?hg (N := 2) ?hd (cs := #[.bool false, .string (⟨#[]⟩ : ByteArray), .slice none 0 0]) (t := 24) ?hr ?_; (case hd => rfl); (case hg => rfl); (case hr => first | (go_simp; done) | (go_simp; rfl)); intro gb201 hg w2 hbox hb; have n0_ := Aside0.mk (below_step (by repeat (first | (with_reducible first | exact HB.out | apply below_alloc | apply pw_below_drewN | apply below_drew1) | exact HB.out)) hb); have n1_ := Aside0.mk (hbox); have n2_ := Aside0.mk ((by rw [hg]; exact (below_size (by repeat (first | (with_reducible first | exact HB.out | apply below_alloc | apply pw_below_drewN | apply below_drew1) | exact HB.out))) : w.heap.size ≤ gb201)); have n3_ := Aside0.mk ((by rw [hg]; exact (below_size (by repeat (first | (with_reducible first | exact HB.out | apply below_alloc | apply pw_below_drewN | apply below_drew1) | exact HB.out))) : w.heap.size ≤ gb201)); clear HB; have HB := n0_; have BK201 := n1_; have GW201 := n2_; have GE201 := n3_; clear n0_ n1_ n2_ n3_; clear hb hbox hg; have hcz3_0 : w2.cell? ⟨gb201, 0, none⟩ = some (.bool false) := (blk_cell BK201.out 0).trans rfl; have hcz3_1 : w2.cell? ⟨gb201, 1, none⟩ = some (.string (⟨#[]⟩ : ByteArray)) := (blk_cell BK201.out 1).trans rfl; have hcz3_2 : w2.cell? ⟨gb201, 2, none⟩ = some (.slice none 0 0) := (blk_cell BK201.out 2).trans rfl; have hfz3_0 := blk_frozen BK201.out 0; have hfz3_1 := blk_frozen BK201.out 1; have hfz3_2 := blk_frozen BK201.out 2))
  refine bodyPost_ret (results_cell_row rfl _ _ gb201 24 #[.bool false, .string a0, .slice none 0 0] (0, 0) _ rfl (by (with_reducible repeat (first | refine blk_drewN ?_ _ | refine blk_drew ?_ | refine blk_alloc ?_ _)); refine blk_put (cs := #[.bool false, .string a0, .slice none 0 0]) ?_ 2 _ rfl; (with_reducible repeat (first | refine blk_drewN ?_ _ | refine blk_drew ?_ | refine blk_alloc ?_ _)); refine blk_put (cs := #[.bool false, .string (⟨#[]⟩ : ByteArray), .slice none 0 0]) ?_ 1 _ rfl; (with_reducible repeat (first | refine blk_drewN ?_ _ | refine blk_drew ?_ | refine blk_alloc ?_ _)); refine blk_put (cs := #[.bool false, .string (⟨#[]⟩ : ByteArray), .slice none 0 0]) ?_ 0 _ rfl; (with_reducible repeat (first | refine blk_drewN ?_ _ | refine blk_drew ?_ | refine blk_alloc ?_ _)); exact BK201.out) Tryd.underlying24 rfl (by kernel_rfl)) rfl ?_
  exact ⟨_, by first | rfl | (simp [errW_none, errW_some] <;> rfl) | (simp [*, errW_none, errW_some] <;> rfl), by first | exact Kd.R_nil _ _ _ _ _ | exact Kd.N_nil _ _ _ _ _ | exact Kd.V_nil _ _ _ _ _ | exact Kd.Q_nil _ _ _ _ _ | exact Kd.S_nil _ _ _ _ _, by repeat (first | (with_reducible first | exact HB.out | apply below_alloc | apply pw_below_drewN | apply below_drew1 | refine below_set ?_ GE201.out) | exact HB.out)⟩

end Go.Proofs.YtehghdmfdinpjaaDoor.PAll
