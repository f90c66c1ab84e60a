-- Written by a program of this session (wip/t/fprint.py), which runs the kit's printer with some functions proved by hand.
import Derived.Test.YtehghdmfdinpjaaDoorPAllx0
import Derived.Test.YtehghdmfdinpjaaDoorPAllt
namespace Go.Proofs.YtehghdmfdinpjaaDoor.PAll
open Go.RowKit Go.Proofs.YtehghdmfdinpjaaDoorW.PrintWords Go.Proofs.YtehghdmfdinpjaaDoorW.PrintLast Go.Proofs.YtehghdmfdinpjaaDoorW.PrintMore
attribute [local go_sem] max2_int min2_int max_two min_two max_three min_three max_four min_four   -- for this text's walks alone
set_option linter.unusedVariables false
set_option linter.unusedSimpArgs false

/-! ### tambourref04_item: function 34 -/
mutual
def tambourref04_item.l0 : Nat → ByteArray → Int → Bool → ByteArray → List (S24) → Option (Bool × ByteArray × (List (S24)) × ByteArray × Bool)
 | 0, _, _, _, _, _ => none
 | k + 1, x0, x1, x204000, x204001, x204002 => if x0.toList = ([] : List UInt8) then (tambourref04_item.j1 k x0 x1 false x204000 x204001 x204002) else (if 0 < (x0.size : Int) then (tambourref04_item.j1 k x0 x1 ((bt x0 0) != 41) x204000 x204001 x204002) else (none))
def tambourref04_item.j1 : Nat → ByteArray → Int → Bool → Bool → ByteArray → List (S24) → Option (Bool × ByteArray × (List (S24)) × ByteArray × Bool)
 | 0, _, _, _, _, _, _ => none
 | k + 1, x0, x1, x31, x204000, x204001, x204002 => if x31 = true then ((tambourref04_item.f k x0 (wrap64 (x1 + 1))).bind fun bt204 => (if bt204.2.2.2.2 = true then (if x204002.length < 2932031007402 then (tambourref04_item.l0 k bt204.2.2.2.1 x1 x204000 x204001 (x204002 ++ [(⟨bt204.1, bt204.2.1, bt204.2.2.1⟩ : S24)])) else (none)) else (some (false, (⟨#[]⟩ : ByteArray), ([] : List (S24)), (⟨#[]⟩ : ByteArray), false)))) else (if x0.toList = ([] : List UInt8) then (some (false, (⟨#[]⟩ : ByteArray), ([] : List (S24)), (⟨#[]⟩ : ByteArray), false)) else (if 1 ≤ (x0.size : Int) then (some (x204000, x204001, x204002, x0.extract 1 x0.size, true)) else (none)))
def tambourref04_item.l1 : Nat → ByteArray → Int → Int → Option (Bool × ByteArray × (List (S24)) × ByteArray × Bool)
 | 0, _, _, _ => none
 | k + 1, x0, x11, x12 => if x12 < (x0.size : Int) then (if 0 ≤ x12 then (if (bt x0 x12) ≥ 48 then (if (bt x0 x12) ≤ 57 then (if x12 < 6 then (tambourref04_item.l1 k x0 (wrap64 ((wrap64 (x11 * 10)) + (((bt x0 x12) - 48) % 256))) (wrap64 (x12 + 1))) else (if x12 = 0 then (some (false, (⟨#[]⟩ : ByteArray), ([] : List (S24)), (⟨#[]⟩ : ByteArray), false)) else (if x12 > 1 then (if 0 < (x0.size : Int) then (if (bt x0 0) = 48 then (some (false, (⟨#[]⟩ : ByteArray), ([] : List (S24)), (⟨#[]⟩ : ByteArray), false)) else (if x12 ≥ (x0.size : Int) then (some (false, (⟨#[]⟩ : ByteArray), ([] : List (S24)), (⟨#[]⟩ : ByteArray), false)) else (if (bt x0 x12) = 58 then (if x11 > (wrap64 ((wrap64 ((x0.size : Int) - x12)) - 1)) then (some (false, (⟨#[]⟩ : ByteArray), ([] : List (S24)), (⟨#[]⟩ : ByteArray), false)) else (if 0 ≤ (wrap64 (x12 + 1)) then (if (wrap64 (x12 + 1)) ≤ (wrap64 ((wrap64 (x12 + 1)) + x11)) then (if (wrap64 ((wrap64 (x12 + 1)) + x11)) ≤ (x0.size : Int) then ((tambourref04_Text.f (x0.extract ((wrap64 (x12 + 1)) : Int).toNat ((wrap64 ((wrap64 (x12 + 1)) + x11)) : Int).toNat)).bind fun bt215 => (if 0 ≤ (wrap64 ((wrap64 (x12 + 1)) + x11)) then (some (bt215.1, bt215.2.1, bt215.2.2, x0.extract ((wrap64 ((wrap64 (x12 + 1)) + x11)) : Int).toNat x0.size, true)) else (none))) else (none)) else (none)) else (none))) else (some (false, (⟨#[]⟩ : ByteArray), ([] : List (S24)), (⟨#[]⟩ : ByteArray), false))))) else (none)) else (if x12 ≥ (x0.size : Int) then (some (false, (⟨#[]⟩ : ByteArray), ([] : List (S24)), (⟨#[]⟩ : ByteArray), false)) else (if (bt x0 x12) = 58 then (if x11 > (wrap64 ((wrap64 ((x0.size : Int) - x12)) - 1)) then (some (false, (⟨#[]⟩ : ByteArray), ([] : List (S24)), (⟨#[]⟩ : ByteArray), false)) else (if 0 ≤ (wrap64 (x12 + 1)) then (if (wrap64 (x12 + 1)) ≤ (wrap64 ((wrap64 (x12 + 1)) + x11)) then (if (wrap64 ((wrap64 (x12 + 1)) + x11)) ≤ (x0.size : Int) then ((tambourref04_Text.f (x0.extract ((wrap64 (x12 + 1)) : Int).toNat ((wrap64 ((wrap64 (x12 + 1)) + x11)) : Int).toNat)).bind fun bt220 => (if 0 ≤ (wrap64 ((wrap64 (x12 + 1)) + x11)) then (some (bt220.1, bt220.2.1, bt220.2.2, x0.extract ((wrap64 ((wrap64 (x12 + 1)) + x11)) : Int).toNat x0.size, true)) else (none))) else (none)) else (none)) else (none))) else (some (false, (⟨#[]⟩ : ByteArray), ([] : List (S24)), (⟨#[]⟩ : ByteArray), false))))))) else (if x12 = 0 then (some (false, (⟨#[]⟩ : ByteArray), ([] : List (S24)), (⟨#[]⟩ : ByteArray), false)) else (if x12 > 1 then (if 0 < (x0.size : Int) then (if (bt x0 0) = 48 then (some (false, (⟨#[]⟩ : ByteArray), ([] : List (S24)), (⟨#[]⟩ : ByteArray), false)) else (if x12 ≥ (x0.size : Int) then (some (false, (⟨#[]⟩ : ByteArray), ([] : List (S24)), (⟨#[]⟩ : ByteArray), false)) else (if (bt x0 x12) = 58 then (if x11 > (wrap64 ((wrap64 ((x0.size : Int) - x12)) - 1)) then (some (false, (⟨#[]⟩ : ByteArray), ([] : List (S24)), (⟨#[]⟩ : ByteArray), false)) else (if 0 ≤ (wrap64 (x12 + 1)) then (if (wrap64 (x12 + 1)) ≤ (wrap64 ((wrap64 (x12 + 1)) + x11)) then (if (wrap64 ((wrap64 (x12 + 1)) + x11)) ≤ (x0.size : Int) then ((tambourref04_Text.f (x0.extract ((wrap64 (x12 + 1)) : Int).toNat ((wrap64 ((wrap64 (x12 + 1)) + x11)) : Int).toNat)).bind fun bt225 => (if 0 ≤ (wrap64 ((wrap64 (x12 + 1)) + x11)) then (some (bt225.1, bt225.2.1, bt225.2.2, x0.extract ((wrap64 ((wrap64 (x12 + 1)) + x11)) : Int).toNat x0.size, true)) else (none))) else (none)) else (none)) else (none))) else (some (false, (⟨#[]⟩ : ByteArray), ([] : List (S24)), (⟨#[]⟩ : ByteArray), false))))) else (none)) else (if x12 ≥ (x0.size : Int) then (some (false, (⟨#[]⟩ : ByteArray), ([] : List (S24)), (⟨#[]⟩ : ByteArray), false)) else (if (bt x0 x12) = 58 then (if x11 > (wrap64 ((wrap64 ((x0.size : Int) - x12)) - 1)) then (some (false, (⟨#[]⟩ : ByteArray), ([] : List (S24)), (⟨#[]⟩ : ByteArray), false)) else (if 0 ≤ (wrap64 (x12 + 1)) then (if (wrap64 (x12 + 1)) ≤ (wrap64 ((wrap64 (x12 + 1)) + x11)) then (if (wrap64 ((wrap64 (x12 + 1)) + x11)) ≤ (x0.size : Int) then ((tambourref04_Text.f (x0.extract ((wrap64 (x12 + 1)) : Int).toNat ((wrap64 ((wrap64 (x12 + 1)) + x11)) : Int).toNat)).bind fun bt230 => (if 0 ≤ (wrap64 ((wrap64 (x12 + 1)) + x11)) then (some (bt230.1, bt230.2.1, bt230.2.2, x0.extract ((wrap64 ((wrap64 (x12 + 1)) + x11)) : Int).toNat x0.size, true)) else (none))) else (none)) else (none)) else (none))) else (some (false, (⟨#[]⟩ : ByteArray), ([] : List (S24)), (⟨#[]⟩ : ByteArray), false))))))) else (if x12 = 0 then (some (false, (⟨#[]⟩ : ByteArray), ([] : List (S24)), (⟨#[]⟩ : ByteArray), false)) else (if x12 > 1 then (if 0 < (x0.size : Int) then (if (bt x0 0) = 48 then (some (false, (⟨#[]⟩ : ByteArray), ([] : List (S24)), (⟨#[]⟩ : ByteArray), false)) else (if x12 ≥ (x0.size : Int) then (some (false, (⟨#[]⟩ : ByteArray), ([] : List (S24)), (⟨#[]⟩ : ByteArray), false)) else (if (bt x0 x12) = 58 then (if x11 > (wrap64 ((wrap64 ((x0.size : Int) - x12)) - 1)) then (some (false, (⟨#[]⟩ : ByteArray), ([] : List (S24)), (⟨#[]⟩ : ByteArray), false)) else (if 0 ≤ (wrap64 (x12 + 1)) then (if (wrap64 (x12 + 1)) ≤ (wrap64 ((wrap64 (x12 + 1)) + x11)) then (if (wrap64 ((wrap64 (x12 + 1)) + x11)) ≤ (x0.size : Int) then ((tambourref04_Text.f (x0.extract ((wrap64 (x12 + 1)) : Int).toNat ((wrap64 ((wrap64 (x12 + 1)) + x11)) : Int).toNat)).bind fun bt235 => (if 0 ≤ (wrap64 ((wrap64 (x12 + 1)) + x11)) then (some (bt235.1, bt235.2.1, bt235.2.2, x0.extract ((wrap64 ((wrap64 (x12 + 1)) + x11)) : Int).toNat x0.size, true)) else (none))) else (none)) else (none)) else (none))) else (some (false, (⟨#[]⟩ : ByteArray), ([] : List (S24)), (⟨#[]⟩ : ByteArray), false))))) else (none)) else (if x12 ≥ (x0.size : Int) then (some (false, (⟨#[]⟩ : ByteArray), ([] : List (S24)), (⟨#[]⟩ : ByteArray), false)) else (if (bt x0 x12) = 58 then (if x11 > (wrap64 ((wrap64 ((x0.size : Int) - x12)) - 1)) then (some (false, (⟨#[]⟩ : ByteArray), ([] : List (S24)), (⟨#[]⟩ : ByteArray), false)) else (if 0 ≤ (wrap64 (x12 + 1)) then (if (wrap64 (x12 + 1)) ≤ (wrap64 ((wrap64 (x12 + 1)) + x11)) then (if (wrap64 ((wrap64 (x12 + 1)) + x11)) ≤ (x0.size : Int) then ((tambourref04_Text.f (x0.extract ((wrap64 (x12 + 1)) : Int).toNat ((wrap64 ((wrap64 (x12 + 1)) + x11)) : Int).toNat)).bind fun bt240 => (if 0 ≤ (wrap64 ((wrap64 (x12 + 1)) + x11)) then (some (bt240.1, bt240.2.1, bt240.2.2, x0.extract ((wrap64 ((wrap64 (x12 + 1)) + x11)) : Int).toNat x0.size, true)) else (none))) else (none)) else (none)) else (none))) else (some (false, (⟨#[]⟩ : ByteArray), ([] : List (S24)), (⟨#[]⟩ : ByteArray), false))))))) else (none)) else (if x12 = 0 then (some (false, (⟨#[]⟩ : ByteArray), ([] : List (S24)), (⟨#[]⟩ : ByteArray), false)) else (if x12 > 1 then (if 0 < (x0.size : Int) then (if (bt x0 0) = 48 then (some (false, (⟨#[]⟩ : ByteArray), ([] : List (S24)), (⟨#[]⟩ : ByteArray), false)) else (if x12 ≥ (x0.size : Int) then (some (false, (⟨#[]⟩ : ByteArray), ([] : List (S24)), (⟨#[]⟩ : ByteArray), false)) else (if 0 ≤ x12 then (none) else (none)))) else (none)) else (if x12 ≥ (x0.size : Int) then (some (false, (⟨#[]⟩ : ByteArray), ([] : List (S24)), (⟨#[]⟩ : ByteArray), false)) else (if 0 ≤ x12 then (none) else (none)))))
def tambourref04_item.f : Nat → ByteArray → Int → Option (Bool × ByteArray × (List (S24)) × ByteArray × Bool)
 | 0, _, _ => none
 | k + 1, a0, a1 => if a0.toList = ([] : List UInt8) then (some (false, (⟨#[]⟩ : ByteArray), ([] : List (S24)), (⟨#[]⟩ : ByteArray), false)) else (if 0 < (a0.size : Int) then (if (bt a0 0) = 40 then (if a1 ≥ 8 then (some (false, (⟨#[]⟩ : ByteArray), ([] : List (S24)), (⟨#[]⟩ : ByteArray), false)) else (if 1 ≤ (a0.size : Int) then (tambourref04_item.l0 k (a0.extract 1 a0.size) a1 true (⟨#[]⟩ : ByteArray) ([] : List (S24))) else (none))) else (tambourref04_item.l1 k a0 0 0)) else (none))
end
theorem tambourref04_item.mono_l : ∀ k, (∀ y0 y1, LeO (tambourref04_item.f k y0 y1) (tambourref04_item.f (k + 1) y0 y1)) ∧ (∀ y0 y1 y2 y3 y4, LeO (tambourref04_item.l0 k y0 y1 y2 y3 y4) (tambourref04_item.l0 (k + 1) y0 y1 y2 y3 y4)) ∧ (∀ y0 y1 y2 y3 y4 y5, LeO (tambourref04_item.j1 k y0 y1 y2 y3 y4 y5) (tambourref04_item.j1 (k + 1) y0 y1 y2 y3 y4 y5)) ∧ (∀ y0 y1 y2, LeO (tambourref04_item.l1 k y0 y1 y2) (tambourref04_item.l1 (k + 1) y0 y1 y2))
 | 0 => ⟨fun _ _ r h => by simp [tambourref04_item.f] at h, fun _ _ _ _ _ r h => by simp [tambourref04_item.l0] at h, fun _ _ _ _ _ _ r h => by simp [tambourref04_item.j1] at h, fun _ _ _ r h => by simp [tambourref04_item.l1] at h⟩
 | k + 1 => by
  obtain ⟨ih0, ih1, ih2, ih3⟩ := tambourref04_item.mono_l k
  refine ⟨?_, ?_, ?_, ?_⟩
  ·intro y0 y1
   unfold tambourref04_item.f
   repeat' first
   | (with_reducible exact ih0 _ _)
   | (with_reducible exact ih1 _ _ _ _ _)
   | (with_reducible exact ih2 _ _ _ _ _ _)
   | (with_reducible exact ih3 _ _ _)
   | (with_reducible exact LeO.refl _)
   | (with_reducible exact LeO.none _)
   | (with_reducible refine LeO.ite ?_ ?_)
   | (with_reducible refine LeO.bind ?_ (fun _ => ?_))
   | exact ih0 _ _
   | exact ih1 _ _ _ _ _
   | exact ih2 _ _ _ _ _ _
   | exact ih3 _ _ _
   | exact LeO.none _
   | refine LeO.ite ?_ ?_
   | refine LeO.bind ?_ (fun _ => ?_)
  ·intro y0 y1 y2 y3 y4
   unfold tambourref04_item.l0
   repeat' first
   | (with_reducible exact ih0 _ _)
   | (with_reducible exact ih1 _ _ _ _ _)
   | (with_reducible exact ih2 _ _ _ _ _ _)
   | (with_reducible exact ih3 _ _ _)
   | (with_reducible exact LeO.refl _)
   | (with_reducible exact LeO.none _)
   | (with_reducible refine LeO.ite ?_ ?_)
   | (with_reducible refine LeO.bind ?_ (fun _ => ?_))
   | exact ih0 _ _
   | exact ih1 _ _ _ _ _
   | exact ih2 _ _ _ _ _ _
   | exact ih3 _ _ _
   | exact LeO.none _
   | refine LeO.ite ?_ ?_
   | refine LeO.bind ?_ (fun _ => ?_)
  ·intro y0 y1 y2 y3 y4 y5
   unfold tambourref04_item.j1
   repeat' first
   | (with_reducible exact ih0 _ _)
   | (with_reducible exact ih1 _ _ _ _ _)
   | (with_reducible exact ih2 _ _ _ _ _ _)
   | (with_reducible exact ih3 _ _ _)
   | (with_reducible exact LeO.refl _)
   | (with_reducible exact LeO.none _)
   | (with_reducible refine LeO.ite ?_ ?_)
   | (with_reducible refine LeO.bind ?_ (fun _ => ?_))
   | exact ih0 _ _
   | exact ih1 _ _ _ _ _
   | exact ih2 _ _ _ _ _ _
   | exact ih3 _ _ _
   | exact LeO.none _
   | refine LeO.ite ?_ ?_
   | refine LeO.bind ?_ (fun _ => ?_)
  ·intro y0 y1 y2
   unfold tambourref04_item.l1
   repeat' first
   | (with_reducible exact ih0 _ _)
   | (with_reducible exact ih1 _ _ _ _ _)
   | (with_reducible exact ih2 _ _ _ _ _ _)
   | (with_reducible exact ih3 _ _ _)
   | (with_reducible exact LeO.refl _)
   | (with_reducible exact LeO.none _)
   | (with_reducible refine LeO.ite ?_ ?_)
   | (with_reducible refine LeO.bind ?_ (fun _ => ?_))
   | exact ih0 _ _
   | exact ih1 _ _ _ _ _
   | exact ih2 _ _ _ _ _ _
   | exact ih3 _ _ _
   | exact LeO.none _
   | refine LeO.ite ?_ ?_
   | refine LeO.bind ?_ (fun _ => ?_)
theorem tambourref04_item.mono : ∀ a0 a1 k, LeO (tambourref04_item.f k a0 a1) (tambourref04_item.f (k + 1) a0 a1) := by
 intro a0 a1 k
 obtain ⟨ih0, ih1, ih2, ih3⟩ := tambourref04_item.mono_l k
 exact ih0 a0 a1
def tambourref04_item.T23 : Bool × List (List Nat × List Nat) := (true, [([], []), ([], []), ([1], [1]), ([], []), ([3], [3]), ([], []), ([4, 5], [4, 5]), ([0, 2, 6], [0, 2, 6]), ([7], [7]), ([], []), ([], []), ([10], [10]), ([], []), ([11, 12], [11, 12]), ([9, 13], [9, 13]), ([8, 8, 0, 1, 2, 3, 4, 5, 6, 7, 8], [8]), ([14, 15, 0, 1, 2, 3, 4, 5, 6, 7, 8, 9, 10, 11, 12, 13, 14, 15], [14]), ([16, 0, 1, 2, 3, 4, 5, 6, 7, 8, 9, 10, 11, 12, 13, 14, 15, 16], [])])
def tambourref04_item.B23 : List Nat := [0, 0, 2, 0, 8, 0, 56, 127, 255, 0, 0, 1024, 0, 7168, 15872, 511, 65535, 131071]
theorem tambourref04_item.tab23 : rtab .any (opsOf Tryd.f34 23) = tambourref04_item.T23 := by kernel_rfl
theorem tambourref04_item.bits23 : waitsOk tambourref04_item.T23.2 tambourref04_item.B23 = true := by kernel_rfl
set_option maxHeartbeats 8000000 in
set_option maxRecDepth 100000 in
theorem tambourref04_item.calls (k : Nat) : ∀ (a0 : ByteArray) (a1 : Int) (r1 : Bool) (r2 : ByteArray) (r3 : List (S24)) (r4 : ByteArray) (r5 : Bool) (w : World) (h : tambourref04_item.f k a0 a1 = some (r1, r2, r3, r4, r5)),
  Calls Tryd.prog 34 #[.string a0, .int .i64 a1] w fun e w' => ∃ v2_ : Value, e = .returned (.tuple #[.agg #[.bool r1, .string r2, v2_], .string r4, .bool r5]) ∧ Kd.R k24 24 w' w.heap.size (fun _ => True) v2_ r3 ∧ Below w.heap.size w w' := by
 induction k using Nat.strongRecOn with
 | _ k ih =>
 intro a0 a1 r1 r2 r3 r4 r5 w h
 cases k with
 | zero => exact absurd h (by simp [tambourref04_item.f])
 | succ k =>
 simp only [tambourref04_item.f] at h
 have hu24 := Tryd.underlying24
 have HB := Aside0.mk (Below.refl w.heap.size w)
 have H : (if a0.toList = ([] : List UInt8) then (some (false, (⟨#[]⟩ : ByteArray), ([] : List (S24)), (⟨#[]⟩ : ByteArray), false)) else (if 0 < (a0.size : Int) then (if (bt a0 0) = 40 then (if a1 ≥ 8 then (some (false, (⟨#[]⟩ : ByteArray), ([] : List (S24)), (⟨#[]⟩ : ByteArray), false)) else (if 1 ≤ (a0.size : Int) then (tambourref04_item.l0 k (a0.extract 1 a0.size) a1 true (⟨#[]⟩ : ByteArray) ([] : List (S24))) else (none))) else (tambourref04_item.l1 k a0 0 0)) else (none))) = some (r1, r2, r3, r4, r5) := h
 clear h
 by_cases c3 : a0.toList = ([] : List UInt8)
 ·rw [if_pos c3] at H
  have c3b0 : (a0.toList == ([] : List UInt8)) = true := beq_iff_eq.mpr c3
  have c3b1 : (a0.toList != ([] : List UInt8)) = false := bne_eq_false_iff_eq.mpr c3
  clear c3
  simp only [Option.some.injEq, Prod.mk.injEq] at H
  obtain ⟨rfl, rfl, rfl, rfl, rfl⟩ := H
  go_enter Tryd.func34, Tryd.ntmps34
  go_wp2_with (first | ((with_reducible refine gate_dst (N := 4) rfl ?_); (try (refine gate_guard (by rfl) ?_; dsimp only)); refine box_event ?hg (N := 4) ?hd (cs := #[.bool false, .string (⟨#[]⟩ : ByteArray), .slice none 0 0]) (t := 24) ?hr ?_; (case hd => rfl); (case hg => rfl); (case hr => first | (go_simp; done) | (go_simp; rfl)); intro gb202 hg w4 hbox hb; have n0_ := Aside0.mk (below_step (by repeat (first | (with_reducible first | exact HB.out | apply below_alloc | apply pw_below_drewN | apply below_drew1) | exact HB.out)) hb); have n1_ := Aside0.mk (hbox); have n2_ := Aside0.mk ((by rw [hg]; exact (below_size (by repeat (first | (with_reducible first | exact HB.out | apply below_alloc | apply pw_below_drewN | apply below_drew1) | exact HB.out))) : w.heap.size ≤ gb202)); have n3_ := Aside0.mk ((by rw [hg]; exact (below_size (by repeat (first | (with_reducible first | exact HB.out | apply below_alloc | apply pw_below_drewN | apply below_drew1) | exact HB.out))) : w.heap.size ≤ gb202)); clear HB; have HB := n0_; have BK202 := n1_; have GW202 := n2_; have GE202 := n3_; clear n0_ n1_ n2_ n3_; clear hb hbox hg; have hcz5_0 : w4.cell? ⟨gb202, 0, none⟩ = some (.bool false) := (blk_cell BK202.out 0).trans rfl; have hcz5_1 : w4.cell? ⟨gb202, 1, none⟩ = some (.string (⟨#[]⟩ : ByteArray)) := (blk_cell BK202.out 1).trans rfl; have hcz5_2 : w4.cell? ⟨gb202, 2, none⟩ = some (.slice none 0 0) := (blk_cell BK202.out 2).trans rfl; have hfz5_0 := blk_frozen BK202.out 0; have hfz5_1 := blk_frozen BK202.out 1; have hfz5_2 := blk_frozen BK202.out 2))
  refine bodyPost_ret (results_ctt rfl _ _ gb202 24 #[.bool false, .string (⟨#[]⟩ : ByteArray), .slice none 0 0] (0, 0) _ rfl (by repeat (first | (with_reducible refine blk_drewN ?_ _) | (with_reducible refine blk_drew ?_) | (with_reducible refine blk_alloc ?_ _) | exact BK202.out | refine blk_put (cs := #[.bool false, .string (⟨#[]⟩ : ByteArray), .slice none 0 0]) ?_ _ _ rfl)) Tryd.underlying24 rfl (by kernel_rfl)) rfl ?_
  exact ⟨_, rfl, Kd.R_nil _ _ _ _ _, by repeat (first | (with_reducible first | exact HB.out | apply below_alloc | apply pw_below_drewN | apply below_drew1 | refine below_set ?_ GE202.out) | exact HB.out)⟩
 ·rw [if_neg c3] at H
  have c3b0 : (a0.toList == ([] : List UInt8)) = false := beq_eq_false_iff_ne.mpr c3
  have c3b1 : (a0.toList != ([] : List UInt8)) = true := bne_iff_ne.mpr c3
  by_cases c6 : 0 < (a0.size : Int)
  ·rw [if_pos c6] at H
   have c6b0 : decide (0 < (a0.size : Int)) = true := decide_eq_true c6
   have c6b1 : decide (0 < a0.size) = true := decide_eq_true (by omega)
   clear c6
   by_cases c8 : (bt a0 0) = 40
   ·rw [if_pos c8] at H
    have c8b0 : ((bt a0 0) == 40) = true := beq_iff_eq.mpr c8
    have c8b1 : ((bt a0 0) != 40) = false := bne_eq_false_iff_eq.mpr c8
    clear c8
    by_cases c9 : a1 ≥ 8
    ·rw [if_pos c9] at H
     have c9b0 : decide (8 ≤ a1) = true := decide_eq_true c9
     clear c9
     simp only [Option.some.injEq, Prod.mk.injEq] at H
     obtain ⟨rfl, rfl, rfl, rfl, rfl⟩ := H
     go_enter Tryd.func34, Tryd.ntmps34
     go_wp2_with (first | ((with_reducible refine gate_dst (N := 4) rfl ?_); (try (refine gate_guard (by rfl) ?_; dsimp only)); refine box_event ?hg (N := 4) ?hd (cs := #[.bool false, .string (⟨#[]⟩ : ByteArray), .slice none 0 0]) (t := 24) ?hr ?_; (case hd => rfl); (case hg => rfl); (case hr => first | (go_simp; done) | (go_simp; rfl)); intro gb202 hg w10 hbox hb; have n0_ := Aside0.mk (below_step (by repeat (first | (with_reducible first | exact HB.out | apply below_alloc | apply pw_below_drewN | apply below_drew1) | exact HB.out)) hb); have n1_ := Aside0.mk (hbox); have n2_ := Aside0.mk ((by rw [hg]; exact (below_size (by repeat (first | (with_reducible first | exact HB.out | apply below_alloc | apply pw_below_drewN | apply below_drew1) | exact HB.out))) : w.heap.size ≤ gb202)); have n3_ := Aside0.mk ((by rw [hg]; exact (below_size (by repeat (first | (with_reducible first | exact HB.out | apply below_alloc | apply pw_below_drewN | apply below_drew1) | exact HB.out))) : w.heap.size ≤ gb202)); clear HB; have HB := n0_; have BK202 := n1_; have GW202 := n2_; have GE202 := n3_; clear n0_ n1_ n2_ n3_; clear hb hbox hg; have p7 : 0 ≤ (0 : Int) := (by omega); have q7 : 0 < a0.size := (by have : (0 : Int) < (a0.size : Int) := of_decide_eq_true (by first | (with_reducible assumption) | assumption); omega); have hx7 : ∀ h : 0 < a0.size, ((a0[0]'h).toNat : Int) = bt a0 0 := bt_at a0 0; clear p7; have qi7 : (0 < (a0.size : Int)) = True := eq_true (of_decide_eq_true (by first | (with_reducible assumption) | assumption)); replace q7 := eq_true q7; have hcz11_0 : w10.cell? ⟨gb202, 0, none⟩ = some (.bool false) := (blk_cell BK202.out 0).trans rfl; have hcz11_1 : w10.cell? ⟨gb202, 1, none⟩ = some (.string (⟨#[]⟩ : ByteArray)) := (blk_cell BK202.out 1).trans rfl; have hcz11_2 : w10.cell? ⟨gb202, 2, none⟩ = some (.slice none 0 0) := (blk_cell BK202.out 2).trans rfl; have hfz11_0 := blk_frozen BK202.out 0; have hfz11_1 := blk_frozen BK202.out 1; have hfz11_2 := blk_frozen BK202.out 2))
     refine bodyPost_ret (results_ctt rfl _ _ gb202 24 #[.bool false, .string (⟨#[]⟩ : ByteArray), .slice none 0 0] (0, 0) _ rfl (by repeat (first | (with_reducible refine blk_drewN ?_ _) | (with_reducible refine blk_drew ?_) | (with_reducible refine blk_alloc ?_ _) | exact BK202.out | refine blk_put (cs := #[.bool false, .string (⟨#[]⟩ : ByteArray), .slice none 0 0]) ?_ _ _ rfl)) Tryd.underlying24 rfl (by kernel_rfl)) rfl ?_
     exact ⟨_, rfl, Kd.R_nil _ _ _ _ _, by repeat (first | (with_reducible first | exact HB.out | apply below_alloc | apply pw_below_drewN | apply below_drew1 | refine below_set ?_ GE202.out) | exact HB.out)⟩
    ·rw [if_neg c9] at H
     have c9b0 : decide (8 ≤ a1) = false := decide_eq_false c9
     clear c9
     by_cases c12 : 1 ≤ (a0.size : Int)
     ·rw [if_pos c12] at H
      have c12b0 := eq_true c12
      have c12b1 : decide (1 ≤ (a0.size : Int)) = true := decide_eq_true c12
      clear c12
      have H' := Aside0.mk H
      clear H
      go_enter Tryd.func34, Tryd.ntmps34
      go_wp2_with (first | ((with_reducible refine gate_dst (N := 4) rfl ?_); (try (refine gate_guard (by rfl) ?_; dsimp only)); refine box_event ?hg (N := 4) ?hd (cs := #[.bool false, .string (⟨#[]⟩ : ByteArray), .slice none 0 0]) (t := 24) ?hr ?_; (case hd => rfl); (case hg => rfl); (case hr => first | (go_simp; done) | (go_simp; rfl)); intro gb202 hg w13 hbox hb; have n0_ := Aside0.mk (below_step (by repeat (first | (with_reducible first | exact HB.out | apply below_alloc | apply pw_below_drewN | apply below_drew1) | exact HB.out)) hb); have n1_ := Aside0.mk (hbox); have n2_ := Aside0.mk ((by rw [hg]; exact (below_size (by repeat (first | (with_reducible first | exact HB.out | apply below_alloc | apply pw_below_drewN | apply below_drew1) | exact HB.out))) : w.heap.size ≤ gb202)); have n3_ := Aside0.mk ((by rw [hg]; exact (below_size (by repeat (first | (with_reducible first | exact HB.out | apply below_alloc | apply pw_below_drewN | apply below_drew1) | exact HB.out))) : w.heap.size ≤ gb202)); clear HB; have HB := n0_; have BK202 := n1_; have GW202 := n2_; have GE202 := n3_; clear n0_ n1_ n2_ n3_; clear hb hbox hg; have p7 : 0 ≤ (0 : Int) := (by omega); have q7 : 0 < a0.size := (by have : (0 : Int) < (a0.size : Int) := of_decide_eq_true (by first | (with_reducible assumption) | assumption); omega); have hx7 : ∀ h : 0 < a0.size, ((a0[0]'h).toNat : Int) = bt a0 0 := bt_at a0 0; clear p7; have qi7 : (0 < (a0.size : Int)) = True := eq_true (of_decide_eq_true (by first | (with_reducible assumption) | assumption)); replace q7 := eq_true q7) | ((with_reducible refine gate_dst (N := 7) rfl ?_); (try (refine gate_guard (by rfl) ?_; dsimp only)); refine box_event ?hg (N := 7) ?hd (cs := #[.bool false, .string (⟨#[]⟩ : ByteArray), .slice none 0 0]) (t := 24) ?hr ?_; (case hd => rfl); (case hg => rfl); (case hr => first | (go_simp; done) | (go_simp; rfl)); intro gb203 hg w14 hbox hb; have n0_ := Aside0.mk (blk_below (g := gb202) (o := .cells #[.bool false, .string (⟨#[]⟩ : ByteArray), .slice none 0 0] 24 (0, 0)) (by (with_reducible repeat (first | refine blk_drewN ?_ _ | refine blk_drew ?_ | refine blk_alloc ?_ _)); exact BK202.out) hb); have n1_ := Aside0.mk (below_step (by repeat (first | (with_reducible first | exact HB.out | apply below_alloc | apply pw_below_drewN | apply below_drew1 | refine below_set ?_ GE202.out) | exact HB.out)) hb); have n2_ := Aside0.mk (hbox); have n3_ := Aside0.mk ((by rw [hg]; exact (below_size (by repeat (first | (with_reducible first | exact HB.out | apply below_alloc | apply pw_below_drewN | apply below_drew1 | refine below_set ?_ GE202.out) | exact HB.out))) : w.heap.size ≤ gb203)); have n4_ := Aside0.mk ((by rw [hg]; exact (below_size (by repeat (first | (with_reducible first | exact HB.out | apply below_alloc | apply pw_below_drewN | apply below_drew1 | refine below_set ?_ GE202.out) | exact HB.out))) : w.heap.size ≤ gb203)); have n5_ := Aside0.mk ((by rw [hg]; exact Nat.ne_of_lt (blk_lt (g := gb202) (o := .cells #[.bool false, .string (⟨#[]⟩ : ByteArray), .slice none 0 0] 24 (0, 0)) (by (with_reducible repeat (first | refine blk_drewN ?_ _ | refine blk_drew ?_ | refine blk_alloc ?_ _)); exact BK202.out)) : gb202 ≠ gb203)); have n6_ := Aside0.mk ((by rw [hg]; exact Nat.ne_of_gt (blk_lt (g := gb202) (o := .cells #[.bool false, .string (⟨#[]⟩ : ByteArray), .slice none 0 0] 24 (0, 0)) (by (with_reducible repeat (first | refine blk_drewN ?_ _ | refine blk_drew ?_ | refine blk_alloc ?_ _)); exact BK202.out)) : gb203 ≠ gb202)); clear BK202; clear HB; have BK202 := n0_; have HB := n1_; have BK203 := n2_; have GW203 := n3_; have GE203 := n4_; have NB202_203 := n5_; have NB203_202 := n6_; clear n0_ n1_ n2_ n3_ n4_ n5_ n6_; clear hb hbox hg; have hnb15 := NB203_202.out; have hnc15 := NB202_203.out; have hcz16_0 : w14.cell? ⟨gb203, 0, none⟩ = some (.bool false) := (blk_cell BK203.out 0).trans rfl; have hcz16_1 : w14.cell? ⟨gb203, 1, none⟩ = some (.string (⟨#[]⟩ : ByteArray)) := (blk_cell BK203.out 1).trans rfl; have hcz16_2 : w14.cell? ⟨gb203, 2, none⟩ = some (.slice none 0 0) := (blk_cell BK203.out 2).trans rfl; have hfz16_0 := blk_frozen BK203.out 0; have hfz16_1 := blk_frozen BK203.out 1; have hfz16_2 := blk_frozen BK203.out 2))
      go_loopg [0] k (fun kq v0 w' => ∃ (x0_1 : ByteArray) (x203000_1 : Bool) (x203001_1 : ByteArray) (x204002_1 : List (S24)) (u204002 : Value), v0 = .string x0_1 ∧ Aside0 (tambourref04_item.l0 kq x0_1 a1 true (⟨#[]⟩ : ByteArray) x204002_1 = some (r1, r2, r3, r4, r5)) ∧ Aside0 (kq ≤ k) ∧ Aside0 (Kd.R k24 24 w' w.heap.size (fun k_ => k_ ≠ gb202 ∧ k_ ≠ gb203) u204002 x204002_1) ∧ Aside0 (w'.heap[gb202]? = some (.cells #[.bool x203000_1, .string x203001_1, (.slice none 0 0)] 24 (0, 0))) ∧ Aside0 (w'.heap[gb203]? = some (.cells #[.bool true, .string (⟨#[]⟩ : ByteArray), u204002] 24 (0, 0))) ∧ Aside0 (Below w.heap.size w w'))
      case atStart => exact ⟨(a0.extract 1 a0.size), (false), ((⟨#[]⟩ : ByteArray)), (([] : List (S24))), (.slice none 0 0), (by first | rfl | (simp; done) | (simp [*]; done)), H', ⟨Nat.le_refl _⟩, ⟨by first | exact Kd.R_nil _ _ _ _ _ | exact Kd.N_nil _ _ _ _ _ | exact Kd.V_nil _ _ _ _ _ | exact Kd.Q_nil _ _ _ _ _ | exact Kd.S_nil _ _ _ _ _⟩, ⟨by (with_reducible repeat (first | refine blk_drewN ?_ _ | refine blk_drew ?_ | refine blk_alloc ?_ _)); refine blk_far ?_ NB202_203.out _; (with_reducible repeat (first | refine blk_drewN ?_ _ | refine blk_drew ?_ | refine blk_alloc ?_ _)); refine blk_far ?_ NB202_203.out _; (with_reducible repeat (first | refine blk_drewN ?_ _ | refine blk_drew ?_ | refine blk_alloc ?_ _)); refine blk_far ?_ NB202_203.out _; (with_reducible repeat (first | refine blk_drewN ?_ _ | refine blk_drew ?_ | refine blk_alloc ?_ _)); exact BK202.out⟩, ⟨by (with_reducible repeat (first | refine blk_drewN ?_ _ | refine blk_drew ?_ | refine blk_alloc ?_ _)); refine blk_put (cs := #[.bool true, .string (⟨#[]⟩ : ByteArray), .slice none 0 0]) ?_ 2 _ rfl; (with_reducible repeat (first | refine blk_drewN ?_ _ | refine blk_drew ?_ | refine blk_alloc ?_ _)); refine blk_put (cs := #[.bool true, .string (⟨#[]⟩ : ByteArray), .slice none 0 0]) ?_ 1 _ rfl; (with_reducible repeat (first | refine blk_drewN ?_ _ | refine blk_drew ?_ | refine blk_alloc ?_ _)); refine blk_put (cs := #[.bool false, .string (⟨#[]⟩ : ByteArray), .slice none 0 0]) ?_ 0 _ rfl; (with_reducible repeat (first | refine blk_drewN ?_ _ | refine blk_drew ?_ | refine blk_alloc ?_ _)); exact BK203.out⟩, ⟨by repeat (first | (with_reducible first | exact HB.out | apply below_alloc | apply pw_below_drewN | apply below_drew1 | refine below_set ?_ GE202.out | refine below_set ?_ GE203.out) | exact HB.out)⟩⟩
      case round =>
       clear H'
       try clear c1
       try clear p2
       try clear c3
       try clear c3b0
       try clear c3b1
       try clear c6
       try clear c6b0
       try clear c6b1
       try clear p7
       try clear q7
       try clear hx7
       try clear qi7
       try clear c8
       try clear c8b0
       try clear c8b1
       try clear c9
       try clear c9b0
       try clear c12
       try clear c12b0
       try clear c12b1
       try clear c15
       try clear hcz11_0
       try clear hcz11_1
       try clear hcz11_2
       try clear hcz16_0
       try clear hcz16_1
       try clear hcz16_2
       try clear hcz5_0
       try clear hcz5_1
       try clear hcz5_2
       try clear hfz11_0
       try clear hfz11_1
       try clear hfz11_2
       try clear hfz16_0
       try clear hfz16_1
       try clear hfz16_2
       try clear hfz5_0
       try clear hfz5_1
       try clear hfz5_2
       try clear p7
       try clear q7
       obtain ⟨x0_1, x203000_1, x203001_1, x204002_1, u204002, rfl, HA, HK1, HO_204002, BK202, BK203, HB⟩ := hrel
       cases gk with
       | zero => exact absurd HA.out (by simp [tambourref04_item.l0])
       | succ k1 =>
        have H := HA.out
        clear HA
        simp only [tambourref04_item.l0] at H
        have HC17 := Aside0.mk H
        clear H
        go_upto_region 8 with (fail)
        go_cut [31] (fun v31 wc => ∃ (kq : Nat) (x31_16 : Bool), v31 = .bool x31_16 ∧ Aside0 (tambourref04_item.j1 kq x0_1 a1 x31_16 true (⟨#[]⟩ : ByteArray) x204002_1 = some (r1, r2, r3, r4, r5)) ∧ Aside0 (kq ≤ k1) ∧ Aside0 (Kd.R k24 24 wc w.heap.size (fun k_ => k_ ≠ gb202 ∧ k_ ≠ gb203) u204002 x204002_1) ∧ Aside0 (wc.heap[gb202]? = some (.cells #[.bool x203000_1, .string x203001_1, (.slice none 0 0)] 24 (0, 0))) ∧ Aside0 (wc.heap[gb203]? = some (.cells #[.bool true, .string (⟨#[]⟩ : ByteArray), u204002] 24 (0, 0))) ∧ Aside0 (Below w.heap.size w wc))
        case first =>
         have H := HC17.out
         clear HC17
         by_cases c18 : x0_1.toList = ([] : List UInt8)
         ·rw [if_pos c18] at H
          have c18b0 : (x0_1.toList == ([] : List UInt8)) = true := beq_iff_eq.mpr c18
          have c18b1 : (x0_1.toList != ([] : List UInt8)) = false := bne_eq_false_iff_eq.mpr c18
          clear c18
          (first | rw [c18b0] | (simp only [i64_w, i32_w]; rw [c18b0]) | skip)
          have H' := Aside0.mk H
          clear H
          go_wp2
          go_meet
          case rel => exact ⟨_, (false), (by first | rfl | (simp; done) | (simp [*]; done)), H', ⟨by have := HK1.out; first | omega | exact Nat.le_refl _⟩, ⟨by (with_reducible repeat (first | apply Kd.R_alloc | apply Kd.R_drewN | apply Kd.R_drew)); exact HO_204002.out⟩, ⟨by (with_reducible repeat (first | refine blk_drewN ?_ _ | refine blk_drew ?_ | refine blk_alloc ?_ _)); exact BK202.out⟩, ⟨by (with_reducible repeat (first | refine blk_drewN ?_ _ | refine blk_drew ?_ | refine blk_alloc ?_ _)); exact BK203.out⟩, ⟨by repeat (first | (with_reducible first | exact HB.out | apply below_alloc | apply pw_below_drewN | apply below_drew1 | refine below_set ?_ GE202.out | refine below_set ?_ GE203.out) | exact HB.out)⟩⟩
         ·rw [if_neg c18] at H
          have c18b0 : (x0_1.toList == ([] : List UInt8)) = false := beq_eq_false_iff_ne.mpr c18
          have c18b1 : (x0_1.toList != ([] : List UInt8)) = true := bne_iff_ne.mpr c18
          (first | rw [c18b0] | (simp only [i64_w, i32_w]; rw [c18b0]) | skip)
          by_cases c19 : 0 < (x0_1.size : Int)
          ·rw [if_pos c19] at H
           have c19b0 : decide (0 < (x0_1.size : Int)) = true := decide_eq_true c19
           have c19b1 : decide (0 < x0_1.size) = true := decide_eq_true (by omega)
           clear c19
           have H' := Aside0.mk H
           clear H
           have p20 : 0 ≤ (0 : Int) := (by omega)
           have q20 : 0 < x0_1.size := (by have : (0 : Int) < (x0_1.size : Int) := of_decide_eq_true (by first | (with_reducible assumption) | assumption); omega)
           have hx20 : ∀ h : 0 < x0_1.size, ((x0_1[0]'h).toNat : Int) = bt x0_1 0 := bt_at x0_1 0
           clear p20
           have qi20 : (0 < (x0_1.size : Int)) = True := eq_true (of_decide_eq_true (by first | (with_reducible assumption) | assumption))
           replace q20 := eq_true q20
           go_wp2
           go_meet
           case rel => exact ⟨_, (((bt x0_1 0) != 41)), (by first | rfl | (simp; done) | (simp [*]; done)), H', ⟨by have := HK1.out; first | omega | exact Nat.le_refl _⟩, ⟨by (with_reducible repeat (first | apply Kd.R_alloc | apply Kd.R_drewN | apply Kd.R_drew)); exact HO_204002.out⟩, ⟨by (with_reducible repeat (first | refine blk_drewN ?_ _ | refine blk_drew ?_ | refine blk_alloc ?_ _)); exact BK202.out⟩, ⟨by (with_reducible repeat (first | refine blk_drewN ?_ _ | refine blk_drew ?_ | refine blk_alloc ?_ _)); exact BK203.out⟩, ⟨by repeat (first | (with_reducible first | exact HB.out | apply below_alloc | apply pw_below_drewN | apply below_drew1 | refine below_set ?_ GE202.out | refine below_set ?_ GE203.out) | exact HB.out)⟩⟩
          ·rw [if_neg c19] at H
           exact absurd H (by simp)
        case rest =>
         clear HC17
         try clear c1
         try clear p2
         try clear q2
         try clear hx2
         try clear qi2
         try clear c3
         try clear c3b0
         try clear c3b1
         try clear c6
         try clear c6b0
         try clear c6b1
         try clear p7
         try clear q7
         try clear hx7
         try clear qi7
         try clear c8
         try clear c8b0
         try clear c8b1
         try clear c9
         try clear c9b0
         try clear c12
         try clear c12b0
         try clear c12b1
         try clear c15
         try clear c18
         try clear c18b0
         try clear c18b1
         try clear c19
         try clear c19b0
         try clear c19b1
         try clear p20
         try clear q20
         try clear hx20
         try clear qi20
         try clear hcz11_0
         try clear hcz11_1
         try clear hcz11_2
         try clear hcz16_0
         try clear hcz16_1
         try clear hcz16_2
         try clear hcz5_0
         try clear hcz5_1
         try clear hcz5_2
         try clear hfz11_0
         try clear hfz11_1
         try clear hfz11_2
         try clear hfz16_0
         try clear hfz16_1
         try clear hfz16_2
         try clear hfz5_0
         try clear hfz5_1
         try clear hfz5_2
         try clear p2
         try clear p20
         try clear p7
         try clear q20
         try clear q7
         obtain ⟨kq, x31_16, rfl, HA, HJ16, HO_204002, BK202, BK203, HB⟩ := hcut
         cases kq with
         | zero => exact absurd HA.out (by simp [tambourref04_item.j1])
         | succ kj16 =>
          have H := HA.out
          clear HA
          simp only [tambourref04_item.j1] at H
          by_cases c21 : x31_16 = true
          ·subst c21
           have H1 : ((tambourref04_item.f kj16 x0_1 (wrap64 (a1 + 1))).bind fun bt204 => (if bt204.2.2.2.2 = true then (if x204002_1.length < 2932031007402 then (tambourref04_item.l0 kj16 bt204.2.2.2.1 a1 true (⟨#[]⟩ : ByteArray) (x204002_1 ++ [(⟨bt204.1, bt204.2.1, bt204.2.2.1⟩ : S24)])) else (none)) else (some (false, (⟨#[]⟩ : ByteArray), ([] : List (S24)), (⟨#[]⟩ : ByteArray), false)))) = some (r1, r2, r3, r4, r5) := by rw [if_pos rfl] at H; exact H
           clear H
           have H := H1
           clear H1
           replace H := Option.bind_eq_some_iff.mp H
           obtain ⟨⟨t204, t205, t206, t209, t210⟩, A220, H⟩ := H
           replace H : (if t210 = true then (if x204002_1.length < 2932031007402 then (tambourref04_item.l0 kj16 t209 a1 true (⟨#[]⟩ : ByteArray) (x204002_1 ++ [(⟨t204, t205, t206⟩ : S24)])) else (none)) else (some (false, (⟨#[]⟩ : ByteArray), ([] : List (S24)), (⟨#[]⟩ : ByteArray), false))) = some (r1, r2, r3, r4, r5) := H
           have A22 := Aside0.mk A220
           clear A220
           by_cases c23 : t210 = true
           ·subst c23
            have H1 : (if x204002_1.length < 2932031007402 then (tambourref04_item.l0 kj16 t209 a1 true (⟨#[]⟩ : ByteArray) (x204002_1 ++ [(⟨t204, t205, t206⟩ : S24)])) else (none)) = some (r1, r2, r3, r4, r5) := by rw [if_pos rfl] at H; exact H
            clear H
            have H := H1
            clear H1
            by_cases c24 : x204002_1.length < 2932031007402
            ·rw [if_pos c24] at H
             have LMc24 := Aside0.mk c24
             clear c24
             obtain ⟨y212, hy212⟩ : ∃ y_ : List (S24), y_ = (x204002_1 ++ [(⟨t204, t205, t206⟩ : S24)]) := ⟨_, rfl⟩
             replace H : (tambourref04_item.l0 kj16 t209 a1 true (⟨#[]⟩ : ByteArray) y212) = some (r1, r2, r3, r4, r5) := by first | (rw [hy212]; with_reducible exact H) | (have H2_ := (Option.bind_some _ _).symm.trans H; rw [hy212]; with_reducible exact H2_) | (have H2_ := (Option.bind_some _ _).symm.trans H; with_reducible exact H2_) | with_reducible exact H | (rw [hy212]; exact H) | exact H
             have Ny212 := Aside0.mk hy212
             clear hy212
             have H' := Aside0.mk H
             clear H
             go_wp2_with (first | ((with_reducible refine gate_callee (f := 34) rfl ?_); refine goesL_ (some 36) rfl rfl Tryd.func34 (by kernel_rfl) rfl #[.string x0_1, .int .i64 (wrap64 (a1 + 1))] rfl (by (try simp only [List.map_toArray, List.map_cons, List.map_nil]); first | done | rfl | (simp only [List.length_drop, List.length_take]; rfl)) ?_; (with_reducible refine (ih kj16 (by have := HK1.out; have := HJ16.out; omega) x0_1 (wrap64 (a1 + 1)) t204 t205 t206 t209 true _ A22.out).mono ?_); rintro e w25 ⟨v207, rfl, ho0, hb⟩; refine ⟨_, rfl, ?_⟩; have n0_ := Aside0.mk (Kd.R_elder' (by (with_reducible repeat (first | apply Kd.R_alloc | apply Kd.R_drewN | apply Kd.R_drew)); exact HO_204002.out) (Kd.R_base ho0) hb); have n1_ := Aside0.mk (Kd.R_lower (Kd.R_newB (Kd.R_newB (Kd.R_new' ho0 (Kd.R_lt (by (with_reducible repeat (first | apply Kd.R_alloc | apply Kd.R_drewN | apply Kd.R_drew)); exact HO_204002.out))) (g := gb202) (o := .cells #[.bool x203000_1, .string x203001_1, .slice none 0 0] 24 (0, 0)) (by (with_reducible repeat (first | refine blk_drewN ?_ _ | refine blk_drew ?_ | refine blk_alloc ?_ _)); exact BK202.out)) (g := gb203) (o := .cells #[.bool true, .string (⟨#[]⟩ : ByteArray), u204002] 24 (0, 0)) (by (with_reducible repeat (first | refine blk_drewN ?_ _ | refine blk_drew ?_ | refine blk_alloc ?_ _)); exact BK203.out)) (below_size (by repeat (first | (with_reducible first | exact HB.out | apply below_alloc | apply pw_below_drewN | apply below_drew1 | refine below_set ?_ GE202.out | refine below_set ?_ GE203.out) | exact HB.out)))); have n2_ := Aside0.mk (blk_below (g := gb202) (o := .cells #[.bool x203000_1, .string x203001_1, .slice none 0 0] 24 (0, 0)) (by (with_reducible repeat (first | refine blk_drewN ?_ _ | refine blk_drew ?_ | refine blk_alloc ?_ _)); exact BK202.out) hb); have n3_ := Aside0.mk (blk_below (g := gb203) (o := .cells #[.bool true, .string (⟨#[]⟩ : ByteArray), u204002] 24 (0, 0)) (by (with_reducible repeat (first | refine blk_drewN ?_ _ | refine blk_drew ?_ | refine blk_alloc ?_ _)); exact BK203.out) hb); have n4_ := Aside0.mk (below_step (by repeat (first | (with_reducible first | exact HB.out | apply below_alloc | apply pw_below_drewN | apply below_drew1 | refine below_set ?_ GE202.out | refine below_set ?_ GE203.out) | exact HB.out)) hb); clear HO_204002; clear BK202; clear BK203; clear HB; have HO_204002 := n0_; have HO208 := n1_; have BK202 := n2_; have BK203 := n3_; have HB := n4_; clear n0_ n1_ n2_ n3_ n4_; (try clear hb); (try clear hb2); (try clear hk); (try clear hi); (try clear ho0)) | ((with_reducible refine gate_dst (N := 8) rfl ?_); (try (refine gate_guard (by rfl) ?_; dsimp only)); refine box_event ?hg (N := 8) ?hd (cs := #[.bool false, .string (⟨#[]⟩ : ByteArray), .slice none 0 0]) (t := 24) ?hr ?_; (case hd => rfl); (case hg => rfl); (case hr => first | (go_simp; done) | (go_simp; rfl)); intro gb211 hg w26 hbox hb; have n0_ := Aside0.mk (Kd.R_below (Kd.R_elderB (by (with_reducible repeat (first | apply Kd.R_alloc | apply Kd.R_drewN | apply Kd.R_drew)); exact HO_204002.out) gb211 (Nat.le_of_eq hg.symm)) hb); have n1_ := Aside0.mk (Kd.R_below (Kd.R_elderB (by (with_reducible repeat (first | apply Kd.R_alloc | apply Kd.R_drewN | apply Kd.R_drew)); exact HO208.out) gb211 (Nat.le_of_eq hg.symm)) hb); have n2_ := Aside0.mk (blk_below (g := gb202) (o := .cells #[.bool x203000_1, .string x203001_1, .slice none 0 0] 24 (0, 0)) (by (with_reducible repeat (first | refine blk_drewN ?_ _ | refine blk_drew ?_ | refine blk_alloc ?_ _)); exact BK202.out) hb); have n3_ := Aside0.mk (blk_below (g := gb203) (o := .cells #[.bool true, .string (⟨#[]⟩ : ByteArray), u204002] 24 (0, 0)) (by (with_reducible repeat (first | refine blk_drewN ?_ _ | refine blk_drew ?_ | refine blk_alloc ?_ _)); exact BK203.out) hb); have n4_ := Aside0.mk (below_step (by repeat (first | (with_reducible first | exact HB.out | apply below_alloc | apply pw_below_drewN | apply below_drew1 | refine below_set ?_ GE202.out | refine below_set ?_ GE203.out) | exact HB.out)) hb); have n5_ := Aside0.mk (hbox); have n6_ := Aside0.mk ((by rw [hg]; exact (below_size (by repeat (first | (with_reducible first | exact HB.out | apply below_alloc | apply pw_below_drewN | apply below_drew1 | refine below_set ?_ GE202.out | refine below_set ?_ GE203.out) | exact HB.out))) : w.heap.size ≤ gb211)); have n7_ := Aside0.mk ((by rw [hg]; exact (below_size (by repeat (first | (with_reducible first | exact HB.out | apply below_alloc | apply pw_below_drewN | apply below_drew1 | refine below_set ?_ GE202.out | refine below_set ?_ GE203.out) | exact HB.out))) : w.heap.size ≤ gb211)); have n8_ := Aside0.mk ((by rw [hg]; exact Nat.ne_of_lt (blk_lt (g := gb202) (o := .cells #[.bool x203000_1, .string x203001_1, .slice none 0 0] 24 (0, 0)) (by (with_reducible repeat (first | refine blk_drewN ?_ _ | refine blk_drew ?_ | refine blk_alloc ?_ _)); exact BK202.out)) : gb202 ≠ gb211)); have n9_ := Aside0.mk ((by rw [hg]; exact Nat.ne_of_gt (blk_lt (g := gb202) (o := .cells #[.bool x203000_1, .string x203001_1, .slice none 0 0] 24 (0, 0)) (by (with_reducible repeat (first | refine blk_drewN ?_ _ | refine blk_drew ?_ | refine blk_alloc ?_ _)); exact BK202.out)) : gb211 ≠ gb202)); have n10_ := Aside0.mk ((by rw [hg]; exact Nat.ne_of_lt (blk_lt (g := gb203) (o := .cells #[.bool true, .string (⟨#[]⟩ : ByteArray), u204002] 24 (0, 0)) (by (with_reducible repeat (first | refine blk_drewN ?_ _ | refine blk_drew ?_ | refine blk_alloc ?_ _)); exact BK203.out)) : gb203 ≠ gb211)); have n11_ := Aside0.mk ((by rw [hg]; exact Nat.ne_of_gt (blk_lt (g := gb203) (o := .cells #[.bool true, .string (⟨#[]⟩ : ByteArray), u204002] 24 (0, 0)) (by (with_reducible repeat (first | refine blk_drewN ?_ _ | refine blk_drew ?_ | refine blk_alloc ?_ _)); exact BK203.out)) : gb211 ≠ gb203)); clear HO_204002; clear HO208; clear BK202; clear BK203; clear HB; have HO_204002 := n0_; have HO208 := n1_; have BK202 := n2_; have BK203 := n3_; have HB := n4_; have BK211 := n5_; have GW211 := n6_; have GE211 := n7_; have NB202_211 := n8_; have NB211_202 := n9_; have NB203_211 := n10_; have NB211_203 := n11_; clear n0_ n1_ n2_ n3_ n4_ n5_ n6_ n7_ n8_ n9_ n10_ n11_; clear hb hbox hg; have hnb27 := NB211_202.out; have hnc27 := NB202_211.out; have hnb28 := NB211_203.out; have hnc28 := NB203_211.out; have hcz29_0 : w26.cell? ⟨gb211, 0, none⟩ = some (.bool false) := (blk_cell BK211.out 0).trans rfl; have hcz29_1 : w26.cell? ⟨gb211, 1, none⟩ = some (.string (⟨#[]⟩ : ByteArray)) := (blk_cell BK211.out 1).trans rfl; have hcz29_2 : w26.cell? ⟨gb211, 2, none⟩ = some (.slice none 0 0) := (blk_cell BK211.out 2).trans rfl; have hfz29_0 := blk_frozen BK211.out 0; have hfz29_1 := blk_frozen BK211.out 1; have hfz29_2 := blk_frozen BK211.out 2; obtain ⟨Ao30, co30, eo30⟩ := Kd.R_slice HO208.out; subst eo30) | ((with_reducible refine gate_store (t := 24) (p := 8) rfl ?_); refine store_event (t := 24) (p := 8) (v := ?vo_w31) (w1 := (((w26.setCell ⟨gb211, 0, none⟩ (.bool t204)).setCell ⟨gb211, 1, none⟩ (.string t205)).setCell ⟨gb211, 2, none⟩ (.slice Ao30 t206.length co30))) ?hg ?ho ?hn ?hr ?_; (case ho => rfl); (case hg => rfl); (case hn => rfl); (case hr => first | (go_simp; done) | (go_simp; rfl)); intro w31 hw; have n0_ : Aside0 (Kd.R k24 24 w31 w.heap.size (fun k_ => some k_ ≠ (.slice Ao30 t206.length co30 : Value).ownBlock ∧ k_ ≠ gb202 ∧ k_ ≠ gb203 ∧ k_ ≠ gb211) u204002 x204002_1) := ⟨(by rw [hw]; exact (by (with_reducible repeat (first | apply Kd.R_alloc | apply Kd.R_drewN | apply Kd.R_drew)); exact Kd.R_mono (Kd.R_far (p := ⟨gb211, 2, none⟩) (Kd.R_far (p := ⟨gb211, 1, none⟩) (Kd.R_far (p := ⟨gb211, 0, none⟩) (Kd.R_mono HO_204002.out (fun k_ hk => (⟨hk, hk.2⟩ : _ ∧ k_ ≠ gb211))) (fun _ hk => hk.2) (.bool t204)) (fun _ hk => hk.2) (.string t205)) (fun _ hk => hk.2) (.slice Ao30 t206.length co30)) (fun _ hk => ⟨hk.1.1.2, ⟨hk.1.1.1.1, ⟨hk.1.1.1.2, hk.1.2⟩⟩⟩)))⟩; have n1_ : Aside0 (Kd.R k24 24 w31 w.heap.size (fun k_ => some k_ ≠ (u204002 : Value).ownBlock ∧ k_ ≠ gb202 ∧ k_ ≠ gb203 ∧ k_ ≠ gb211) (.slice Ao30 t206.length co30) t206) := ⟨(by rw [hw]; exact (by (with_reducible repeat (first | apply Kd.R_alloc | apply Kd.R_drewN | apply Kd.R_drew)); exact Kd.R_mono (Kd.R_far (p := ⟨gb211, 2, none⟩) (Kd.R_far (p := ⟨gb211, 1, none⟩) (Kd.R_far (p := ⟨gb211, 0, none⟩) (Kd.R_mono HO208.out (fun k_ hk => (⟨hk, hk.2⟩ : _ ∧ k_ ≠ gb211))) (fun _ hk => hk.2) (.bool t204)) (fun _ hk => hk.2) (.string t205)) (fun _ hk => hk.2) (.slice Ao30 t206.length co30)) (fun _ hk => ⟨hk.1.1.1.1.2, ⟨hk.1.1.1.2, ⟨hk.1.1.2, hk.1.2⟩⟩⟩)))⟩; have n2_ : Aside0 (w31.heap[gb202]? = some (.cells #[.bool x203000_1, .string x203001_1, .slice none 0 0] 24 (0, 0))) := ⟨(by rw [hw]; exact (by (with_reducible repeat (first | refine blk_drewN ?_ _ | refine blk_drew ?_ | refine blk_alloc ?_ _)); refine blk_far ?_ NB202_211.out _; (with_reducible repeat (first | refine blk_drewN ?_ _ | refine blk_drew ?_ | refine blk_alloc ?_ _)); refine blk_far ?_ NB202_211.out _; (with_reducible repeat (first | refine blk_drewN ?_ _ | refine blk_drew ?_ | refine blk_alloc ?_ _)); refine blk_far ?_ NB202_211.out _; (with_reducible repeat (first | refine blk_drewN ?_ _ | refine blk_drew ?_ | refine blk_alloc ?_ _)); exact BK202.out))⟩; have n3_ : Aside0 (w31.heap[gb203]? = some (.cells #[.bool true, .string (⟨#[]⟩ : ByteArray), u204002] 24 (0, 0))) := ⟨(by rw [hw]; exact (by (with_reducible repeat (first | refine blk_drewN ?_ _ | refine blk_drew ?_ | refine blk_alloc ?_ _)); refine blk_far ?_ NB203_211.out _; (with_reducible repeat (first | refine blk_drewN ?_ _ | refine blk_drew ?_ | refine blk_alloc ?_ _)); refine blk_far ?_ NB203_211.out _; (with_reducible repeat (first | refine blk_drewN ?_ _ | refine blk_drew ?_ | refine blk_alloc ?_ _)); refine blk_far ?_ NB203_211.out _; (with_reducible repeat (first | refine blk_drewN ?_ _ | refine blk_drew ?_ | refine blk_alloc ?_ _)); exact BK203.out))⟩; have n4_ : Aside0 (w31.heap[gb211]? = some (.cells #[.bool t204, .string t205, .slice Ao30 t206.length co30] 24 (0, 0))) := ⟨(by rw [hw]; exact (by (with_reducible repeat (first | refine blk_drewN ?_ _ | refine blk_drew ?_ | refine blk_alloc ?_ _)); refine blk_put (cs := #[.bool t204, .string t205, .slice none 0 0]) ?_ 2 _ rfl; (with_reducible repeat (first | refine blk_drewN ?_ _ | refine blk_drew ?_ | refine blk_alloc ?_ _)); refine blk_put (cs := #[.bool t204, .string (⟨#[]⟩ : ByteArray), .slice none 0 0]) ?_ 1 _ rfl; (with_reducible repeat (first | refine blk_drewN ?_ _ | refine blk_drew ?_ | refine blk_alloc ?_ _)); refine blk_put (cs := #[.bool false, .string (⟨#[]⟩ : ByteArray), .slice none 0 0]) ?_ 0 _ rfl; (with_reducible repeat (first | refine blk_drewN ?_ _ | refine blk_drew ?_ | refine blk_alloc ?_ _)); exact BK211.out))⟩; have n5_ : Aside0 (Below w.heap.size w w31) := ⟨(by rw [hw]; exact (by repeat (first | (with_reducible first | exact HB.out | apply below_alloc | apply pw_below_drewN | apply below_drew1 | refine below_set ?_ GE202.out | refine below_set ?_ GE203.out | refine below_set ?_ GE211.out) | exact HB.out)))⟩; clear hw; clear HO_204002; clear HO208; clear BK202; clear BK203; clear BK211; clear HB; have HO_204002 := n0_; have HO208 := n1_; have BK202 := n2_; have BK203 := n3_; have BK211 := n4_; have HB := n5_; clear n0_ n1_ n2_ n3_ n4_ n5_; have hnb32 := NB203_202.out; have hnc32 := NB202_203.out; have hcz33_0 : w31.cell? ⟨gb203, 0, none⟩ = some (.bool true) := (blk_cell BK203.out 0).trans rfl; have hcz33_1 : w31.cell? ⟨gb203, 1, none⟩ = some (.string (⟨#[]⟩ : ByteArray)) := (blk_cell BK203.out 1).trans rfl; have hcz33_2 : w31.cell? ⟨gb203, 2, none⟩ = some (u204002) := (blk_cell BK203.out 2).trans rfl; have hfz33_0 := blk_frozen BK203.out 0; have hfz33_1 := blk_frozen BK203.out 1; have hfz33_2 := blk_frozen BK203.out 2; have hcz34_0 : w31.cell? ⟨gb211, 0, none⟩ = some (.bool t204) := (blk_cell BK211.out 0).trans rfl; have hcz34_1 : w31.cell? ⟨gb211, 1, none⟩ = some (.string t205) := (blk_cell BK211.out 1).trans rfl; have hcz34_2 : w31.cell? ⟨gb211, 2, none⟩ = some (.slice Ao30 t206.length co30) := (blk_cell BK211.out 2).trans rfl; have hfz34_0 := blk_frozen BK211.out 0; have hfz34_1 := blk_frozen BK211.out 1; have hfz34_2 := blk_frozen BK211.out 2) | ((with_reducible refine gate_builtin (b := .append) (xs := #[.tmp 44, .tmp 46]) rfl ?_); (try (refine gate_guard (by rfl) ?_; dsimp only)); at_builtin; refine Kd.R_append k24 (w0 := w) w.heap.size rfl (.tmp 44) (.tmp 46) 22 24 (.agg #[(.bool false), (.string ⟨#[]⟩), (.slice none 0 0)]) 48 rfl Tryd.underlying22 info24 rfl (by decide) (by omega) u204002 x204002_1 (⟨t204, t205, t206⟩ : S24) [.bool t204, .string t205, .slice Ao30 t206.length co30] (fun k_ => k_ ≠ gb202 ∧ k_ ≠ gb203 ∧ k_ ≠ gb211) (fun k_ => ((fun k_ => k_ ≠ gb202 ∧ k_ ≠ gb203 ∧ k_ ≠ gb211)) k_ ∧ some k_ ≠ (u204002 : Value).ownBlock) rfl rfl ?aP (fun _ hk => hk) ?aF ?aO ?aB ?aS ?aL ?_; (case aP => exact k24_mkM _ _ _ (⟨t204, t205, t206⟩ : S24) (Kd.R_mono (HO208.out) (fun k_ hk => ⟨⟨hk.2.1, ⟨hk.2.2.1, hk.2.2.2⟩⟩, hk.1⟩))); (case aB => exact (by repeat (first | (with_reducible first | exact HB.out | apply below_alloc | apply pw_below_drewN | apply below_drew1 | refine below_set ?_ GE202.out | refine below_set ?_ GE203.out | refine below_set ?_ GE211.out) | exact HB.out))); (case aF => exact (fun k_ hk => ⟨Kd.freshB (g := gb202) (o := .cells #[.bool x203000_1, .string x203001_1, .slice none 0 0] 24 (0, 0)) (by (with_reducible repeat (first | refine blk_drewN ?_ _ | refine blk_drew ?_ | refine blk_alloc ?_ _)); exact BK202.out) k_ hk, Kd.freshB (g := gb203) (o := .cells #[.bool true, .string (⟨#[]⟩ : ByteArray), u204002] 24 (0, 0)) (by (with_reducible repeat (first | refine blk_drewN ?_ _ | refine blk_drew ?_ | refine blk_alloc ?_ _)); exact BK203.out) k_ hk, Kd.freshB (g := gb211) (o := .cells #[.bool t204, .string t205, .slice Ao30 t206.length co30] 24 (0, 0)) (by (with_reducible repeat (first | refine blk_drewN ?_ _ | refine blk_drew ?_ | refine blk_alloc ?_ _)); exact BK211.out) k_ hk⟩)); (case aO => exact (by (with_reducible repeat (first | apply Kd.R_alloc | apply Kd.R_drewN | apply Kd.R_drew)); exact Kd.R_mono HO_204002.out (fun _ hk => ⟨hk.2.1, ⟨hk.2.2.1, hk.2.2.2⟩⟩))); (case aS => exact (below_size (by repeat (first | (with_reducible first | exact HB.out | apply below_alloc | apply pw_below_drewN | apply below_drew1 | refine below_set ?_ GE202.out | refine below_set ?_ GE203.out | refine below_set ?_ GE211.out) | exact HB.out)))); (case aL => have := LMc24.out; omega); intro v213 w35 ho hb hg hat; rw [← Ny212.out] at ho; have n0_ := Aside0.mk (blk_grown (g := gb202) (o := .cells #[.bool x203000_1, .string x203001_1, .slice none 0 0] 24 (0, 0)) (by (with_reducible repeat (first | refine blk_drewN ?_ _ | refine blk_drew ?_ | refine blk_alloc ?_ _)); exact BK202.out) hg (Kd.R_away HO_204002.out (fun _ hk => hk.2.1))); have n1_ := Aside0.mk (blk_grown (g := gb203) (o := .cells #[.bool true, .string (⟨#[]⟩ : ByteArray), u204002] 24 (0, 0)) (by (with_reducible repeat (first | refine blk_drewN ?_ _ | refine blk_drew ?_ | refine blk_alloc ?_ _)); exact BK203.out) hg (Kd.R_away HO_204002.out (fun _ hk => hk.2.2.1))); have n2_ := Aside0.mk (blk_grown (g := gb211) (o := .cells #[.bool t204, .string t205, .slice Ao30 t206.length co30] 24 (0, 0)) (by (with_reducible repeat (first | refine blk_drewN ?_ _ | refine blk_drew ?_ | refine blk_alloc ?_ _)); exact BK211.out) hg (Kd.R_away HO_204002.out (fun _ hk => hk.2.2.2))); have n3_ := Aside0.mk (hb); have n4_ := Aside0.mk (ho); clear BK202; clear BK203; clear BK211; clear HB; clear HO_204002; clear HO208; have BK202 := n0_; have BK203 := n1_; have BK211 := n2_; have HB := n3_; have HO214 := n4_; clear n0_ n1_ n2_ n3_ n4_; clear ho hb hg hat; obtain ⟨Ao36, co36, eo36⟩ := Kd.R_slice HO214.out; subst eo36; have hcz37_0 : w35.cell? ⟨gb203, 0, none⟩ = some (.bool true) := (blk_cell BK203.out 0).trans rfl; have hcz37_1 : w35.cell? ⟨gb203, 1, none⟩ = some (.string (⟨#[]⟩ : ByteArray)) := (blk_cell BK203.out 1).trans rfl; have hcz37_2 : w35.cell? ⟨gb203, 2, none⟩ = some (u204002) := (blk_cell BK203.out 2).trans rfl; have hfz37_0 := blk_frozen BK203.out 0; have hfz37_1 := blk_frozen BK203.out 1; have hfz37_2 := blk_frozen BK203.out 2))
             go_roundg kj16
             case measure => have := HK1.out; have := HJ16.out; omega
             case rel => exact ⟨(t209), (x203000_1), (x203001_1), (y212), (.slice Ao36 y212.length co36), (by first | rfl | (simp; done) | (simp [*]; done)), H', ⟨by have := HK1.out; have := HJ16.out; omega⟩, ⟨by (with_reducible repeat (first | apply Kd.R_alloc | apply Kd.R_drewN | apply Kd.R_drew)); exact Kd.R_mono (Kd.R_far (p := ⟨gb203, 2, none⟩) (Kd.R_mono HO214.out (fun k_ hk => (⟨hk, hk.2.1⟩ : _ ∧ k_ ≠ gb203))) (fun _ hk => hk.2) (.slice Ao36 y212.length co36)) (fun _ hk => ⟨hk.1.1, hk.1.2.1⟩)⟩, ⟨by (with_reducible repeat (first | refine blk_drewN ?_ _ | refine blk_drew ?_ | refine blk_alloc ?_ _)); refine blk_far ?_ NB202_203.out _; (with_reducible repeat (first | refine blk_drewN ?_ _ | refine blk_drew ?_ | refine blk_alloc ?_ _)); exact BK202.out⟩, ⟨by (with_reducible repeat (first | refine blk_drewN ?_ _ | refine blk_drew ?_ | refine blk_alloc ?_ _)); refine blk_put (cs := #[.bool true, .string (⟨#[]⟩ : ByteArray), u204002]) ?_ 2 _ rfl; (with_reducible repeat (first | refine blk_drewN ?_ _ | refine blk_drew ?_ | refine blk_alloc ?_ _)); exact BK203.out⟩, ⟨by repeat (first | (with_reducible first | exact HB.out | apply below_alloc | apply pw_below_drewN | apply below_drew1 | refine below_set ?_ GE202.out | refine below_set ?_ GE203.out | refine below_set ?_ GE211.out) | exact HB.out)⟩⟩
            ·rw [if_neg c24] at H
             exact absurd H (by simp)
           ·replace c23 := Bool.eq_false_iff.mpr c23
            subst c23
            have H1 : (some (false, (⟨#[]⟩ : ByteArray), ([] : List (S24)), (⟨#[]⟩ : ByteArray), false)) = some (r1, r2, r3, r4, r5) := by rw [if_neg (show ¬ (false = true) by decide)] at H; exact H
            clear H
            have H := H1
            clear H1
            simp only [Option.some.injEq, Prod.mk.injEq] at H
            obtain ⟨rfl, rfl, rfl, rfl, rfl⟩ := H
            go_wp2_with (first | ((with_reducible refine gate_callee (f := 34) rfl ?_); refine goesL_ (some 36) rfl rfl Tryd.func34 (by kernel_rfl) rfl #[.string x0_1, .int .i64 (wrap64 (a1 + 1))] rfl (by (try simp only [List.map_toArray, List.map_cons, List.map_nil]); first | done | rfl | (simp only [List.length_drop, List.length_take]; rfl)) ?_; (with_reducible refine (ih kj16 (by have := HK1.out; have := HJ16.out; omega) x0_1 (wrap64 (a1 + 1)) t204 t205 t206 t209 false _ A22.out).mono ?_); rintro e w38 ⟨v207, rfl, ho0, hb⟩; refine ⟨_, rfl, ?_⟩; have n0_ := Aside0.mk (Kd.R_elder' (by (with_reducible repeat (first | apply Kd.R_alloc | apply Kd.R_drewN | apply Kd.R_drew)); exact HO_204002.out) (Kd.R_base ho0) hb); have n1_ := Aside0.mk (Kd.R_lower (Kd.R_newB (Kd.R_newB (Kd.R_new' ho0 (Kd.R_lt (by (with_reducible repeat (first | apply Kd.R_alloc | apply Kd.R_drewN | apply Kd.R_drew)); exact HO_204002.out))) (g := gb202) (o := .cells #[.bool x203000_1, .string x203001_1, .slice none 0 0] 24 (0, 0)) (by (with_reducible repeat (first | refine blk_drewN ?_ _ | refine blk_drew ?_ | refine blk_alloc ?_ _)); exact BK202.out)) (g := gb203) (o := .cells #[.bool true, .string (⟨#[]⟩ : ByteArray), u204002] 24 (0, 0)) (by (with_reducible repeat (first | refine blk_drewN ?_ _ | refine blk_drew ?_ | refine blk_alloc ?_ _)); exact BK203.out)) (below_size (by repeat (first | (with_reducible first | exact HB.out | apply below_alloc | apply pw_below_drewN | apply below_drew1 | refine below_set ?_ GE202.out | refine below_set ?_ GE203.out) | exact HB.out)))); have n2_ := Aside0.mk (blk_below (g := gb202) (o := .cells #[.bool x203000_1, .string x203001_1, .slice none 0 0] 24 (0, 0)) (by (with_reducible repeat (first | refine blk_drewN ?_ _ | refine blk_drew ?_ | refine blk_alloc ?_ _)); exact BK202.out) hb); have n3_ := Aside0.mk (blk_below (g := gb203) (o := .cells #[.bool true, .string (⟨#[]⟩ : ByteArray), u204002] 24 (0, 0)) (by (with_reducible repeat (first | refine blk_drewN ?_ _ | refine blk_drew ?_ | refine blk_alloc ?_ _)); exact BK203.out) hb); have n4_ := Aside0.mk (below_step (by repeat (first | (with_reducible first | exact HB.out | apply below_alloc | apply pw_below_drewN | apply below_drew1 | refine below_set ?_ GE202.out | refine below_set ?_ GE203.out) | exact HB.out)) hb); clear HO_204002; clear BK202; clear BK203; clear HB; have HO_204002 := n0_; have HO208 := n1_; have BK202 := n2_; have BK203 := n3_; have HB := n4_; clear n0_ n1_ n2_ n3_ n4_; (try clear hb); (try clear hb2); (try clear hk); (try clear hi); (try clear ho0)) | ((with_reducible refine gate_dst (N := 8) rfl ?_); (try (refine gate_guard (by rfl) ?_; dsimp only)); refine box_event ?hg (N := 8) ?hd (cs := #[.bool false, .string (⟨#[]⟩ : ByteArray), .slice none 0 0]) (t := 24) ?hr ?_; (case hd => rfl); (case hg => rfl); (case hr => first | (go_simp; done) | (go_simp; rfl)); intro gb211 hg w39 hbox hb; have n0_ := Aside0.mk (Kd.R_below (Kd.R_elderB (by (with_reducible repeat (first | apply Kd.R_alloc | apply Kd.R_drewN | apply Kd.R_drew)); exact HO_204002.out) gb211 (Nat.le_of_eq hg.symm)) hb); have n1_ := Aside0.mk (Kd.R_below (Kd.R_elderB (by (with_reducible repeat (first | apply Kd.R_alloc | apply Kd.R_drewN | apply Kd.R_drew)); exact HO208.out) gb211 (Nat.le_of_eq hg.symm)) hb); have n2_ := Aside0.mk (blk_below (g := gb202) (o := .cells #[.bool x203000_1, .string x203001_1, .slice none 0 0] 24 (0, 0)) (by (with_reducible repeat (first | refine blk_drewN ?_ _ | refine blk_drew ?_ | refine blk_alloc ?_ _)); exact BK202.out) hb); have n3_ := Aside0.mk (blk_below (g := gb203) (o := .cells #[.bool true, .string (⟨#[]⟩ : ByteArray), u204002] 24 (0, 0)) (by (with_reducible repeat (first | refine blk_drewN ?_ _ | refine blk_drew ?_ | refine blk_alloc ?_ _)); exact BK203.out) hb); have n4_ := Aside0.mk (below_step (by repeat (first | (with_reducible first | exact HB.out | apply below_alloc | apply pw_below_drewN | apply below_drew1 | refine below_set ?_ GE202.out | refine below_set ?_ GE203.out) | exact HB.out)) hb); have n5_ := Aside0.mk (hbox); have n6_ := Aside0.mk ((by rw [hg]; exact (below_size (by repeat (first | (with_reducible first | exact HB.out | apply below_alloc | apply pw_below_drewN | apply below_drew1 | refine below_set ?_ GE202.out | refine below_set ?_ GE203.out) | exact HB.out))) : w.heap.size ≤ gb211)); have n7_ := Aside0.mk ((by rw [hg]; exact (below_size (by repeat (first | (with_reducible first | exact HB.out | apply below_alloc | apply pw_below_drewN | apply below_drew1 | refine below_set ?_ GE202.out | refine below_set ?_ GE203.out) | exact HB.out))) : w.heap.size ≤ gb211)); have n8_ := Aside0.mk ((by rw [hg]; exact Nat.ne_of_lt (blk_lt (g := gb202) (o := .cells #[.bool x203000_1, .string x203001_1, .slice none 0 0] 24 (0, 0)) (by (with_reducible repeat (first | refine blk_drewN ?_ _ | refine blk_drew ?_ | refine blk_alloc ?_ _)); exact BK202.out)) : gb202 ≠ gb211)); have n9_ := Aside0.mk ((by rw [hg]; exact Nat.ne_of_gt (blk_lt (g := gb202) (o := .cells #[.bool x203000_1, .string x203001_1, .slice none 0 0] 24 (0, 0)) (by (with_reducible repeat (first | refine blk_drewN ?_ _ | refine blk_drew ?_ | refine blk_alloc ?_ _)); exact BK202.out)) : gb211 ≠ gb202)); have n10_ := Aside0.mk ((by rw [hg]; exact Nat.ne_of_lt (blk_lt (g := gb203) (o := .cells #[.bool true, .string (⟨#[]⟩ : ByteArray), u204002] 24 (0, 0)) (by (with_reducible repeat (first | refine blk_drewN ?_ _ | refine blk_drew ?_ | refine blk_alloc ?_ _)); exact BK203.out)) : gb203 ≠ gb211)); have n11_ := Aside0.mk ((by rw [hg]; exact Nat.ne_of_gt (blk_lt (g := gb203) (o := .cells #[.bool true, .string (⟨#[]⟩ : ByteArray), u204002] 24 (0, 0)) (by (with_reducible repeat (first | refine blk_drewN ?_ _ | refine blk_drew ?_ | refine blk_alloc ?_ _)); exact BK203.out)) : gb211 ≠ gb203)); clear HO_204002; clear HO208; clear BK202; clear BK203; clear HB; have HO_204002 := n0_; have HO208 := n1_; have BK202 := n2_; have BK203 := n3_; have HB := n4_; have BK211 := n5_; have GW211 := n6_; have GE211 := n7_; have NB202_211 := n8_; have NB211_202 := n9_; have NB203_211 := n10_; have NB211_203 := n11_; clear n0_ n1_ n2_ n3_ n4_ n5_ n6_ n7_ n8_ n9_ n10_ n11_; clear hb hbox hg; have hnb40 := NB211_202.out; have hnc40 := NB202_211.out; have hnb41 := NB211_203.out; have hnc41 := NB203_211.out; have hcz42_0 : w39.cell? ⟨gb211, 0, none⟩ = some (.bool false) := (blk_cell BK211.out 0).trans rfl; have hcz42_1 : w39.cell? ⟨gb211, 1, none⟩ = some (.string (⟨#[]⟩ : ByteArray)) := (blk_cell BK211.out 1).trans rfl; have hcz42_2 : w39.cell? ⟨gb211, 2, none⟩ = some (.slice none 0 0) := (blk_cell BK211.out 2).trans rfl; have hfz42_0 := blk_frozen BK211.out 0; have hfz42_1 := blk_frozen BK211.out 1; have hfz42_2 := blk_frozen BK211.out 2; obtain ⟨Ao43, co43, eo43⟩ := Kd.R_slice HO208.out; subst eo43; have hnb44 := NB202_203.out; have hnc44 := NB203_202.out; have hcz45_0 : w39.cell? ⟨gb202, 0, none⟩ = some (.bool x203000_1) := (blk_cell BK202.out 0).trans rfl; have hcz45_1 : w39.cell? ⟨gb202, 1, none⟩ = some (.string x203001_1) := (blk_cell BK202.out 1).trans rfl; have hcz45_2 : w39.cell? ⟨gb202, 2, none⟩ = some (.slice none 0 0) := (blk_cell BK202.out 2).trans rfl; have hfz45_0 := blk_frozen BK202.out 0; have hfz45_1 := blk_frozen BK202.out 1; have hfz45_2 := blk_frozen BK202.out 2))
            refine bodyPost_ret (results_ctt rfl _ _ gb202 24 #[.bool false, .string (⟨#[]⟩ : ByteArray), .slice none 0 0] (0, 0) _ rfl (by (with_reducible repeat (first | refine blk_drewN ?_ _ | refine blk_drew ?_ | refine blk_alloc ?_ _)); refine blk_put (cs := #[.bool false, .string (⟨#[]⟩ : ByteArray), .slice none 0 0]) ?_ 2 _ rfl; (with_reducible repeat (first | refine blk_drewN ?_ _ | refine blk_drew ?_ | refine blk_alloc ?_ _)); refine blk_put (cs := #[.bool false, .string x203001_1, .slice none 0 0]) ?_ 1 _ rfl; (with_reducible repeat (first | refine blk_drewN ?_ _ | refine blk_drew ?_ | refine blk_alloc ?_ _)); refine blk_put (cs := #[.bool x203000_1, .string x203001_1, .slice none 0 0]) ?_ 0 _ rfl; (with_reducible repeat (first | refine blk_drewN ?_ _ | refine blk_drew ?_ | refine blk_alloc ?_ _)); refine blk_far ?_ NB202_211.out _; (with_reducible repeat (first | refine blk_drewN ?_ _ | refine blk_drew ?_ | refine blk_alloc ?_ _)); refine blk_far ?_ NB202_211.out _; (with_reducible repeat (first | refine blk_drewN ?_ _ | refine blk_drew ?_ | refine blk_alloc ?_ _)); refine blk_far ?_ NB202_211.out _; (with_reducible repeat (first | refine blk_drewN ?_ _ | refine blk_drew ?_ | refine blk_alloc ?_ _)); exact BK202.out) Tryd.underlying24 rfl (by kernel_rfl)) rfl ?_
            exact ⟨_, rfl, Kd.R_nil _ _ _ _ _, by repeat (first | (with_reducible first | exact HB.out | apply below_alloc | apply pw_below_drewN | apply below_drew1 | refine below_set ?_ GE202.out | refine below_set ?_ GE203.out | refine below_set ?_ GE211.out) | exact HB.out)⟩
          ·replace c21 := Bool.eq_false_iff.mpr c21
           subst c21
           have H1 : (if x0_1.toList = ([] : List UInt8) then (some (false, (⟨#[]⟩ : ByteArray), ([] : List (S24)), (⟨#[]⟩ : ByteArray), false)) else (if 1 ≤ (x0_1.size : Int) then (some (true, (⟨#[]⟩ : ByteArray), x204002_1, x0_1.extract 1 x0_1.size, true)) else (none))) = some (r1, r2, r3, r4, r5) := by rw [if_neg (show ¬ (false = true) by decide)] at H; exact H
           clear H
           have H := H1
           clear H1
           by_cases c46 : x0_1.toList = ([] : List UInt8)
           ·rw [if_pos c46] at H
            have c46b0 : (x0_1.toList == ([] : List UInt8)) = true := beq_iff_eq.mpr c46
            have c46b1 : (x0_1.toList != ([] : List UInt8)) = false := bne_eq_false_iff_eq.mpr c46
            clear c46
            simp only [Option.some.injEq, Prod.mk.injEq] at H
            obtain ⟨rfl, rfl, rfl, rfl, rfl⟩ := H
            have hnb47 := NB202_203.out
            have hnc47 := NB203_202.out
            have hcz48_0 : wc.cell? ⟨gb202, 0, none⟩ = some (.bool x203000_1) := (blk_cell BK202.out 0).trans rfl
            have hcz48_1 : wc.cell? ⟨gb202, 1, none⟩ = some (.string x203001_1) := (blk_cell BK202.out 1).trans rfl
            have hcz48_2 : wc.cell? ⟨gb202, 2, none⟩ = some (.slice none 0 0) := (blk_cell BK202.out 2).trans rfl
            have hfz48_0 := blk_frozen BK202.out 0
            have hfz48_1 := blk_frozen BK202.out 1
            have hfz48_2 := blk_frozen BK202.out 2
            go_wp2
            refine bodyPost_ret (results_ctt rfl _ _ gb202 24 #[.bool false, .string (⟨#[]⟩ : ByteArray), .slice none 0 0] (0, 0) _ rfl (by (with_reducible repeat (first | refine blk_drewN ?_ _ | refine blk_drew ?_ | refine blk_alloc ?_ _)); refine blk_put (cs := #[.bool false, .string (⟨#[]⟩ : ByteArray), .slice none 0 0]) ?_ 2 _ rfl; (with_reducible repeat (first | refine blk_drewN ?_ _ | refine blk_drew ?_ | refine blk_alloc ?_ _)); refine blk_put (cs := #[.bool false, .string x203001_1, .slice none 0 0]) ?_ 1 _ rfl; (with_reducible repeat (first | refine blk_drewN ?_ _ | refine blk_drew ?_ | refine blk_alloc ?_ _)); refine blk_put (cs := #[.bool x203000_1, .string x203001_1, .slice none 0 0]) ?_ 0 _ rfl; (with_reducible repeat (first | refine blk_drewN ?_ _ | refine blk_drew ?_ | refine blk_alloc ?_ _)); exact BK202.out) Tryd.underlying24 rfl (by kernel_rfl)) rfl ?_
            exact ⟨_, rfl, Kd.R_nil _ _ _ _ _, by repeat (first | (with_reducible first | exact HB.out | apply below_alloc | apply pw_below_drewN | apply below_drew1 | refine below_set ?_ GE202.out | refine below_set ?_ GE203.out) | exact HB.out)⟩
           ·rw [if_neg c46] at H
            have c46b0 : (x0_1.toList == ([] : List UInt8)) = false := beq_eq_false_iff_ne.mpr c46
            have c46b1 : (x0_1.toList != ([] : List UInt8)) = true := bne_iff_ne.mpr c46
            by_cases c49 : 1 ≤ (x0_1.size : Int)
            ·rw [if_pos c49] at H
             have c49b0 := eq_true c49
             have c49b1 : decide (1 ≤ (x0_1.size : Int)) = true := decide_eq_true c49
             clear c49
             simp only [Option.some.injEq, Prod.mk.injEq] at H
             obtain ⟨rfl, rfl, rfl, rfl, rfl⟩ := H
             try go_wp2
             have n0_ := Aside0.mk (Kd.R_drew HO_204002.out)
             have n1_ := Aside0.mk (blk_drew BK202.out)
             have n2_ := Aside0.mk (blk_drew BK203.out)
             have n3_ := Aside0.mk (below_drew1 HB.out)
             clear HO_204002
             clear BK202
             clear BK203
             clear HB
             have HO_204002 := n0_
             have BK202 := n1_
             have BK203 := n2_
             have HB := n3_
             clear n0_ n1_ n2_ n3_
             obtain ⟨Ao53, co53, eo53⟩ := Kd.R_slice HO_204002.out
             (first | subst eo53 | (injection eo53 with f1_ f2_ f3_; have f4_ := f1_.symm; have f5_ := f3_.symm; clear f1_ f2_ f3_; subst f4_; subst f5_))
             refine start_ (n := 6) (S := fun w' => w'.cell? ⟨gb203, 0, none⟩ = some (.bool true) ∧ w'.cell? ⟨gb203, 1, none⟩ = some (.string (⟨#[]⟩ : ByteArray)) ∧ w'.cell? ⟨gb203, 2, none⟩ = some (.slice Ao53 x204002_1.length co53)) (ds := []) #[false, false, false, false, false, false] (by kernel_rfl) rfl rfl ⟨(blk_cell BK203.out 0).trans rfl, (blk_cell BK203.out 1).trans rfl, (blk_cell BK203.out 2).trans rfl⟩ (fun hHeld => ?_)
             generalize wc.drew = w50 at HO_204002 BK202 BK203 HB hHeld ⊢
             refine pure_ (i := 1) (N := some 54) (v := ?_) (a' := ?_) #[false, true, false, false, false, false] rfl rfl (by kernel_rfl) (fun _ _ _ h => h) (Or.inl ⟨by rfl, ?_⟩) ?_ ?_
             rotate_left
             ·intro w'
              go_simp
              with_reducible rfl
             rotate_left
             ·simp only [Act.put, List.setIfInBounds_toArray, List.set_cons_zero, List.set_cons_succ, i64_w, i32_w]
              rfl
             refine pure_ (i := 2) (N := some 55) (v := ?_) (a' := ?_) #[false, true, true, false, false, false] rfl rfl (by kernel_rfl) (fun _ _ _ h => h) (Or.inl ⟨by rfl, ?_⟩) ?_ ?_
             rotate_left
             ·intro w'
              go_simp
              with_reducible rfl
             rotate_left
             ·simp only [Act.put, List.setIfInBounds_toArray, List.set_cons_zero, List.set_cons_succ, i64_w, i32_w]
              rfl
             refine take_ (i := 0) (N := some 53) (v := ?_) (a' := ?_) #[true, true, true, false, false, false] rfl rfl (by kernel_rfl) (fun _ _ _ h => h) (Or.inl ⟨by rfl, ?_⟩) hHeld ?_ ?_
             rotate_left
             ·rintro w' ⟨s0, s1, s2⟩
              go_simp
              with_reducible rfl
             rotate_left
             ·simp only [Act.put, List.setIfInBounds_toArray, List.set_cons_zero, List.set_cons_succ, i64_w, i32_w]
              rfl
             refine one_ (i := 3) (N := none) #[true, true, true, true, false, false] rfl rfl (by kernel_rfl) (by decide) (fun K hK => ?_)
             have hs51 : w50.cell? ⟨gb202, 0, none⟩ = some (.bool x203000_1) := (blk_cell BK202.out 0).trans rfl
             have hfs51 := blk_frozen BK202.out 0
             have hns51_1 := NB203_202.out
             have hms51_1 := NB202_203.out
             have hs52 : w50.cell? ⟨gb202, 1, none⟩ = some (.string x203001_1) := (blk_cell BK202.out 1).trans rfl
             have hfs52 := blk_frozen BK202.out 1
             have hns52_1 := NB203_202.out
             have hms52_1 := NB202_203.out
             have hs54 : w50.cell? ⟨gb202, 2, none⟩ = some (.slice none 0 0) := (blk_cell BK202.out 2).trans rfl
             have hfs54 := blk_frozen BK202.out 2
             have hns54_1 := NB203_202.out
             have hms54_1 := NB202_203.out
             refine skip_ (w1 := ?_) (by rfl) rfl ?_ ?_
             rotate_left
             ·go_simp
              rfl
             refine hK.out _ _ ⟨((cell_far (p := ⟨gb202, _, none⟩) NB203_202.out _).trans (((cell_far (p := ⟨gb202, _, none⟩) NB203_202.out _).trans (((cell_far (p := ⟨gb202, _, none⟩) NB203_202.out _).trans (hHeld.1)))))), ((cell_far (p := ⟨gb202, _, none⟩) NB203_202.out _).trans (((cell_far (p := ⟨gb202, _, none⟩) NB203_202.out _).trans (((cell_far (p := ⟨gb202, _, none⟩) NB203_202.out _).trans (hHeld.2.1)))))), ((cell_far (p := ⟨gb202, _, none⟩) NB203_202.out _).trans (((cell_far (p := ⟨gb202, _, none⟩) NB203_202.out _).trans (((cell_far (p := ⟨gb202, _, none⟩) NB203_202.out _).trans (hHeld.2.2))))))⟩ (fun hHeld => ?_)
             clear hK K
             refine pure_ (i := 4) (N := some 5) (v := ?_) (a' := ?_) #[true, true, true, true, true, false] rfl rfl (by kernel_rfl) (fun _ _ _ h => h) (Or.inl ⟨by rfl, ?_⟩) ?_ ?_
             rotate_left
             ·intro w'
              go_simp
              with_reducible rfl
             rotate_left
             ·simp only [Act.put, List.setIfInBounds_toArray, List.set_cons_zero, List.set_cons_succ, i64_w, i32_w]
              rfl
             refine pure_ (i := 5) (N := some 6) (v := ?_) (a' := ?_) #[true, true, true, true, true, true] rfl rfl (by kernel_rfl) (fun _ _ _ h => h) (Or.inl ⟨by rfl, ?_⟩) ?_ ?_
             rotate_left
             ·intro w'
              go_simp
              with_reducible rfl
             rotate_left
             ·simp only [Act.put, List.setIfInBounds_toArray, List.set_cons_zero, List.set_cons_succ, i64_w, i32_w]
              rfl
             refine done_ (by kernel_rfl) ?_
             try go_wp2
             refine bodyPost_ret (results_ctt rfl _ _ gb202 24 #[.bool true, .string (⟨#[]⟩ : ByteArray), .slice Ao53 x204002_1.length co53] (0, 0) _ rfl (by (with_reducible repeat (first | refine blk_drewN ?_ _ | refine blk_drew ?_ | refine blk_alloc ?_ _)); refine blk_put (cs := #[.bool true, .string (⟨#[]⟩ : ByteArray), .slice none 0 0]) ?_ 2 _ rfl; (with_reducible repeat (first | refine blk_drewN ?_ _ | refine blk_drew ?_ | refine blk_alloc ?_ _)); refine blk_put (cs := #[.bool true, .string x203001_1, .slice none 0 0]) ?_ 1 _ rfl; (with_reducible repeat (first | refine blk_drewN ?_ _ | refine blk_drew ?_ | refine blk_alloc ?_ _)); refine blk_put (cs := #[.bool x203000_1, .string x203001_1, .slice none 0 0]) ?_ 0 _ rfl; (with_reducible repeat (first | refine blk_drewN ?_ _ | refine blk_drew ?_ | refine blk_alloc ?_ _)); exact BK202.out) Tryd.underlying24 rfl (by kernel_rfl)) rfl ?_
             exact ⟨_, by first | rfl | (simp [errW_none, errW_some] <;> rfl) | (simp [*, errW_none, errW_some] <;> rfl), by (with_reducible repeat (first | apply Kd.R_alloc | apply Kd.R_drewN | apply Kd.R_drew)); exact Kd.R_mono (Kd.R_far (p := ⟨gb202, 2, none⟩) (Kd.R_far (p := ⟨gb202, 1, none⟩) (Kd.R_far (p := ⟨gb202, 0, none⟩) (Kd.R_mono HO_204002.out (fun k_ hk => (⟨hk, hk.1⟩ : _ ∧ k_ ≠ gb202))) (fun _ hk => hk.2) (.bool true)) (fun _ hk => hk.2) (.string (⟨#[]⟩ : ByteArray))) (fun _ hk => hk.2) (.slice Ao53 x204002_1.length co53)) (fun _ hk => trivial), by repeat (first | (with_reducible first | exact HB.out | apply below_alloc | apply pw_below_drewN | apply below_drew1 | refine below_set ?_ GE202.out | refine below_set ?_ GE203.out) | exact HB.out)⟩
            ·rw [if_neg c49] at H
             exact absurd H (by simp)
     ·rw [if_neg c12] at H
      exact absurd H (by simp)
   ·rw [if_neg c8] at H
    have c8b0 : ((bt a0 0) == 40) = false := beq_eq_false_iff_ne.mpr c8
    have c8b1 : ((bt a0 0) != 40) = true := bne_iff_ne.mpr c8
    have H' := Aside0.mk H
    clear H
    go_enter Tryd.func34, Tryd.ntmps34
    go_wp2_with (first | ((with_reducible refine gate_dst (N := 4) rfl ?_); (try (refine gate_guard (by rfl) ?_; dsimp only)); refine box_event ?hg (N := 4) ?hd (cs := #[.bool false, .string (⟨#[]⟩ : ByteArray), .slice none 0 0]) (t := 24) ?hr ?_; (case hd => rfl); (case hg => rfl); (case hr => first | (go_simp; done) | (go_simp; rfl)); intro gb202 hg w55 hbox hb; have n0_ := Aside0.mk (below_step (by repeat (first | (with_reducible first | exact HB.out | apply below_alloc | apply pw_below_drewN | apply below_drew1) | exact HB.out)) hb); have n1_ := Aside0.mk (hbox); have n2_ := Aside0.mk ((by rw [hg]; exact (below_size (by repeat (first | (with_reducible first | exact HB.out | apply below_alloc | apply pw_below_drewN | apply below_drew1) | exact HB.out))) : w.heap.size ≤ gb202)); have n3_ := Aside0.mk ((by rw [hg]; exact (below_size (by repeat (first | (with_reducible first | exact HB.out | apply below_alloc | apply pw_below_drewN | apply below_drew1) | exact HB.out))) : w.heap.size ≤ gb202)); clear HB; have HB := n0_; have BK202 := n1_; have GW202 := n2_; have GE202 := n3_; clear n0_ n1_ n2_ n3_; clear hb hbox hg; have p7 : 0 ≤ (0 : Int) := (by omega); have q7 : 0 < a0.size := (by have : (0 : Int) < (a0.size : Int) := of_decide_eq_true (by first | (with_reducible assumption) | assumption); omega); have hx7 : ∀ h : 0 < a0.size, ((a0[0]'h).toNat : Int) = bt a0 0 := bt_at a0 0; clear p7; have qi7 : (0 < (a0.size : Int)) = True := eq_true (of_decide_eq_true (by first | (with_reducible assumption) | assumption)); replace q7 := eq_true q7))
    go_loopg [11, 12] k (fun kq v11 v12 w' => ∃ (x11_1 : Int) (x12_1 : Int), v11 = .int .i64 x11_1 ∧ v12 = .int .i64 x12_1 ∧ Aside0 (tambourref04_item.l1 kq a0 x11_1 x12_1 = some (r1, r2, r3, r4, r5)) ∧ Aside0 (kq ≤ k) ∧ Aside0 (w'.heap[gb202]? = some (.cells #[.bool false, .string (⟨#[]⟩ : ByteArray), (.slice none 0 0)] 24 (0, 0))) ∧ Aside0 (Below w.heap.size w w'))
    case atStart => exact ⟨(0), (0), (by first | rfl | (simp; done) | (simp [*]; done)), (by first | rfl | (simp; done) | (simp [*]; done)), H', ⟨Nat.le_refl _⟩, ⟨by (with_reducible repeat (first | refine blk_drewN ?_ _ | refine blk_drew ?_ | refine blk_alloc ?_ _)); exact BK202.out⟩, ⟨by repeat (first | (with_reducible first | exact HB.out | apply below_alloc | apply pw_below_drewN | apply below_drew1 | refine below_set ?_ GE202.out) | exact HB.out)⟩⟩
    case round =>
     clear H'
     try clear c1
     try clear c2
     try clear p2
     try clear q2
     try clear hx2
     try clear qi2
     try clear c3
     try clear c3b0
     try clear c3b1
     try clear c4
     try clear c6
     try clear c6b0
     try clear c6b1
     try clear p6
     try clear p7
     try clear q7
     try clear hx7
     try clear qi7
     try clear c8
     try clear c8b0
     try clear c8b1
     try clear c9
     try clear c9b0
     try clear c12
     try clear c12b0
     try clear c12b1
     try clear c15
     try clear c18
     try clear c18b0
     try clear c18b1
     try clear c19
     try clear c19b0
     try clear c19b1
     try clear p20
     try clear q20
     try clear hx20
     try clear qi20
     try clear c21
     try clear c23
     try clear c24
     try clear c27
     try clear c28
     try clear c32
     try clear c34
     try clear c40
     try clear c41
     try clear c44
     try clear c46
     try clear c46b0
     try clear c46b1
     try clear c47
     try clear c49
     try clear c49b0
     try clear c49b1
     try clear hcz11_0
     try clear hcz11_1
     try clear hcz11_2
     try clear hcz16_0
     try clear hcz16_1
     try clear hcz16_2
     try clear hcz29_0
     try clear hcz29_1
     try clear hcz29_2
     try clear hcz33_0
     try clear hcz33_1
     try clear hcz33_2
     try clear hcz34_0
     try clear hcz34_1
     try clear hcz34_2
     try clear hcz37_0
     try clear hcz37_1
     try clear hcz37_2
     try clear hcz42_0
     try clear hcz42_1
     try clear hcz42_2
     try clear hcz45_0
     try clear hcz45_1
     try clear hcz45_2
     try clear hcz48_0
     try clear hcz48_1
     try clear hcz48_2
     try clear hcz5_0
     try clear hcz5_1
     try clear hcz5_2
     try clear hfz11_0
     try clear hfz11_1
     try clear hfz11_2
     try clear hfz16_0
     try clear hfz16_1
     try clear hfz16_2
     try clear hfz29_0
     try clear hfz29_1
     try clear hfz29_2
     try clear hfz33_0
     try clear hfz33_1
     try clear hfz33_2
     try clear hfz34_0
     try clear hfz34_1
     try clear hfz34_2
     try clear hfz37_0
     try clear hfz37_1
     try clear hfz37_2
     try clear hfz42_0
     try clear hfz42_1
     try clear hfz42_2
     try clear hfz45_0
     try clear hfz45_1
     try clear hfz45_2
     try clear hfz48_0
     try clear hfz48_1
     try clear hfz48_2
     try clear hfz5_0
     try clear hfz5_1
     try clear hfz5_2
     try clear p2
     try clear p20
     try clear p7
     try clear q2
     try clear q20
     try clear q7
     obtain ⟨x11_1, x12_1, rfl, rfl, HA, HK1, BK202, HB⟩ := hrel
     cases gk with
     | zero => exact absurd HA.out (by simp [tambourref04_item.l1])
     | succ k1 =>
      have H := HA.out
      clear HA
      simp only [tambourref04_item.l1] at H
      by_cases c56 : x12_1 < (a0.size : Int)
      ·rw [if_pos c56] at H
       have c56b0 : decide (x12_1 < (a0.size : Int)) = true := decide_eq_true c56
       clear c56
       by_cases c57 : 0 ≤ x12_1
       ·rw [if_pos c57] at H
        have c57b0 : decide (0 ≤ x12_1) = true := decide_eq_true c57
        clear c57
        by_cases c59 : (bt a0 x12_1) ≥ 48
        ·rw [if_pos c59] at H
         have c59b0 : decide (48 ≤ (bt a0 x12_1)) = true := decide_eq_true c59
         clear c59
         by_cases c61 : (bt a0 x12_1) ≤ 57
         ·rw [if_pos c61] at H
          have c61b0 : decide ((bt a0 x12_1) ≤ 57) = true := decide_eq_true c61
          clear c61
          by_cases c62 : x12_1 < 6
          ·rw [if_pos c62] at H
           have c62b0 : decide (x12_1 < 6) = true := decide_eq_true c62
           clear c62
           have H' := Aside0.mk H
           clear H
           have p58 : 0 ≤ (x12_1 : Int) := of_decide_eq_true (by first | (with_reducible assumption) | assumption)
           have q58 : x12_1 < (a0.size : Int) := of_decide_eq_true (by first | (with_reducible assumption) | assumption)
           have hx58 := bt_at a0 x12_1
           replace p58 := eq_true p58
           replace q58 := eq_true q58
           have p60 : 0 ≤ (x12_1 : Int) := of_decide_eq_true (by first | (with_reducible assumption) | assumption)
           have q60 : x12_1 < (a0.size : Int) := of_decide_eq_true (by first | (with_reducible assumption) | assumption)
           have hx60 := bt_at a0 x12_1
           replace p60 := eq_true p60
           replace q60 := eq_true q60
           have p63 : 0 ≤ (x12_1 : Int) := of_decide_eq_true (by first | (with_reducible assumption) | assumption)
           have q63 : x12_1 < (a0.size : Int) := of_decide_eq_true (by first | (with_reducible assumption) | assumption)
           have hx63 := bt_at a0 x12_1
           replace p63 := eq_true p63
           replace q63 := eq_true q63
           go_wp2
           go_roundg k1
           case measure => have := HK1.out; omega
           case rel => exact ⟨(wrap64 ((wrap64 (x11_1 * 10)) + (((bt a0 x12_1) - 48) % 256))), (wrap64 (x12_1 + 1)), (by first | rfl | (simp; done) | (simp [*]; done)), (by first | rfl | (simp; done) | (simp [*]; done)), H', ⟨by have := HK1.out; omega⟩, ⟨by (with_reducible repeat (first | refine blk_drewN ?_ _ | refine blk_drew ?_ | refine blk_alloc ?_ _)); exact BK202.out⟩, ⟨by repeat (first | (with_reducible first | exact HB.out | apply below_alloc | apply pw_below_drewN | apply below_drew1 | refine below_set ?_ GE202.out) | exact HB.out)⟩⟩
          ·rw [if_neg c62] at H
           have c62b0 : decide (x12_1 < 6) = false := decide_eq_false c62
           clear c62
           by_cases c64 : x12_1 = 0
           ·rw [if_pos c64] at H
            have c64b0 : (x12_1 == 0) = true := beq_iff_eq.mpr c64
            have c64b1 : (x12_1 != 0) = false := bne_eq_false_iff_eq.mpr c64
            clear c64
            simp only [Option.some.injEq, Prod.mk.injEq] at H
            obtain ⟨rfl, rfl, rfl, rfl, rfl⟩ := H
            have p58 : 0 ≤ (x12_1 : Int) := of_decide_eq_true (by first | (with_reducible assumption) | assumption)
            have q58 : x12_1 < (a0.size : Int) := of_decide_eq_true (by first | (with_reducible assumption) | assumption)
            have hx58 := bt_at a0 x12_1
            replace p58 := eq_true p58
            replace q58 := eq_true q58
            have p60 : 0 ≤ (x12_1 : Int) := of_decide_eq_true (by first | (with_reducible assumption) | assumption)
            have q60 : x12_1 < (a0.size : Int) := of_decide_eq_true (by first | (with_reducible assumption) | assumption)
            have hx60 := bt_at a0 x12_1
            replace p60 := eq_true p60
            replace q60 := eq_true q60
            have hcz65_0 : wr.cell? ⟨gb202, 0, none⟩ = some (.bool false) := (blk_cell BK202.out 0).trans rfl
            have hcz65_1 : wr.cell? ⟨gb202, 1, none⟩ = some (.string (⟨#[]⟩ : ByteArray)) := (blk_cell BK202.out 1).trans rfl
            have hcz65_2 : wr.cell? ⟨gb202, 2, none⟩ = some (.slice none 0 0) := (blk_cell BK202.out 2).trans rfl
            have hfz65_0 := blk_frozen BK202.out 0
            have hfz65_1 := blk_frozen BK202.out 1
            have hfz65_2 := blk_frozen BK202.out 2
            go_wp2
            refine bodyPost_ret (results_ctt rfl _ _ gb202 24 #[.bool false, .string (⟨#[]⟩ : ByteArray), .slice none 0 0] (0, 0) _ rfl (by repeat (first | (with_reducible refine blk_drewN ?_ _) | (with_reducible refine blk_drew ?_) | (with_reducible refine blk_alloc ?_ _) | exact BK202.out | refine blk_put (cs := #[.bool false, .string (⟨#[]⟩ : ByteArray), .slice none 0 0]) ?_ _ _ rfl)) Tryd.underlying24 rfl (by kernel_rfl)) rfl ?_
            exact ⟨_, rfl, Kd.R_nil _ _ _ _ _, by repeat (first | (with_reducible first | exact HB.out | apply below_alloc | apply pw_below_drewN | apply below_drew1 | refine below_set ?_ GE202.out) | exact HB.out)⟩
           ·rw [if_neg c64] at H
            have c64b0 : (x12_1 == 0) = false := beq_eq_false_iff_ne.mpr c64
            have c64b1 : (x12_1 != 0) = true := bne_iff_ne.mpr c64
            by_cases c66 : x12_1 > 1
            ·rw [if_pos c66] at H
             have c66b0 : decide (1 < x12_1) = true := decide_eq_true c66
             clear c66
             by_cases c67 : 0 < (a0.size : Int)
             ·rw [if_pos c67] at H
              have c67b0 : decide (0 < (a0.size : Int)) = true := decide_eq_true c67
              have c67b1 : decide (0 < a0.size) = true := decide_eq_true (by omega)
              clear c67
              by_cases c69 : (bt a0 0) = 48
              ·rw [if_pos c69] at H
               have c69b0 : ((bt a0 0) == 48) = true := beq_iff_eq.mpr c69
               have c69b1 : ((bt a0 0) != 48) = false := bne_eq_false_iff_eq.mpr c69
               clear c69
               simp only [Option.some.injEq, Prod.mk.injEq] at H
               obtain ⟨rfl, rfl, rfl, rfl, rfl⟩ := H
               have p58 : 0 ≤ (x12_1 : Int) := of_decide_eq_true (by first | (with_reducible assumption) | assumption)
               have q58 : x12_1 < (a0.size : Int) := of_decide_eq_true (by first | (with_reducible assumption) | assumption)
               have hx58 := bt_at a0 x12_1
               replace p58 := eq_true p58
               replace q58 := eq_true q58
               have p60 : 0 ≤ (x12_1 : Int) := of_decide_eq_true (by first | (with_reducible assumption) | assumption)
               have q60 : x12_1 < (a0.size : Int) := of_decide_eq_true (by first | (with_reducible assumption) | assumption)
               have hx60 := bt_at a0 x12_1
               replace p60 := eq_true p60
               replace q60 := eq_true q60
               have p68 : 0 ≤ (0 : Int) := (by omega)
               have q68 : 0 < a0.size := (by have : (0 : Int) < (a0.size : Int) := of_decide_eq_true (by first | (with_reducible assumption) | assumption); omega)
               have hx68 : ∀ h : 0 < a0.size, ((a0[0]'h).toNat : Int) = bt a0 0 := bt_at a0 0
               clear p68
               have qi68 : (0 < (a0.size : Int)) = True := eq_true (of_decide_eq_true (by first | (with_reducible assumption) | assumption))
               replace q68 := eq_true q68
               have hcz70_0 : wr.cell? ⟨gb202, 0, none⟩ = some (.bool false) := (blk_cell BK202.out 0).trans rfl
               have hcz70_1 : wr.cell? ⟨gb202, 1, none⟩ = some (.string (⟨#[]⟩ : ByteArray)) := (blk_cell BK202.out 1).trans rfl
               have hcz70_2 : wr.cell? ⟨gb202, 2, none⟩ = some (.slice none 0 0) := (blk_cell BK202.out 2).trans rfl
               have hfz70_0 := blk_frozen BK202.out 0
               have hfz70_1 := blk_frozen BK202.out 1
               have hfz70_2 := blk_frozen BK202.out 2
               go_wp2
               refine bodyPost_ret (results_ctt rfl _ _ gb202 24 #[.bool false, .string (⟨#[]⟩ : ByteArray), .slice none 0 0] (0, 0) _ rfl (by repeat (first | (with_reducible refine blk_drewN ?_ _) | (with_reducible refine blk_drew ?_) | (with_reducible refine blk_alloc ?_ _) | exact BK202.out | refine blk_put (cs := #[.bool false, .string (⟨#[]⟩ : ByteArray), .slice none 0 0]) ?_ _ _ rfl)) Tryd.underlying24 rfl (by kernel_rfl)) rfl ?_
               exact ⟨_, rfl, Kd.R_nil _ _ _ _ _, by repeat (first | (with_reducible first | exact HB.out | apply below_alloc | apply pw_below_drewN | apply below_drew1 | refine below_set ?_ GE202.out) | exact HB.out)⟩
              ·rw [if_neg c69] at H
               have c69b0 : ((bt a0 0) == 48) = false := beq_eq_false_iff_ne.mpr c69
               have c69b1 : ((bt a0 0) != 48) = true := bne_iff_ne.mpr c69
               by_cases c71 : x12_1 ≥ (a0.size : Int)
               ·rw [if_pos c71] at H
                have c71b0 : decide ((a0.size : Int) ≤ x12_1) = true := decide_eq_true c71
                clear c71
                simp only [Option.some.injEq, Prod.mk.injEq] at H
                obtain ⟨rfl, rfl, rfl, rfl, rfl⟩ := H
                have p58 : 0 ≤ (x12_1 : Int) := of_decide_eq_true (by first | (with_reducible assumption) | assumption)
                have q58 : x12_1 < (a0.size : Int) := of_decide_eq_true (by first | (with_reducible assumption) | assumption)
                have hx58 := bt_at a0 x12_1
                replace p58 := eq_true p58
                replace q58 := eq_true q58
                have p60 : 0 ≤ (x12_1 : Int) := of_decide_eq_true (by first | (with_reducible assumption) | assumption)
                have q60 : x12_1 < (a0.size : Int) := of_decide_eq_true (by first | (with_reducible assumption) | assumption)
                have hx60 := bt_at a0 x12_1
                replace p60 := eq_true p60
                replace q60 := eq_true q60
                have p68 : 0 ≤ (0 : Int) := (by omega)
                have q68 : 0 < a0.size := (by have : (0 : Int) < (a0.size : Int) := of_decide_eq_true (by first | (with_reducible assumption) | assumption); omega)
                have hx68 : ∀ h : 0 < a0.size, ((a0[0]'h).toNat : Int) = bt a0 0 := bt_at a0 0
                clear p68
                have qi68 : (0 < (a0.size : Int)) = True := eq_true (of_decide_eq_true (by first | (with_reducible assumption) | assumption))
                replace q68 := eq_true q68
                have hcz72_0 : wr.cell? ⟨gb202, 0, none⟩ = some (.bool false) := (blk_cell BK202.out 0).trans rfl
                have hcz72_1 : wr.cell? ⟨gb202, 1, none⟩ = some (.string (⟨#[]⟩ : ByteArray)) := (blk_cell BK202.out 1).trans rfl
                have hcz72_2 : wr.cell? ⟨gb202, 2, none⟩ = some (.slice none 0 0) := (blk_cell BK202.out 2).trans rfl
                have hfz72_0 := blk_frozen BK202.out 0
                have hfz72_1 := blk_frozen BK202.out 1
                have hfz72_2 := blk_frozen BK202.out 2
                go_wp2
                refine bodyPost_ret (results_ctt rfl _ _ gb202 24 #[.bool false, .string (⟨#[]⟩ : ByteArray), .slice none 0 0] (0, 0) _ rfl (by repeat (first | (with_reducible refine blk_drewN ?_ _) | (with_reducible refine blk_drew ?_) | (with_reducible refine blk_alloc ?_ _) | exact BK202.out | refine blk_put (cs := #[.bool false, .string (⟨#[]⟩ : ByteArray), .slice none 0 0]) ?_ _ _ rfl)) Tryd.underlying24 rfl (by kernel_rfl)) rfl ?_
                exact ⟨_, rfl, Kd.R_nil _ _ _ _ _, by repeat (first | (with_reducible first | exact HB.out | apply below_alloc | apply pw_below_drewN | apply below_drew1 | refine below_set ?_ GE202.out) | exact HB.out)⟩
               ·rw [if_neg c71] at H
                have c71b0 : decide ((a0.size : Int) ≤ x12_1) = false := decide_eq_false c71
                clear c71
                by_cases c74 : (bt a0 x12_1) = 58
                ·rw [if_pos c74] at H
                 have c74b0 : ((bt a0 x12_1) == 58) = true := beq_iff_eq.mpr c74
                 have c74b1 : ((bt a0 x12_1) != 58) = false := bne_eq_false_iff_eq.mpr c74
                 clear c74
                 by_cases c75 : x11_1 > (wrap64 ((wrap64 ((a0.size : Int) - x12_1)) - 1))
                 ·rw [if_pos c75] at H
                  have c75b0 : decide ((wrap64 ((wrap64 ((a0.size : Int) - x12_1)) - 1)) < x11_1) = true := decide_eq_true c75
                  clear c75
                  simp only [Option.some.injEq, Prod.mk.injEq] at H
                  obtain ⟨rfl, rfl, rfl, rfl, rfl⟩ := H
                  have p58 : 0 ≤ (x12_1 : Int) := of_decide_eq_true (by first | (with_reducible assumption) | assumption)
                  have q58 : x12_1 < (a0.size : Int) := of_decide_eq_true (by first | (with_reducible assumption) | assumption)
                  have hx58 := bt_at a0 x12_1
                  replace p58 := eq_true p58
                  replace q58 := eq_true q58
                  have p60 : 0 ≤ (x12_1 : Int) := of_decide_eq_true (by first | (with_reducible assumption) | assumption)
                  have q60 : x12_1 < (a0.size : Int) := of_decide_eq_true (by first | (with_reducible assumption) | assumption)
                  have hx60 := bt_at a0 x12_1
                  replace p60 := eq_true p60
                  replace q60 := eq_true q60
                  have p68 : 0 ≤ (0 : Int) := (by omega)
                  have q68 : 0 < a0.size := (by have : (0 : Int) < (a0.size : Int) := of_decide_eq_true (by first | (with_reducible assumption) | assumption); omega)
                  have hx68 : ∀ h : 0 < a0.size, ((a0[0]'h).toNat : Int) = bt a0 0 := bt_at a0 0
                  clear p68
                  have qi68 : (0 < (a0.size : Int)) = True := eq_true (of_decide_eq_true (by first | (with_reducible assumption) | assumption))
                  replace q68 := eq_true q68
                  have p73 : 0 ≤ (x12_1 : Int) := of_decide_eq_true (by first | (with_reducible assumption) | assumption)
                  have q73 : x12_1 < (a0.size : Int) := of_decide_eq_true (by first | (with_reducible assumption) | assumption)
                  have hx73 := bt_at a0 x12_1
                  replace p73 := eq_true p73
                  replace q73 := eq_true q73
                  have hcz76_0 : wr.cell? ⟨gb202, 0, none⟩ = some (.bool false) := (blk_cell BK202.out 0).trans rfl
                  have hcz76_1 : wr.cell? ⟨gb202, 1, none⟩ = some (.string (⟨#[]⟩ : ByteArray)) := (blk_cell BK202.out 1).trans rfl
                  have hcz76_2 : wr.cell? ⟨gb202, 2, none⟩ = some (.slice none 0 0) := (blk_cell BK202.out 2).trans rfl
                  have hfz76_0 := blk_frozen BK202.out 0
                  have hfz76_1 := blk_frozen BK202.out 1
                  have hfz76_2 := blk_frozen BK202.out 2
                  go_wp2
                  refine bodyPost_ret (results_ctt rfl _ _ gb202 24 #[.bool false, .string (⟨#[]⟩ : ByteArray), .slice none 0 0] (0, 0) _ rfl (by repeat (first | (with_reducible refine blk_drewN ?_ _) | (with_reducible refine blk_drew ?_) | (with_reducible refine blk_alloc ?_ _) | exact BK202.out | refine blk_put (cs := #[.bool false, .string (⟨#[]⟩ : ByteArray), .slice none 0 0]) ?_ _ _ rfl)) Tryd.underlying24 rfl (by kernel_rfl)) rfl ?_
                  exact ⟨_, rfl, Kd.R_nil _ _ _ _ _, by repeat (first | (with_reducible first | exact HB.out | apply below_alloc | apply pw_below_drewN | apply below_drew1 | refine below_set ?_ GE202.out) | exact HB.out)⟩
                 ·rw [if_neg c75] at H
                  have c75b0 : decide ((wrap64 ((wrap64 ((a0.size : Int) - x12_1)) - 1)) < x11_1) = false := decide_eq_false c75
                  clear c75
                  obtain ⟨ji77, hji77⟩ : ∃ j_ : Int, (wrap64 (x12_1 + 1)) = j_ := ⟨_, rfl⟩
                  replace H : (if 0 ≤ (ji77) then (if (ji77) ≤ (wrap64 ((ji77) + x11_1)) then (if (wrap64 ((ji77) + x11_1)) ≤ (a0.size : Int) then ((tambourref04_Text.f (a0.extract ((ji77) : Int).toNat ((wrap64 ((ji77) + x11_1)) : Int).toNat)).bind fun bt215 => (if 0 ≤ (wrap64 ((ji77) + x11_1)) then (some (bt215.1, bt215.2.1, bt215.2.2, a0.extract ((wrap64 ((ji77) + x11_1)) : Int).toNat a0.size, true)) else (none))) else (none)) else (none)) else (none)) = some (r1, r2, r3, r4, r5) := by first | (rw [hji77] at H; exact H) | (simp only [hji77] at H ⊢; exact H)
                  have hji77w : (IntKind.i64.wrap (x12_1 + 1)) = ji77 := (i64_w _).trans hji77
                  by_cases c78 : 0 ≤ (ji77)
                  ·rw [if_pos c78] at H
                   have c78b0 := eq_true c78
                   have c78b1 : decide (0 ≤ (ji77)) = true := decide_eq_true c78
                   clear c78
                   by_cases c79 : (ji77) ≤ (wrap64 ((ji77) + x11_1))
                   ·rw [if_pos c79] at H
                    have c79b0 := eq_true c79
                    have c79b1 : decide ((ji77) ≤ (wrap64 ((ji77) + x11_1))) = true := decide_eq_true c79
                    by_cases c80 : (wrap64 ((ji77) + x11_1)) ≤ (a0.size : Int)
                    ·rw [if_pos c80] at H
                     have c80b0 := eq_true c80
                     have c80b1 : decide ((wrap64 ((ji77) + x11_1)) ≤ (a0.size : Int)) = true := decide_eq_true c80
                     replace H := Option.bind_eq_some_iff.mp H
                     obtain ⟨⟨t215, t216, t217⟩, A810, H⟩ := H
                     replace H : (if 0 ≤ (wrap64 ((ji77) + x11_1)) then (some (t215, t216, t217, a0.extract ((wrap64 ((ji77) + x11_1)) : Int).toNat a0.size, true)) else (none)) = some (r1, r2, r3, r4, r5) := H
                     have A81 := Aside0.mk A810
                     clear A810
                     obtain ⟨ji82, hji82⟩ : ∃ j_ : Int, (wrap64 ((ji77) + x11_1)) = j_ := ⟨_, rfl⟩
                     replace H : (if 0 ≤ (ji82) then (some (t215, t216, t217, a0.extract ((ji82) : Int).toNat a0.size, true)) else (none)) = some (r1, r2, r3, r4, r5) := by first | (rw [hji82] at H; exact H) | (simp only [hji82] at H ⊢; exact H)
                     (try rw [hji82] at c79b0)
                     (try rw [hji82] at c79b1)
                     (try rw [hji82] at c79)
                     (try rw [hji82] at c80b0)
                     (try rw [hji82] at c80b1)
                     (try rw [hji82] at c80)
                     (try rw [hji82] at A81)
                     have hji82w : (IntKind.i64.wrap ((ji77) + x11_1)) = ji82 := (i64_w _).trans hji82
                     by_cases c83 : 0 ≤ (ji82)
                     ·rw [if_pos c83] at H
                      have c83b0 := eq_true c83
                      have c83b1 : decide (0 ≤ (ji82)) = true := decide_eq_true c83
                      clear c83
                      have c84b0 := eq_true (of_decide_eq_true (by first | (with_reducible assumption) | assumption) : (ji82) ≤ (a0.size : Int))
                      simp only [Option.some.injEq, Prod.mk.injEq] at H
                      obtain ⟨rfl, rfl, rfl, rfl, rfl⟩ := H
                      have p58 : 0 ≤ (x12_1 : Int) := of_decide_eq_true (by first | (with_reducible assumption) | assumption)
                      have q58 : x12_1 < (a0.size : Int) := of_decide_eq_true (by first | (with_reducible assumption) | assumption)
                      have hx58 := bt_at a0 x12_1
                      replace p58 := eq_true p58
                      replace q58 := eq_true q58
                      have p60 : 0 ≤ (x12_1 : Int) := of_decide_eq_true (by first | (with_reducible assumption) | assumption)
                      have q60 : x12_1 < (a0.size : Int) := of_decide_eq_true (by first | (with_reducible assumption) | assumption)
                      have hx60 := bt_at a0 x12_1
                      replace p60 := eq_true p60
                      replace q60 := eq_true q60
                      have p68 : 0 ≤ (0 : Int) := (by omega)
                      have q68 : 0 < a0.size := (by have : (0 : Int) < (a0.size : Int) := of_decide_eq_true (by first | (with_reducible assumption) | assumption); omega)
                      have hx68 : ∀ h : 0 < a0.size, ((a0[0]'h).toNat : Int) = bt a0 0 := bt_at a0 0
                      clear p68
                      have qi68 : (0 < (a0.size : Int)) = True := eq_true (of_decide_eq_true (by first | (with_reducible assumption) | assumption))
                      replace q68 := eq_true q68
                      have p73 : 0 ≤ (x12_1 : Int) := of_decide_eq_true (by first | (with_reducible assumption) | assumption)
                      have q73 : x12_1 < (a0.size : Int) := of_decide_eq_true (by first | (with_reducible assumption) | assumption)
                      have hx73 := bt_at a0 x12_1
                      replace p73 := eq_true p73
                      replace q73 := eq_true q73
                      try go_wp2
                      have n0_ := Aside0.mk (blk_drew BK202.out)
                      have n1_ := Aside0.mk (below_drew1 HB.out)
                      clear BK202
                      clear HB
                      have BK202 := n0_
                      have HB := n1_
                      clear n0_ n1_
                      refine start_ (n := 18) (S := fun w' => True) (ds := []) #[false, false, false, false, false, false, false, false, false, false, false, false, false, false, false, false, false, false] (by kernel_rfl) rfl rfl trivial (fun hHeld => ?_); refine with_tabW tambourref04_item.tab23 tambourref04_item.bits23 (fun HT_ HW_ => ?_)
                      generalize wr.drew = w85 at BK202 HB hHeld ⊢
                      refine pure_ (i := 0) (N := some 119) (v := ?_) (a' := ?_) #[true, false, false, false, false, false, false, false, false, false, false, false, false, false, false, false, false, false] rfl rfl (any_of HT_.out (by kernel_rfl)) (fun _ _ _ h => h) (Or.inl ⟨by rfl, ?_⟩) ?_ ?_
                      rotate_left
                      ·intro w'
                       go_simp
                       with_reducible rfl
                      rotate_left
                      ·simp only [Act.put, List.setIfInBounds_toArray, List.set_cons_zero, List.set_cons_succ, i64_w, i32_w]
                       rfl
                      refine pure_ (i := 1) (N := some 120) (v := ?_) (a' := ?_) #[true, true, false, false, false, false, false, false, false, false, false, false, false, false, false, false, false, false] rfl rfl (any_of HT_.out (by kernel_rfl)) (fun _ _ _ h => h) (Or.inl ⟨by rfl, ?_⟩) ?_ ?_
                      rotate_left
                      ·intro w'
                       go_simp
                       with_reducible rfl
                      rotate_left
                      ·simp only [Act.put, List.setIfInBounds_toArray, List.set_cons_zero, List.set_cons_succ, i64_w, i32_w]
                       rfl
                      refine pure_ (i := 2) (N := some 121) (v := ?_) (a' := ?_) #[true, true, true, false, false, false, false, false, false, false, false, false, false, false, false, false, false, false] rfl rfl (any_of HT_.out (by kernel_rfl)) (fun _ _ _ h => h) (Or.inl ⟨by rfl, ?_⟩) ?_ ?_
                      rotate_left
                      ·intro w'
                       go_simp
                       with_reducible rfl
                      rotate_left
                      ·simp only [Act.put, List.setIfInBounds_toArray, List.set_cons_zero, List.set_cons_succ, i64_w, i32_w]
                       rfl
                      refine pure_ (i := 3) (N := some 122) (v := ?_) (a' := ?_) #[true, true, true, true, false, false, false, false, false, false, false, false, false, false, false, false, false, false] rfl rfl (any_of HT_.out (by kernel_rfl)) (fun _ _ _ h => h) (Or.inl ⟨by rfl, ?_⟩) ?_ ?_
                      rotate_left
                      ·intro w'
                       go_simp
                       with_reducible rfl
                      rotate_left
                      ·simp only [Act.put, List.setIfInBounds_toArray, List.set_cons_zero, List.set_cons_succ, i64_w, i32_w]
                       rfl
                      refine pure_ (i := 4) (N := some 123) (v := ?_) (a' := ?_) #[true, true, true, true, true, false, false, false, false, false, false, false, false, false, false, false, false, false] rfl rfl (any_of HT_.out (by kernel_rfl)) (fun _ _ _ h => h) (Or.inl ⟨by rfl, ?_⟩) ?_ ?_
                      rotate_left
                      ·intro w'
                       go_simp
                       with_reducible rfl
                      rotate_left
                      ·simp only [Act.put, List.setIfInBounds_toArray, List.set_cons_zero, List.set_cons_succ, i64_w, i32_w]
                       rfl
                      refine pure_ (i := 5) (N := some 124) (v := ?_) (a' := ?_) #[true, true, true, true, true, true, false, false, false, false, false, false, false, false, false, false, false, false] rfl rfl (any_of HT_.out (by kernel_rfl)) (fun _ _ _ h => h) (Or.inl ⟨by rfl, ?_⟩) ?_ ?_
                      rotate_left
                      ·intro w'
                       go_simp
                       with_reducible rfl
                      rotate_left
                      ·simp only [Act.put, List.setIfInBounds_toArray, List.set_cons_zero, List.set_cons_succ, i64_w, i32_w]
                       rfl
                      refine pure_ (i := 6) (N := some 125) (v := ?_) (a' := ?_) #[true, true, true, true, true, true, true, false, false, false, false, false, false, false, false, false, false, false] rfl rfl (any_of HT_.out (by kernel_rfl)) (fun _ _ _ h => h) (Or.inl ⟨by rfl, ?_⟩) ?_ ?_
                      rotate_left
                      ·intro w'
                       go_simp
                       with_reducible rfl
                      rotate_left
                      ·simp only [Act.put, List.setIfInBounds_toArray, List.set_cons_zero, List.set_cons_succ, i64_w, i32_w]
                       rfl
                      refine pure_ (i := 7) (N := some 126) (v := ?_) (a' := ?_) #[true, true, true, true, true, true, true, true, false, false, false, false, false, false, false, false, false, false] rfl rfl (any_of HT_.out (by kernel_rfl)) (fun _ _ _ h => h) (Or.inl ⟨by rfl, ?_⟩) ?_ ?_
                      rotate_left
                      ·intro w'
                       go_simp
                       with_reducible rfl
                      rotate_left
                      ·simp only [Act.put, List.setIfInBounds_toArray, List.set_cons_zero, List.set_cons_succ, i64_w, i32_w]
                       rfl
                      refine pure_ (i := 9) (N := some 128) (v := ?_) (a' := ?_) #[true, true, true, true, true, true, true, true, false, true, false, false, false, false, false, false, false, false] rfl rfl (any_of HT_.out (by kernel_rfl)) (fun _ _ _ h => h) (Or.inl ⟨by rfl, ?_⟩) ?_ ?_
                      rotate_left
                      ·intro w'
                       go_simp
                       with_reducible rfl
                      rotate_left
                      ·simp only [Act.put, List.setIfInBounds_toArray, List.set_cons_zero, List.set_cons_succ, i64_w, i32_w]
                       rfl
                      refine pure_ (i := 10) (N := some 129) (v := ?_) (a' := ?_) #[true, true, true, true, true, true, true, true, false, true, true, false, false, false, false, false, false, false] rfl rfl (any_of HT_.out (by kernel_rfl)) (fun _ _ _ h => h) (Or.inl ⟨by rfl, ?_⟩) ?_ ?_
                      rotate_left
                      ·intro w'
                       go_simp
                       with_reducible rfl
                      rotate_left
                      ·simp only [Act.put, List.setIfInBounds_toArray, List.set_cons_zero, List.set_cons_succ, i64_w, i32_w]
                       rfl
                      refine pure_ (i := 11) (N := some 130) (v := ?_) (a' := ?_) #[true, true, true, true, true, true, true, true, false, true, true, true, false, false, false, false, false, false] rfl rfl (any_of HT_.out (by kernel_rfl)) (fun _ _ _ h => h) (Or.inl ⟨by rfl, ?_⟩) ?_ ?_
                      rotate_left
                      ·intro w'
                       go_simp
                       with_reducible rfl
                      rotate_left
                      ·simp only [Act.put, List.setIfInBounds_toArray, List.set_cons_zero, List.set_cons_succ, i64_w, i32_w]
                       rfl
                      refine pure_ (i := 12) (N := some 131) (v := ?_) (a' := ?_) #[true, true, true, true, true, true, true, true, false, true, true, true, true, false, false, false, false, false] rfl rfl (any_of HT_.out (by kernel_rfl)) (fun _ _ _ h => h) (Or.inl ⟨by rfl, ?_⟩) ?_ ?_
                      rotate_left
                      ·intro w'
                       go_simp
                       with_reducible rfl
                      rotate_left
                      ·simp only [Act.put, List.setIfInBounds_toArray, List.set_cons_zero, List.set_cons_succ, i64_w, i32_w]
                       rfl
                      refine pure_ (i := 13) (N := some 132) (v := ?_) (a' := ?_) #[true, true, true, true, true, true, true, true, false, true, true, true, true, true, false, false, false, false] rfl rfl (any_of HT_.out (by kernel_rfl)) (fun _ _ _ h => h) (Or.inl ⟨by rfl, ?_⟩) ?_ ?_
                      rotate_left
                      ·intro w'
                       go_simp
                       with_reducible rfl
                      rotate_left
                      ·simp only [Act.put, List.setIfInBounds_toArray, List.set_cons_zero, List.set_cons_succ, i64_w, i32_w]
                       rfl
                      refine pure_ (i := 14) (N := some 133) (v := ?_) (a' := ?_) #[true, true, true, true, true, true, true, true, false, true, true, true, true, true, true, false, false, false] rfl rfl (any_of HT_.out (by kernel_rfl)) (fun _ _ _ h => h) (Or.inl ⟨by rfl, ?_⟩) ?_ ?_
                      rotate_left
                      ·intro w'
                       go_simp
                       with_reducible rfl
                      rotate_left
                      ·simp only [Act.put, List.setIfInBounds_toArray, List.set_cons_zero, List.set_cons_succ, i64_w, i32_w]
                       rfl
                      refine one_ (i := 8) (N := some 127) #[true, true, true, true, true, true, true, true, true, true, true, true, true, true, true, false, false, false] rfl rfl (one_of HT_.out (by kernel_rfl)) (by decide) (fun K hK => ?_)
                      refine goes_ Tryd.func20 (by kernel_rfl) rfl #[.string (a0.extract ((ji77) : Int).toNat ((ji82) : Int).toNat)] (by rfl) rfl rfl (by (try simp only [List.map_toArray, List.map_cons, List.map_nil]); first | done | (simp only [hji77, hji82]; rfl) | rfl | (simp only [List.length_drop, List.length_take]; rfl)) ?_
                      with_reducible refine (tambourref04_Text.calls (a0.extract ((ji77) : Int).toNat ((ji82) : Int).toNat) t215 t216 t217 _ A81.out).mono ?_
                      rintro e w86 ⟨v218, rfl, ho0, hb⟩
                      refine ⟨_, rfl, ?_⟩
                      have n0_ := Aside0.mk (Kd.R_lower (Kd.R_newB ho0 (g := gb202) (o := .cells #[.bool false, .string (⟨#[]⟩ : ByteArray), .slice none 0 0] 24 (0, 0)) (by (with_reducible repeat (first | refine blk_drewN ?_ _ | refine blk_drew ?_ | refine blk_alloc ?_ _)); exact BK202.out)) (below_size (by repeat (first | (with_reducible first | exact HB.out | apply below_alloc | apply pw_below_drewN | apply below_drew1 | refine below_set ?_ GE202.out) | exact HB.out))))
                      have n1_ := Aside0.mk (blk_below (g := gb202) (o := .cells #[.bool false, .string (⟨#[]⟩ : ByteArray), .slice none 0 0] 24 (0, 0)) (by (with_reducible repeat (first | refine blk_drewN ?_ _ | refine blk_drew ?_ | refine blk_alloc ?_ _)); exact BK202.out) hb)
                      have n2_ := Aside0.mk (below_step (by repeat (first | (with_reducible first | exact HB.out | apply below_alloc | apply pw_below_drewN | apply below_drew1 | refine below_set ?_ GE202.out) | exact HB.out)) hb)
                      clear BK202
                      clear HB
                      have HO219 := n0_
                      have BK202 := n1_
                      have HB := n2_
                      clear n0_ n1_ n2_
                      (try clear hb)
                      (try clear hb2)
                      (try clear hk)
                      (try clear hi)
                      (try clear ho0)
                      obtain ⟨Ao89, co89, eo89⟩ := Kd.R_slice HO219.out
                      (first | subst eo89 | (injection eo89 with f1_ f2_ f3_; have f4_ := f1_.symm; have f5_ := f3_.symm; clear f1_ f2_ f3_; subst f4_; subst f5_))
                      refine hK.out _ _ trivial (fun hHeld => ?_)
                      clear hK K
                      refine norm_ (a' := ?_) ?_ ?_
                      rotate_left
                      ·show Act.put _ (some 127) _ = _
                       simp only [Act.put, List.setIfInBounds_toArray, List.set_cons_zero, List.set_cons_succ, i64_w, i32_w]
                       rfl
                      refine one_ (i := 15) (N := none) #[true, true, true, true, true, true, true, true, true, true, true, true, true, true, true, true, false, false] rfl rfl (one_of HT_.out (by kernel_rfl)) (by decide) (fun K hK => ?_)
                      have hs87 : w86.cell? ⟨gb202, 0, none⟩ = some (.bool false) := (blk_cell BK202.out 0).trans rfl
                      have hfs87 := blk_frozen BK202.out 0
                      have hs88 : w86.cell? ⟨gb202, 1, none⟩ = some (.string (⟨#[]⟩ : ByteArray)) := (blk_cell BK202.out 1).trans rfl
                      have hfs88 := blk_frozen BK202.out 1
                      have hs90 : w86.cell? ⟨gb202, 2, none⟩ = some (.slice none 0 0) := (blk_cell BK202.out 2).trans rfl
                      have hfs90 := blk_frozen BK202.out 2
                      refine skip_ (w1 := ?_) (by rfl) rfl ?_ ?_
                      rotate_left
                      ·go_simp
                       rfl
                      refine hK.out _ _ trivial (fun hHeld => ?_)
                      clear hK K
                      refine pure_ (i := 16) (N := some 5) (v := ?_) (a' := ?_) #[true, true, true, true, true, true, true, true, true, true, true, true, true, true, true, true, true, false] rfl rfl (any_of HT_.out (by kernel_rfl)) (fun _ _ _ h => h) (Or.inl ⟨by rfl, ?_⟩) ?_ ?_
                      rotate_left
                      ·intro w'
                       go_simp
                       with_reducible rfl
                      rotate_left
                      ·simp only [Act.put, List.setIfInBounds_toArray, List.set_cons_zero, List.set_cons_succ, i64_w, i32_w]
                       rfl
                      refine pure_ (i := 17) (N := some 6) (v := ?_) (a' := ?_) #[true, true, true, true, true, true, true, true, true, true, true, true, true, true, true, true, true, true] rfl rfl (any_of HT_.out (by kernel_rfl)) (fun _ _ _ h => h) (Or.inl ⟨by rfl, ?_⟩) ?_ ?_
                      rotate_left
                      ·intro w'
                       go_simp
                       with_reducible rfl
                      rotate_left
                      ·simp only [Act.put, List.setIfInBounds_toArray, List.set_cons_zero, List.set_cons_succ, i64_w, i32_w]
                       rfl
                      refine done_ (done_of HT_.out (by kernel_rfl)) ?_
                      try go_wp2
                      refine bodyPost_ret (results_ctt rfl _ _ gb202 24 #[.bool t215, .string t216, .slice Ao89 t217.length co89] (0, 0) _ rfl (by (with_reducible repeat (first | refine blk_drewN ?_ _ | refine blk_drew ?_ | refine blk_alloc ?_ _)); refine blk_put (cs := #[.bool t215, .string t216, .slice none 0 0]) ?_ 2 _ rfl; (with_reducible repeat (first | refine blk_drewN ?_ _ | refine blk_drew ?_ | refine blk_alloc ?_ _)); refine blk_put (cs := #[.bool t215, .string (⟨#[]⟩ : ByteArray), .slice none 0 0]) ?_ 1 _ rfl; (with_reducible repeat (first | refine blk_drewN ?_ _ | refine blk_drew ?_ | refine blk_alloc ?_ _)); refine blk_put (cs := #[.bool false, .string (⟨#[]⟩ : ByteArray), .slice none 0 0]) ?_ 0 _ rfl; (with_reducible repeat (first | refine blk_drewN ?_ _ | refine blk_drew ?_ | refine blk_alloc ?_ _)); exact BK202.out) Tryd.underlying24 rfl (by kernel_rfl)) rfl ?_
                      exact ⟨_, by first | rfl | (simp [errW_none, errW_some] <;> rfl) | (simp only [← hji77, ← hji82]; first | rfl | (simp [errW_none, errW_some] <;> rfl)) | (simp [*, errW_none, errW_some] <;> rfl), by (with_reducible repeat (first | apply Kd.R_alloc | apply Kd.R_drewN | apply Kd.R_drew)); exact Kd.R_mono (Kd.R_far (p := ⟨gb202, 2, none⟩) (Kd.R_far (p := ⟨gb202, 1, none⟩) (Kd.R_far (p := ⟨gb202, 0, none⟩) (Kd.R_mono HO219.out (fun k_ hk => (⟨hk, hk.2⟩ : _ ∧ k_ ≠ gb202))) (fun _ hk => hk.2) (.bool t215)) (fun _ hk => hk.2) (.string t216)) (fun _ hk => hk.2) (.slice Ao89 t217.length co89)) (fun _ hk => trivial), by repeat (first | (with_reducible first | exact HB.out | apply below_alloc | apply pw_below_drewN | apply below_drew1 | refine below_set ?_ GE202.out) | exact HB.out)⟩
                     ·rw [if_neg c83] at H
                      exact absurd H (by simp)
                    ·rw [if_neg c80] at H
                     exact absurd H (by simp)
                   ·rw [if_neg c79] at H
                    exact absurd H (by simp)
                  ·rw [if_neg c78] at H
                   exact absurd H (by simp)
                ·rw [if_neg c74] at H
                 have c74b0 : ((bt a0 x12_1) == 58) = false := beq_eq_false_iff_ne.mpr c74
                 have c74b1 : ((bt a0 x12_1) != 58) = true := bne_iff_ne.mpr c74
                 simp only [Option.some.injEq, Prod.mk.injEq] at H
                 obtain ⟨rfl, rfl, rfl, rfl, rfl⟩ := H
                 have p58 : 0 ≤ (x12_1 : Int) := of_decide_eq_true (by first | (with_reducible assumption) | assumption)
                 have q58 : x12_1 < (a0.size : Int) := of_decide_eq_true (by first | (with_reducible assumption) | assumption)
                 have hx58 := bt_at a0 x12_1
                 replace p58 := eq_true p58
                 replace q58 := eq_true q58
                 have p60 : 0 ≤ (x12_1 : Int) := of_decide_eq_true (by first | (with_reducible assumption) | assumption)
                 have q60 : x12_1 < (a0.size : Int) := of_decide_eq_true (by first | (with_reducible assumption) | assumption)
                 have hx60 := bt_at a0 x12_1
                 replace p60 := eq_true p60
                 replace q60 := eq_true q60
                 have p68 : 0 ≤ (0 : Int) := (by omega)
                 have q68 : 0 < a0.size := (by have : (0 : Int) < (a0.size : Int) := of_decide_eq_true (by first | (with_reducible assumption) | assumption); omega)
                 have hx68 : ∀ h : 0 < a0.size, ((a0[0]'h).toNat : Int) = bt a0 0 := bt_at a0 0
                 clear p68
                 have qi68 : (0 < (a0.size : Int)) = True := eq_true (of_decide_eq_true (by first | (with_reducible assumption) | assumption))
                 replace q68 := eq_true q68
                 have p73 : 0 ≤ (x12_1 : Int) := of_decide_eq_true (by first | (with_reducible assumption) | assumption)
                 have q73 : x12_1 < (a0.size : Int) := of_decide_eq_true (by first | (with_reducible assumption) | assumption)
                 have hx73 := bt_at a0 x12_1
                 replace p73 := eq_true p73
                 replace q73 := eq_true q73
                 have hcz91_0 : wr.cell? ⟨gb202, 0, none⟩ = some (.bool false) := (blk_cell BK202.out 0).trans rfl
                 have hcz91_1 : wr.cell? ⟨gb202, 1, none⟩ = some (.string (⟨#[]⟩ : ByteArray)) := (blk_cell BK202.out 1).trans rfl
                 have hcz91_2 : wr.cell? ⟨gb202, 2, none⟩ = some (.slice none 0 0) := (blk_cell BK202.out 2).trans rfl
                 have hfz91_0 := blk_frozen BK202.out 0
                 have hfz91_1 := blk_frozen BK202.out 1
                 have hfz91_2 := blk_frozen BK202.out 2
                 go_wp2
                 refine bodyPost_ret (results_ctt rfl _ _ gb202 24 #[.bool false, .string (⟨#[]⟩ : ByteArray), .slice none 0 0] (0, 0) _ rfl (by repeat (first | (with_reducible refine blk_drewN ?_ _) | (with_reducible refine blk_drew ?_) | (with_reducible refine blk_alloc ?_ _) | exact BK202.out | refine blk_put (cs := #[.bool false, .string (⟨#[]⟩ : ByteArray), .slice none 0 0]) ?_ _ _ rfl)) Tryd.underlying24 rfl (by kernel_rfl)) rfl ?_
                 exact ⟨_, rfl, Kd.R_nil _ _ _ _ _, by repeat (first | (with_reducible first | exact HB.out | apply below_alloc | apply pw_below_drewN | apply below_drew1 | refine below_set ?_ GE202.out) | exact HB.out)⟩
             ·rw [if_neg c67] at H
              exact absurd H (by simp)
            ·rw [if_neg c66] at H
             have c66b0 : decide (1 < x12_1) = false := decide_eq_false c66
             clear c66
             by_cases c92 : x12_1 ≥ (a0.size : Int)
             ·rw [if_pos c92] at H
              have c92b0 : decide ((a0.size : Int) ≤ x12_1) = true := decide_eq_true c92
              clear c92
              simp only [Option.some.injEq, Prod.mk.injEq] at H
              obtain ⟨rfl, rfl, rfl, rfl, rfl⟩ := H
              have p58 : 0 ≤ (x12_1 : Int) := of_decide_eq_true (by first | (with_reducible assumption) | assumption)
              have q58 : x12_1 < (a0.size : Int) := of_decide_eq_true (by first | (with_reducible assumption) | assumption)
              have hx58 := bt_at a0 x12_1
              replace p58 := eq_true p58
              replace q58 := eq_true q58
              have p60 : 0 ≤ (x12_1 : Int) := of_decide_eq_true (by first | (with_reducible assumption) | assumption)
              have q60 : x12_1 < (a0.size : Int) := of_decide_eq_true (by first | (with_reducible assumption) | assumption)
              have hx60 := bt_at a0 x12_1
              replace p60 := eq_true p60
              replace q60 := eq_true q60
              have hcz93_0 : wr.cell? ⟨gb202, 0, none⟩ = some (.bool false) := (blk_cell BK202.out 0).trans rfl
              have hcz93_1 : wr.cell? ⟨gb202, 1, none⟩ = some (.string (⟨#[]⟩ : ByteArray)) := (blk_cell BK202.out 1).trans rfl
              have hcz93_2 : wr.cell? ⟨gb202, 2, none⟩ = some (.slice none 0 0) := (blk_cell BK202.out 2).trans rfl
              have hfz93_0 := blk_frozen BK202.out 0
              have hfz93_1 := blk_frozen BK202.out 1
              have hfz93_2 := blk_frozen BK202.out 2
              go_wp2
              refine bodyPost_ret (results_ctt rfl _ _ gb202 24 #[.bool false, .string (⟨#[]⟩ : ByteArray), .slice none 0 0] (0, 0) _ rfl (by repeat (first | (with_reducible refine blk_drewN ?_ _) | (with_reducible refine blk_drew ?_) | (with_reducible refine blk_alloc ?_ _) | exact BK202.out | refine blk_put (cs := #[.bool false, .string (⟨#[]⟩ : ByteArray), .slice none 0 0]) ?_ _ _ rfl)) Tryd.underlying24 rfl (by kernel_rfl)) rfl ?_
              exact ⟨_, rfl, Kd.R_nil _ _ _ _ _, by repeat (first | (with_reducible first | exact HB.out | apply below_alloc | apply pw_below_drewN | apply below_drew1 | refine below_set ?_ GE202.out) | exact HB.out)⟩
             ·rw [if_neg c92] at H
              have c92b0 : decide ((a0.size : Int) ≤ x12_1) = false := decide_eq_false c92
              clear c92
              by_cases c95 : (bt a0 x12_1) = 58
              ·rw [if_pos c95] at H
               have c95b0 : ((bt a0 x12_1) == 58) = true := beq_iff_eq.mpr c95
               have c95b1 : ((bt a0 x12_1) != 58) = false := bne_eq_false_iff_eq.mpr c95
               clear c95
               by_cases c96 : x11_1 > (wrap64 ((wrap64 ((a0.size : Int) - x12_1)) - 1))
               ·rw [if_pos c96] at H
                have c96b0 : decide ((wrap64 ((wrap64 ((a0.size : Int) - x12_1)) - 1)) < x11_1) = true := decide_eq_true c96
                clear c96
                simp only [Option.some.injEq, Prod.mk.injEq] at H
                obtain ⟨rfl, rfl, rfl, rfl, rfl⟩ := H
                have p58 : 0 ≤ (x12_1 : Int) := of_decide_eq_true (by first | (with_reducible assumption) | assumption)
                have q58 : x12_1 < (a0.size : Int) := of_decide_eq_true (by first | (with_reducible assumption) | assumption)
                have hx58 := bt_at a0 x12_1
                replace p58 := eq_true p58
                replace q58 := eq_true q58
                have p60 : 0 ≤ (x12_1 : Int) := of_decide_eq_true (by first | (with_reducible assumption) | assumption)
                have q60 : x12_1 < (a0.size : Int) := of_decide_eq_true (by first | (with_reducible assumption) | assumption)
                have hx60 := bt_at a0 x12_1
                replace p60 := eq_true p60
                replace q60 := eq_true q60
                have p94 : 0 ≤ (x12_1 : Int) := of_decide_eq_true (by first | (with_reducible assumption) | assumption)
                have q94 : x12_1 < (a0.size : Int) := of_decide_eq_true (by first | (with_reducible assumption) | assumption)
                have hx94 := bt_at a0 x12_1
                replace p94 := eq_true p94
                replace q94 := eq_true q94
                have hcz97_0 : wr.cell? ⟨gb202, 0, none⟩ = some (.bool false) := (blk_cell BK202.out 0).trans rfl
                have hcz97_1 : wr.cell? ⟨gb202, 1, none⟩ = some (.string (⟨#[]⟩ : ByteArray)) := (blk_cell BK202.out 1).trans rfl
                have hcz97_2 : wr.cell? ⟨gb202, 2, none⟩ = some (.slice none 0 0) := (blk_cell BK202.out 2).trans rfl
                have hfz97_0 := blk_frozen BK202.out 0
                have hfz97_1 := blk_frozen BK202.out 1
                have hfz97_2 := blk_frozen BK202.out 2
                go_wp2
                refine bodyPost_ret (results_ctt rfl _ _ gb202 24 #[.bool false, .string (⟨#[]⟩ : ByteArray), .slice none 0 0] (0, 0) _ rfl (by repeat (first | (with_reducible refine blk_drewN ?_ _) | (with_reducible refine blk_drew ?_) | (with_reducible refine blk_alloc ?_ _) | exact BK202.out | refine blk_put (cs := #[.bool false, .string (⟨#[]⟩ : ByteArray), .slice none 0 0]) ?_ _ _ rfl)) Tryd.underlying24 rfl (by kernel_rfl)) rfl ?_
                exact ⟨_, rfl, Kd.R_nil _ _ _ _ _, by repeat (first | (with_reducible first | exact HB.out | apply below_alloc | apply pw_below_drewN | apply below_drew1 | refine below_set ?_ GE202.out) | exact HB.out)⟩
               ·rw [if_neg c96] at H
                have c96b0 : decide ((wrap64 ((wrap64 ((a0.size : Int) - x12_1)) - 1)) < x11_1) = false := decide_eq_false c96
                clear c96
                obtain ⟨ji98, hji98⟩ : ∃ j_ : Int, (wrap64 (x12_1 + 1)) = j_ := ⟨_, rfl⟩
                replace H : (if 0 ≤ (ji98) then (if (ji98) ≤ (wrap64 ((ji98) + x11_1)) then (if (wrap64 ((ji98) + x11_1)) ≤ (a0.size : Int) then ((tambourref04_Text.f (a0.extract ((ji98) : Int).toNat ((wrap64 ((ji98) + x11_1)) : Int).toNat)).bind fun bt220 => (if 0 ≤ (wrap64 ((ji98) + x11_1)) then (some (bt220.1, bt220.2.1, bt220.2.2, a0.extract ((wrap64 ((ji98) + x11_1)) : Int).toNat a0.size, true)) else (none))) else (none)) else (none)) else (none)) = some (r1, r2, r3, r4, r5) := by first | (rw [hji98] at H; exact H) | (simp only [hji98] at H ⊢; exact H)
                have hji98w : (IntKind.i64.wrap (x12_1 + 1)) = ji98 := (i64_w _).trans hji98
                by_cases c99 : 0 ≤ (ji98)
                ·rw [if_pos c99] at H
                 have c99b0 := eq_true c99
                 have c99b1 : decide (0 ≤ (ji98)) = true := decide_eq_true c99
                 clear c99
                 by_cases c100 : (ji98) ≤ (wrap64 ((ji98) + x11_1))
                 ·rw [if_pos c100] at H
                  have c100b0 := eq_true c100
                  have c100b1 : decide ((ji98) ≤ (wrap64 ((ji98) + x11_1))) = true := decide_eq_true c100
                  by_cases c101 : (wrap64 ((ji98) + x11_1)) ≤ (a0.size : Int)
                  ·rw [if_pos c101] at H
                   have c101b0 := eq_true c101
                   have c101b1 : decide ((wrap64 ((ji98) + x11_1)) ≤ (a0.size : Int)) = true := decide_eq_true c101
                   replace H := Option.bind_eq_some_iff.mp H
                   obtain ⟨⟨t220, t221, t222⟩, A1020, H⟩ := H
                   replace H : (if 0 ≤ (wrap64 ((ji98) + x11_1)) then (some (t220, t221, t222, a0.extract ((wrap64 ((ji98) + x11_1)) : Int).toNat a0.size, true)) else (none)) = some (r1, r2, r3, r4, r5) := H
                   have A102 := Aside0.mk A1020
                   clear A1020
                   obtain ⟨ji103, hji103⟩ : ∃ j_ : Int, (wrap64 ((ji98) + x11_1)) = j_ := ⟨_, rfl⟩
                   replace H : (if 0 ≤ (ji103) then (some (t220, t221, t222, a0.extract ((ji103) : Int).toNat a0.size, true)) else (none)) = some (r1, r2, r3, r4, r5) := by first | (rw [hji103] at H; exact H) | (simp only [hji103] at H ⊢; exact H)
                   (try rw [hji103] at c100b0)
                   (try rw [hji103] at c100b1)
                   (try rw [hji103] at c100)
                   (try rw [hji103] at c101b0)
                   (try rw [hji103] at c101b1)
                   (try rw [hji103] at c101)
                   (try rw [hji103] at A102)
                   have hji103w : (IntKind.i64.wrap ((ji98) + x11_1)) = ji103 := (i64_w _).trans hji103
                   by_cases c104 : 0 ≤ (ji103)
                   ·rw [if_pos c104] at H
                    have c104b0 := eq_true c104
                    have c104b1 : decide (0 ≤ (ji103)) = true := decide_eq_true c104
                    clear c104
                    have c105b0 := eq_true (of_decide_eq_true (by first | (with_reducible assumption) | assumption) : (ji103) ≤ (a0.size : Int))
                    simp only [Option.some.injEq, Prod.mk.injEq] at H
                    obtain ⟨rfl, rfl, rfl, rfl, rfl⟩ := H
                    have p58 : 0 ≤ (x12_1 : Int) := of_decide_eq_true (by first | (with_reducible assumption) | assumption)
                    have q58 : x12_1 < (a0.size : Int) := of_decide_eq_true (by first | (with_reducible assumption) | assumption)
                    have hx58 := bt_at a0 x12_1
                    replace p58 := eq_true p58
                    replace q58 := eq_true q58
                    have p60 : 0 ≤ (x12_1 : Int) := of_decide_eq_true (by first | (with_reducible assumption) | assumption)
                    have q60 : x12_1 < (a0.size : Int) := of_decide_eq_true (by first | (with_reducible assumption) | assumption)
                    have hx60 := bt_at a0 x12_1
                    replace p60 := eq_true p60
                    replace q60 := eq_true q60
                    have p94 : 0 ≤ (x12_1 : Int) := of_decide_eq_true (by first | (with_reducible assumption) | assumption)
                    have q94 : x12_1 < (a0.size : Int) := of_decide_eq_true (by first | (with_reducible assumption) | assumption)
                    have hx94 := bt_at a0 x12_1
                    replace p94 := eq_true p94
                    replace q94 := eq_true q94
                    try go_wp2
                    have n0_ := Aside0.mk (blk_drew BK202.out)
                    have n1_ := Aside0.mk (below_drew1 HB.out)
                    clear BK202
                    clear HB
                    have BK202 := n0_
                    have HB := n1_
                    clear n0_ n1_
                    refine start_ (n := 18) (S := fun w' => True) (ds := []) #[false, false, false, false, false, false, false, false, false, false, false, false, false, false, false, false, false, false] (by kernel_rfl) rfl rfl trivial (fun hHeld => ?_); refine with_tabW tambourref04_item.tab23 tambourref04_item.bits23 (fun HT_ HW_ => ?_)
                    generalize wr.drew = w106 at BK202 HB hHeld ⊢
                    refine pure_ (i := 0) (N := some 119) (v := ?_) (a' := ?_) #[true, false, false, false, false, false, false, false, false, false, false, false, false, false, false, false, false, false] rfl rfl (any_of HT_.out (by kernel_rfl)) (fun _ _ _ h => h) (Or.inl ⟨by rfl, ?_⟩) ?_ ?_
                    rotate_left
                    ·intro w'
                     go_simp
                     with_reducible rfl
                    rotate_left
                    ·simp only [Act.put, List.setIfInBounds_toArray, List.set_cons_zero, List.set_cons_succ, i64_w, i32_w]
                     rfl
                    refine pure_ (i := 1) (N := some 120) (v := ?_) (a' := ?_) #[true, true, false, false, false, false, false, false, false, false, false, false, false, false, false, false, false, false] rfl rfl (any_of HT_.out (by kernel_rfl)) (fun _ _ _ h => h) (Or.inl ⟨by rfl, ?_⟩) ?_ ?_
                    rotate_left
                    ·intro w'
                     go_simp
                     with_reducible rfl
                    rotate_left
                    ·simp only [Act.put, List.setIfInBounds_toArray, List.set_cons_zero, List.set_cons_succ, i64_w, i32_w]
                     rfl
                    refine pure_ (i := 2) (N := some 121) (v := ?_) (a' := ?_) #[true, true, true, false, false, false, false, false, false, false, false, false, false, false, false, false, false, false] rfl rfl (any_of HT_.out (by kernel_rfl)) (fun _ _ _ h => h) (Or.inl ⟨by rfl, ?_⟩) ?_ ?_
                    rotate_left
                    ·intro w'
                     go_simp
                     with_reducible rfl
                    rotate_left
                    ·simp only [Act.put, List.setIfInBounds_toArray, List.set_cons_zero, List.set_cons_succ, i64_w, i32_w]
                     rfl
                    refine pure_ (i := 3) (N := some 122) (v := ?_) (a' := ?_) #[true, true, true, true, false, false, false, false, false, false, false, false, false, false, false, false, false, false] rfl rfl (any_of HT_.out (by kernel_rfl)) (fun _ _ _ h => h) (Or.inl ⟨by rfl, ?_⟩) ?_ ?_
                    rotate_left
                    ·intro w'
                     go_simp
                     with_reducible rfl
                    rotate_left
                    ·simp only [Act.put, List.setIfInBounds_toArray, List.set_cons_zero, List.set_cons_succ, i64_w, i32_w]
                     rfl
                    refine pure_ (i := 4) (N := some 123) (v := ?_) (a' := ?_) #[true, true, true, true, true, false, false, false, false, false, false, false, false, false, false, false, false, false] rfl rfl (any_of HT_.out (by kernel_rfl)) (fun _ _ _ h => h) (Or.inl ⟨by rfl, ?_⟩) ?_ ?_
                    rotate_left
                    ·intro w'
                     go_simp
                     with_reducible rfl
                    rotate_left
                    ·simp only [Act.put, List.setIfInBounds_toArray, List.set_cons_zero, List.set_cons_succ, i64_w, i32_w]
                     rfl
                    refine pure_ (i := 5) (N := some 124) (v := ?_) (a' := ?_) #[true, true, true, true, true, true, false, false, false, false, false, false, false, false, false, false, false, false] rfl rfl (any_of HT_.out (by kernel_rfl)) (fun _ _ _ h => h) (Or.inl ⟨by rfl, ?_⟩) ?_ ?_
                    rotate_left
                    ·intro w'
                     go_simp
                     with_reducible rfl
                    rotate_left
                    ·simp only [Act.put, List.setIfInBounds_toArray, List.set_cons_zero, List.set_cons_succ, i64_w, i32_w]
                     rfl
                    refine pure_ (i := 6) (N := some 125) (v := ?_) (a' := ?_) #[true, true, true, true, true, true, true, false, false, false, false, false, false, false, false, false, false, false] rfl rfl (any_of HT_.out (by kernel_rfl)) (fun _ _ _ h => h) (Or.inl ⟨by rfl, ?_⟩) ?_ ?_
                    rotate_left
                    ·intro w'
                     go_simp
                     with_reducible rfl
                    rotate_left
                    ·simp only [Act.put, List.setIfInBounds_toArray, List.set_cons_zero, List.set_cons_succ, i64_w, i32_w]
                     rfl
                    refine pure_ (i := 7) (N := some 126) (v := ?_) (a' := ?_) #[true, true, true, true, true, true, true, true, false, false, false, false, false, false, false, false, false, false] rfl rfl (any_of HT_.out (by kernel_rfl)) (fun _ _ _ h => h) (Or.inl ⟨by rfl, ?_⟩) ?_ ?_
                    rotate_left
                    ·intro w'
                     go_simp
                     with_reducible rfl
                    rotate_left
                    ·simp only [Act.put, List.setIfInBounds_toArray, List.set_cons_zero, List.set_cons_succ, i64_w, i32_w]
                     rfl
                    refine pure_ (i := 9) (N := some 128) (v := ?_) (a' := ?_) #[true, true, true, true, true, true, true, true, false, true, false, false, false, false, false, false, false, false] rfl rfl (any_of HT_.out (by kernel_rfl)) (fun _ _ _ h => h) (Or.inl ⟨by rfl, ?_⟩) ?_ ?_
                    rotate_left
                    ·intro w'
                     go_simp
                     with_reducible rfl
                    rotate_left
                    ·simp only [Act.put, List.setIfInBounds_toArray, List.set_cons_zero, List.set_cons_succ, i64_w, i32_w]
                     rfl
                    refine pure_ (i := 10) (N := some 129) (v := ?_) (a' := ?_) #[true, true, true, true, true, true, true, true, false, true, true, false, false, false, false, false, false, false] rfl rfl (any_of HT_.out (by kernel_rfl)) (fun _ _ _ h => h) (Or.inl ⟨by rfl, ?_⟩) ?_ ?_
                    rotate_left
                    ·intro w'
                     go_simp
                     with_reducible rfl
                    rotate_left
                    ·simp only [Act.put, List.setIfInBounds_toArray, List.set_cons_zero, List.set_cons_succ, i64_w, i32_w]
                     rfl
                    refine pure_ (i := 11) (N := some 130) (v := ?_) (a' := ?_) #[true, true, true, true, true, true, true, true, false, true, true, true, false, false, false, false, false, false] rfl rfl (any_of HT_.out (by kernel_rfl)) (fun _ _ _ h => h) (Or.inl ⟨by rfl, ?_⟩) ?_ ?_
                    rotate_left
                    ·intro w'
                     go_simp
                     with_reducible rfl
                    rotate_left
                    ·simp only [Act.put, List.setIfInBounds_toArray, List.set_cons_zero, List.set_cons_succ, i64_w, i32_w]
                     rfl
                    refine pure_ (i := 12) (N := some 131) (v := ?_) (a' := ?_) #[true, true, true, true, true, true, true, true, false, true, true, true, true, false, false, false, false, false] rfl rfl (any_of HT_.out (by kernel_rfl)) (fun _ _ _ h => h) (Or.inl ⟨by rfl, ?_⟩) ?_ ?_
                    rotate_left
                    ·intro w'
                     go_simp
                     with_reducible rfl
                    rotate_left
                    ·simp only [Act.put, List.setIfInBounds_toArray, List.set_cons_zero, List.set_cons_succ, i64_w, i32_w]
                     rfl
                    refine pure_ (i := 13) (N := some 132) (v := ?_) (a' := ?_) #[true, true, true, true, true, true, true, true, false, true, true, true, true, true, false, false, false, false] rfl rfl (any_of HT_.out (by kernel_rfl)) (fun _ _ _ h => h) (Or.inl ⟨by rfl, ?_⟩) ?_ ?_
                    rotate_left
                    ·intro w'
                     go_simp
                     with_reducible rfl
                    rotate_left
                    ·simp only [Act.put, List.setIfInBounds_toArray, List.set_cons_zero, List.set_cons_succ, i64_w, i32_w]
                     rfl
                    refine pure_ (i := 14) (N := some 133) (v := ?_) (a' := ?_) #[true, true, true, true, true, true, true, true, false, true, true, true, true, true, true, false, false, false] rfl rfl (any_of HT_.out (by kernel_rfl)) (fun _ _ _ h => h) (Or.inl ⟨by rfl, ?_⟩) ?_ ?_
                    rotate_left
                    ·intro w'
                     go_simp
                     with_reducible rfl
                    rotate_left
                    ·simp only [Act.put, List.setIfInBounds_toArray, List.set_cons_zero, List.set_cons_succ, i64_w, i32_w]
                     rfl
                    refine one_ (i := 8) (N := some 127) #[true, true, true, true, true, true, true, true, true, true, true, true, true, true, true, false, false, false] rfl rfl (one_of HT_.out (by kernel_rfl)) (by decide) (fun K hK => ?_)
                    refine goes_ Tryd.func20 (by kernel_rfl) rfl #[.string (a0.extract ((ji98) : Int).toNat ((ji103) : Int).toNat)] (by rfl) rfl rfl (by (try simp only [List.map_toArray, List.map_cons, List.map_nil]); first | done | (simp only [hji103, hji98]; rfl) | rfl | (simp only [List.length_drop, List.length_take]; rfl)) ?_
                    with_reducible refine (tambourref04_Text.calls (a0.extract ((ji98) : Int).toNat ((ji103) : Int).toNat) t220 t221 t222 _ A102.out).mono ?_
                    rintro e w107 ⟨v223, rfl, ho0, hb⟩
                    refine ⟨_, rfl, ?_⟩
                    have n0_ := Aside0.mk (Kd.R_lower (Kd.R_newB ho0 (g := gb202) (o := .cells #[.bool false, .string (⟨#[]⟩ : ByteArray), .slice none 0 0] 24 (0, 0)) (by (with_reducible repeat (first | refine blk_drewN ?_ _ | refine blk_drew ?_ | refine blk_alloc ?_ _)); exact BK202.out)) (below_size (by repeat (first | (with_reducible first | exact HB.out | apply below_alloc | apply pw_below_drewN | apply below_drew1 | refine below_set ?_ GE202.out) | exact HB.out))))
                    have n1_ := Aside0.mk (blk_below (g := gb202) (o := .cells #[.bool false, .string (⟨#[]⟩ : ByteArray), .slice none 0 0] 24 (0, 0)) (by (with_reducible repeat (first | refine blk_drewN ?_ _ | refine blk_drew ?_ | refine blk_alloc ?_ _)); exact BK202.out) hb)
                    have n2_ := Aside0.mk (below_step (by repeat (first | (with_reducible first | exact HB.out | apply below_alloc | apply pw_below_drewN | apply below_drew1 | refine below_set ?_ GE202.out) | exact HB.out)) hb)
                    clear BK202
                    clear HB
                    have HO224 := n0_
                    have BK202 := n1_
                    have HB := n2_
                    clear n0_ n1_ n2_
                    (try clear hb)
                    (try clear hb2)
                    (try clear hk)
                    (try clear hi)
                    (try clear ho0)
                    obtain ⟨Ao110, co110, eo110⟩ := Kd.R_slice HO224.out
                    (first | subst eo110 | (injection eo110 with f1_ f2_ f3_; have f4_ := f1_.symm; have f5_ := f3_.symm; clear f1_ f2_ f3_; subst f4_; subst f5_))
                    refine hK.out _ _ trivial (fun hHeld => ?_)
                    clear hK K
                    refine norm_ (a' := ?_) ?_ ?_
                    rotate_left
                    ·show Act.put _ (some 127) _ = _
                     simp only [Act.put, List.setIfInBounds_toArray, List.set_cons_zero, List.set_cons_succ, i64_w, i32_w]
                     rfl
                    refine one_ (i := 15) (N := none) #[true, true, true, true, true, true, true, true, true, true, true, true, true, true, true, true, false, false] rfl rfl (one_of HT_.out (by kernel_rfl)) (by decide) (fun K hK => ?_)
                    have hs108 : w107.cell? ⟨gb202, 0, none⟩ = some (.bool false) := (blk_cell BK202.out 0).trans rfl
                    have hfs108 := blk_frozen BK202.out 0
                    have hs109 : w107.cell? ⟨gb202, 1, none⟩ = some (.string (⟨#[]⟩ : ByteArray)) := (blk_cell BK202.out 1).trans rfl
                    have hfs109 := blk_frozen BK202.out 1
                    have hs111 : w107.cell? ⟨gb202, 2, none⟩ = some (.slice none 0 0) := (blk_cell BK202.out 2).trans rfl
                    have hfs111 := blk_frozen BK202.out 2
                    refine skip_ (w1 := ?_) (by rfl) rfl ?_ ?_
                    rotate_left
                    ·go_simp
                     rfl
                    refine hK.out _ _ trivial (fun hHeld => ?_)
                    clear hK K
                    refine pure_ (i := 16) (N := some 5) (v := ?_) (a' := ?_) #[true, true, true, true, true, true, true, true, true, true, true, true, true, true, true, true, true, false] rfl rfl (any_of HT_.out (by kernel_rfl)) (fun _ _ _ h => h) (Or.inl ⟨by rfl, ?_⟩) ?_ ?_
                    rotate_left
                    ·intro w'
                     go_simp
                     with_reducible rfl
                    rotate_left
                    ·simp only [Act.put, List.setIfInBounds_toArray, List.set_cons_zero, List.set_cons_succ, i64_w, i32_w]
                     rfl
                    refine pure_ (i := 17) (N := some 6) (v := ?_) (a' := ?_) #[true, true, true, true, true, true, true, true, true, true, true, true, true, true, true, true, true, true] rfl rfl (any_of HT_.out (by kernel_rfl)) (fun _ _ _ h => h) (Or.inl ⟨by rfl, ?_⟩) ?_ ?_
                    rotate_left
                    ·intro w'
                     go_simp
                     with_reducible rfl
                    rotate_left
                    ·simp only [Act.put, List.setIfInBounds_toArray, List.set_cons_zero, List.set_cons_succ, i64_w, i32_w]
                     rfl
                    refine done_ (done_of HT_.out (by kernel_rfl)) ?_
                    try go_wp2
                    refine bodyPost_ret (results_ctt rfl _ _ gb202 24 #[.bool t220, .string t221, .slice Ao110 t222.length co110] (0, 0) _ rfl (by (with_reducible repeat (first | refine blk_drewN ?_ _ | refine blk_drew ?_ | refine blk_alloc ?_ _)); refine blk_put (cs := #[.bool t220, .string t221, .slice none 0 0]) ?_ 2 _ rfl; (with_reducible repeat (first | refine blk_drewN ?_ _ | refine blk_drew ?_ | refine blk_alloc ?_ _)); refine blk_put (cs := #[.bool t220, .string (⟨#[]⟩ : ByteArray), .slice none 0 0]) ?_ 1 _ rfl; (with_reducible repeat (first | refine blk_drewN ?_ _ | refine blk_drew ?_ | refine blk_alloc ?_ _)); refine blk_put (cs := #[.bool false, .string (⟨#[]⟩ : ByteArray), .slice none 0 0]) ?_ 0 _ rfl; (with_reducible repeat (first | refine blk_drewN ?_ _ | refine blk_drew ?_ | refine blk_alloc ?_ _)); exact BK202.out) Tryd.underlying24 rfl (by kernel_rfl)) rfl ?_
                    exact ⟨_, by first | rfl | (simp [errW_none, errW_some] <;> rfl) | (simp only [← hji98, ← hji103]; first | rfl | (simp [errW_none, errW_some] <;> rfl)) | (simp [*, errW_none, errW_some] <;> rfl), by (with_reducible repeat (first | apply Kd.R_alloc | apply Kd.R_drewN | apply Kd.R_drew)); exact Kd.R_mono (Kd.R_far (p := ⟨gb202, 2, none⟩) (Kd.R_far (p := ⟨gb202, 1, none⟩) (Kd.R_far (p := ⟨gb202, 0, none⟩) (Kd.R_mono HO224.out (fun k_ hk => (⟨hk, hk.2⟩ : _ ∧ k_ ≠ gb202))) (fun _ hk => hk.2) (.bool t220)) (fun _ hk => hk.2) (.string t221)) (fun _ hk => hk.2) (.slice Ao110 t222.length co110)) (fun _ hk => trivial), by repeat (first | (with_reducible first | exact HB.out | apply below_alloc | apply pw_below_drewN | apply below_drew1 | refine below_set ?_ GE202.out) | exact HB.out)⟩
                   ·rw [if_neg c104] at H
                    exact absurd H (by simp)
                  ·rw [if_neg c101] at H
                   exact absurd H (by simp)
                 ·rw [if_neg c100] at H
                  exact absurd H (by simp)
                ·rw [if_neg c99] at H
                 exact absurd H (by simp)
              ·rw [if_neg c95] at H
               have c95b0 : ((bt a0 x12_1) == 58) = false := beq_eq_false_iff_ne.mpr c95
               have c95b1 : ((bt a0 x12_1) != 58) = true := bne_iff_ne.mpr c95
               simp only [Option.some.injEq, Prod.mk.injEq] at H
               obtain ⟨rfl, rfl, rfl, rfl, rfl⟩ := H
               have p58 : 0 ≤ (x12_1 : Int) := of_decide_eq_true (by first | (with_reducible assumption) | assumption)
               have q58 : x12_1 < (a0.size : Int) := of_decide_eq_true (by first | (with_reducible assumption) | assumption)
               have hx58 := bt_at a0 x12_1
               replace p58 := eq_true p58
               replace q58 := eq_true q58
               have p60 : 0 ≤ (x12_1 : Int) := of_decide_eq_true (by first | (with_reducible assumption) | assumption)
               have q60 : x12_1 < (a0.size : Int) := of_decide_eq_true (by first | (with_reducible assumption) | assumption)
               have hx60 := bt_at a0 x12_1
               replace p60 := eq_true p60
               replace q60 := eq_true q60
               have p94 : 0 ≤ (x12_1 : Int) := of_decide_eq_true (by first | (with_reducible assumption) | assumption)
               have q94 : x12_1 < (a0.size : Int) := of_decide_eq_true (by first | (with_reducible assumption) | assumption)
               have hx94 := bt_at a0 x12_1
               replace p94 := eq_true p94
               replace q94 := eq_true q94
               have hcz112_0 : wr.cell? ⟨gb202, 0, none⟩ = some (.bool false) := (blk_cell BK202.out 0).trans rfl
               have hcz112_1 : wr.cell? ⟨gb202, 1, none⟩ = some (.string (⟨#[]⟩ : ByteArray)) := (blk_cell BK202.out 1).trans rfl
               have hcz112_2 : wr.cell? ⟨gb202, 2, none⟩ = some (.slice none 0 0) := (blk_cell BK202.out 2).trans rfl
               have hfz112_0 := blk_frozen BK202.out 0
               have hfz112_1 := blk_frozen BK202.out 1
               have hfz112_2 := blk_frozen BK202.out 2
               go_wp2
               refine bodyPost_ret (results_ctt rfl _ _ gb202 24 #[.bool false, .string (⟨#[]⟩ : ByteArray), .slice none 0 0] (0, 0) _ rfl (by repeat (first | (with_reducible refine blk_drewN ?_ _) | (with_reducible refine blk_drew ?_) | (with_reducible refine blk_alloc ?_ _) | exact BK202.out | refine blk_put (cs := #[.bool false, .string (⟨#[]⟩ : ByteArray), .slice none 0 0]) ?_ _ _ rfl)) Tryd.underlying24 rfl (by kernel_rfl)) rfl ?_
               exact ⟨_, rfl, Kd.R_nil _ _ _ _ _, by repeat (first | (with_reducible first | exact HB.out | apply below_alloc | apply pw_below_drewN | apply below_drew1 | refine below_set ?_ GE202.out) | exact HB.out)⟩
         ·rw [if_neg c61] at H
          have c61b0 : decide ((bt a0 x12_1) ≤ 57) = false := decide_eq_false c61
          clear c61
          by_cases c113 : x12_1 = 0
          ·rw [if_pos c113] at H
           have c113b0 : (x12_1 == 0) = true := beq_iff_eq.mpr c113
           have c113b1 : (x12_1 != 0) = false := bne_eq_false_iff_eq.mpr c113
           clear c113
           simp only [Option.some.injEq, Prod.mk.injEq] at H
           obtain ⟨rfl, rfl, rfl, rfl, rfl⟩ := H
           have p58 : 0 ≤ (x12_1 : Int) := of_decide_eq_true (by first | (with_reducible assumption) | assumption)
           have q58 : x12_1 < (a0.size : Int) := of_decide_eq_true (by first | (with_reducible assumption) | assumption)
           have hx58 := bt_at a0 x12_1
           replace p58 := eq_true p58
           replace q58 := eq_true q58
           have p60 : 0 ≤ (x12_1 : Int) := of_decide_eq_true (by first | (with_reducible assumption) | assumption)
           have q60 : x12_1 < (a0.size : Int) := of_decide_eq_true (by first | (with_reducible assumption) | assumption)
           have hx60 := bt_at a0 x12_1
           replace p60 := eq_true p60
           replace q60 := eq_true q60
           have hcz114_0 : wr.cell? ⟨gb202, 0, none⟩ = some (.bool false) := (blk_cell BK202.out 0).trans rfl
           have hcz114_1 : wr.cell? ⟨gb202, 1, none⟩ = some (.string (⟨#[]⟩ : ByteArray)) := (blk_cell BK202.out 1).trans rfl
           have hcz114_2 : wr.cell? ⟨gb202, 2, none⟩ = some (.slice none 0 0) := (blk_cell BK202.out 2).trans rfl
           have hfz114_0 := blk_frozen BK202.out 0
           have hfz114_1 := blk_frozen BK202.out 1
           have hfz114_2 := blk_frozen BK202.out 2
           go_wp2
           refine bodyPost_ret (results_ctt rfl _ _ gb202 24 #[.bool false, .string (⟨#[]⟩ : ByteArray), .slice none 0 0] (0, 0) _ rfl (by repeat (first | (with_reducible refine blk_drewN ?_ _) | (with_reducible refine blk_drew ?_) | (with_reducible refine blk_alloc ?_ _) | exact BK202.out | refine blk_put (cs := #[.bool false, .string (⟨#[]⟩ : ByteArray), .slice none 0 0]) ?_ _ _ rfl)) Tryd.underlying24 rfl (by kernel_rfl)) rfl ?_
           exact ⟨_, rfl, Kd.R_nil _ _ _ _ _, by repeat (first | (with_reducible first | exact HB.out | apply below_alloc | apply pw_below_drewN | apply below_drew1 | refine below_set ?_ GE202.out) | exact HB.out)⟩
          ·rw [if_neg c113] at H
           have c113b0 : (x12_1 == 0) = false := beq_eq_false_iff_ne.mpr c113
           have c113b1 : (x12_1 != 0) = true := bne_iff_ne.mpr c113
           by_cases c115 : x12_1 > 1
           ·rw [if_pos c115] at H
            have c115b0 : decide (1 < x12_1) = true := decide_eq_true c115
            clear c115
            by_cases c116 : 0 < (a0.size : Int)
            ·rw [if_pos c116] at H
             have c116b0 : decide (0 < (a0.size : Int)) = true := decide_eq_true c116
             have c116b1 : decide (0 < a0.size) = true := decide_eq_true (by omega)
             clear c116
             by_cases c118 : (bt a0 0) = 48
             ·rw [if_pos c118] at H
              have c118b0 : ((bt a0 0) == 48) = true := beq_iff_eq.mpr c118
              have c118b1 : ((bt a0 0) != 48) = false := bne_eq_false_iff_eq.mpr c118
              clear c118
              simp only [Option.some.injEq, Prod.mk.injEq] at H
              obtain ⟨rfl, rfl, rfl, rfl, rfl⟩ := H
              have p58 : 0 ≤ (x12_1 : Int) := of_decide_eq_true (by first | (with_reducible assumption) | assumption)
              have q58 : x12_1 < (a0.size : Int) := of_decide_eq_true (by first | (with_reducible assumption) | assumption)
              have hx58 := bt_at a0 x12_1
              replace p58 := eq_true p58
              replace q58 := eq_true q58
              have p60 : 0 ≤ (x12_1 : Int) := of_decide_eq_true (by first | (with_reducible assumption) | assumption)
              have q60 : x12_1 < (a0.size : Int) := of_decide_eq_true (by first | (with_reducible assumption) | assumption)
              have hx60 := bt_at a0 x12_1
              replace p60 := eq_true p60
              replace q60 := eq_true q60
              have p117 : 0 ≤ (0 : Int) := (by omega)
              have q117 : 0 < a0.size := (by have : (0 : Int) < (a0.size : Int) := of_decide_eq_true (by first | (with_reducible assumption) | assumption); omega)
              have hx117 : ∀ h : 0 < a0.size, ((a0[0]'h).toNat : Int) = bt a0 0 := bt_at a0 0
              clear p117
              have qi117 : (0 < (a0.size : Int)) = True := eq_true (of_decide_eq_true (by first | (with_reducible assumption) | assumption))
              replace q117 := eq_true q117
              have hcz119_0 : wr.cell? ⟨gb202, 0, none⟩ = some (.bool false) := (blk_cell BK202.out 0).trans rfl
              have hcz119_1 : wr.cell? ⟨gb202, 1, none⟩ = some (.string (⟨#[]⟩ : ByteArray)) := (blk_cell BK202.out 1).trans rfl
              have hcz119_2 : wr.cell? ⟨gb202, 2, none⟩ = some (.slice none 0 0) := (blk_cell BK202.out 2).trans rfl
              have hfz119_0 := blk_frozen BK202.out 0
              have hfz119_1 := blk_frozen BK202.out 1
              have hfz119_2 := blk_frozen BK202.out 2
              go_wp2
              refine bodyPost_ret (results_ctt rfl _ _ gb202 24 #[.bool false, .string (⟨#[]⟩ : ByteArray), .slice none 0 0] (0, 0) _ rfl (by repeat (first | (with_reducible refine blk_drewN ?_ _) | (with_reducible refine blk_drew ?_) | (with_reducible refine blk_alloc ?_ _) | exact BK202.out | refine blk_put (cs := #[.bool false, .string (⟨#[]⟩ : ByteArray), .slice none 0 0]) ?_ _ _ rfl)) Tryd.underlying24 rfl (by kernel_rfl)) rfl ?_
              exact ⟨_, rfl, Kd.R_nil _ _ _ _ _, by repeat (first | (with_reducible first | exact HB.out | apply below_alloc | apply pw_below_drewN | apply below_drew1 | refine below_set ?_ GE202.out) | exact HB.out)⟩
             ·rw [if_neg c118] at H
              have c118b0 : ((bt a0 0) == 48) = false := beq_eq_false_iff_ne.mpr c118
              have c118b1 : ((bt a0 0) != 48) = true := bne_iff_ne.mpr c118
              by_cases c120 : x12_1 ≥ (a0.size : Int)
              ·rw [if_pos c120] at H
               have c120b0 : decide ((a0.size : Int) ≤ x12_1) = true := decide_eq_true c120
               clear c120
               simp only [Option.some.injEq, Prod.mk.injEq] at H
               obtain ⟨rfl, rfl, rfl, rfl, rfl⟩ := H
               have p58 : 0 ≤ (x12_1 : Int) := of_decide_eq_true (by first | (with_reducible assumption) | assumption)
               have q58 : x12_1 < (a0.size : Int) := of_decide_eq_true (by first | (with_reducible assumption) | assumption)
               have hx58 := bt_at a0 x12_1
               replace p58 := eq_true p58
               replace q58 := eq_true q58
               have p60 : 0 ≤ (x12_1 : Int) := of_decide_eq_true (by first | (with_reducible assumption) | assumption)
               have q60 : x12_1 < (a0.size : Int) := of_decide_eq_true (by first | (with_reducible assumption) | assumption)
               have hx60 := bt_at a0 x12_1
               replace p60 := eq_true p60
               replace q60 := eq_true q60
               have p117 : 0 ≤ (0 : Int) := (by omega)
               have q117 : 0 < a0.size := (by have : (0 : Int) < (a0.size : Int) := of_decide_eq_true (by first | (with_reducible assumption) | assumption); omega)
               have hx117 : ∀ h : 0 < a0.size, ((a0[0]'h).toNat : Int) = bt a0 0 := bt_at a0 0
               clear p117
               have qi117 : (0 < (a0.size : Int)) = True := eq_true (of_decide_eq_true (by first | (with_reducible assumption) | assumption))
               replace q117 := eq_true q117
               have hcz121_0 : wr.cell? ⟨gb202, 0, none⟩ = some (.bool false) := (blk_cell BK202.out 0).trans rfl
               have hcz121_1 : wr.cell? ⟨gb202, 1, none⟩ = some (.string (⟨#[]⟩ : ByteArray)) := (blk_cell BK202.out 1).trans rfl
               have hcz121_2 : wr.cell? ⟨gb202, 2, none⟩ = some (.slice none 0 0) := (blk_cell BK202.out 2).trans rfl
               have hfz121_0 := blk_frozen BK202.out 0
               have hfz121_1 := blk_frozen BK202.out 1
               have hfz121_2 := blk_frozen BK202.out 2
               go_wp2
               refine bodyPost_ret (results_ctt rfl _ _ gb202 24 #[.bool false, .string (⟨#[]⟩ : ByteArray), .slice none 0 0] (0, 0) _ rfl (by repeat (first | (with_reducible refine blk_drewN ?_ _) | (with_reducible refine blk_drew ?_) | (with_reducible refine blk_alloc ?_ _) | exact BK202.out | refine blk_put (cs := #[.bool false, .string (⟨#[]⟩ : ByteArray), .slice none 0 0]) ?_ _ _ rfl)) Tryd.underlying24 rfl (by kernel_rfl)) rfl ?_
               exact ⟨_, rfl, Kd.R_nil _ _ _ _ _, by repeat (first | (with_reducible first | exact HB.out | apply below_alloc | apply pw_below_drewN | apply below_drew1 | refine below_set ?_ GE202.out) | exact HB.out)⟩
              ·rw [if_neg c120] at H
               have c120b0 : decide ((a0.size : Int) ≤ x12_1) = false := decide_eq_false c120
               clear c120
               by_cases c123 : (bt a0 x12_1) = 58
               ·rw [if_pos c123] at H
                have c123b0 : ((bt a0 x12_1) == 58) = true := beq_iff_eq.mpr c123
                have c123b1 : ((bt a0 x12_1) != 58) = false := bne_eq_false_iff_eq.mpr c123
                clear c123
                by_cases c124 : x11_1 > (wrap64 ((wrap64 ((a0.size : Int) - x12_1)) - 1))
                ·rw [if_pos c124] at H
                 have c124b0 : decide ((wrap64 ((wrap64 ((a0.size : Int) - x12_1)) - 1)) < x11_1) = true := decide_eq_true c124
                 clear c124
                 simp only [Option.some.injEq, Prod.mk.injEq] at H
                 obtain ⟨rfl, rfl, rfl, rfl, rfl⟩ := H
                 have p58 : 0 ≤ (x12_1 : Int) := of_decide_eq_true (by first | (with_reducible assumption) | assumption)
                 have q58 : x12_1 < (a0.size : Int) := of_decide_eq_true (by first | (with_reducible assumption) | assumption)
                 have hx58 := bt_at a0 x12_1
                 replace p58 := eq_true p58
                 replace q58 := eq_true q58
                 have p60 : 0 ≤ (x12_1 : Int) := of_decide_eq_true (by first | (with_reducible assumption) | assumption)
                 have q60 : x12_1 < (a0.size : Int) := of_decide_eq_true (by first | (with_reducible assumption) | assumption)
                 have hx60 := bt_at a0 x12_1
                 replace p60 := eq_true p60
                 replace q60 := eq_true q60
                 have p117 : 0 ≤ (0 : Int) := (by omega)
                 have q117 : 0 < a0.size := (by have : (0 : Int) < (a0.size : Int) := of_decide_eq_true (by first | (with_reducible assumption) | assumption); omega)
                 have hx117 : ∀ h : 0 < a0.size, ((a0[0]'h).toNat : Int) = bt a0 0 := bt_at a0 0
                 clear p117
                 have qi117 : (0 < (a0.size : Int)) = True := eq_true (of_decide_eq_true (by first | (with_reducible assumption) | assumption))
                 replace q117 := eq_true q117
                 have p122 : 0 ≤ (x12_1 : Int) := of_decide_eq_true (by first | (with_reducible assumption) | assumption)
                 have q122 : x12_1 < (a0.size : Int) := of_decide_eq_true (by first | (with_reducible assumption) | assumption)
                 have hx122 := bt_at a0 x12_1
                 replace p122 := eq_true p122
                 replace q122 := eq_true q122
                 have hcz125_0 : wr.cell? ⟨gb202, 0, none⟩ = some (.bool false) := (blk_cell BK202.out 0).trans rfl
                 have hcz125_1 : wr.cell? ⟨gb202, 1, none⟩ = some (.string (⟨#[]⟩ : ByteArray)) := (blk_cell BK202.out 1).trans rfl
                 have hcz125_2 : wr.cell? ⟨gb202, 2, none⟩ = some (.slice none 0 0) := (blk_cell BK202.out 2).trans rfl
                 have hfz125_0 := blk_frozen BK202.out 0
                 have hfz125_1 := blk_frozen BK202.out 1
                 have hfz125_2 := blk_frozen BK202.out 2
                 go_wp2
                 refine bodyPost_ret (results_ctt rfl _ _ gb202 24 #[.bool false, .string (⟨#[]⟩ : ByteArray), .slice none 0 0] (0, 0) _ rfl (by repeat (first | (with_reducible refine blk_drewN ?_ _) | (with_reducible refine blk_drew ?_) | (with_reducible refine blk_alloc ?_ _) | exact BK202.out | refine blk_put (cs := #[.bool false, .string (⟨#[]⟩ : ByteArray), .slice none 0 0]) ?_ _ _ rfl)) Tryd.underlying24 rfl (by kernel_rfl)) rfl ?_
                 exact ⟨_, rfl, Kd.R_nil _ _ _ _ _, by repeat (first | (with_reducible first | exact HB.out | apply below_alloc | apply pw_below_drewN | apply below_drew1 | refine below_set ?_ GE202.out) | exact HB.out)⟩
                ·rw [if_neg c124] at H
                 have c124b0 : decide ((wrap64 ((wrap64 ((a0.size : Int) - x12_1)) - 1)) < x11_1) = false := decide_eq_false c124
                 clear c124
                 obtain ⟨ji126, hji126⟩ : ∃ j_ : Int, (wrap64 (x12_1 + 1)) = j_ := ⟨_, rfl⟩
                 replace H : (if 0 ≤ (ji126) then (if (ji126) ≤ (wrap64 ((ji126) + x11_1)) then (if (wrap64 ((ji126) + x11_1)) ≤ (a0.size : Int) then ((tambourref04_Text.f (a0.extract ((ji126) : Int).toNat ((wrap64 ((ji126) + x11_1)) : Int).toNat)).bind fun bt225 => (if 0 ≤ (wrap64 ((ji126) + x11_1)) then (some (bt225.1, bt225.2.1, bt225.2.2, a0.extract ((wrap64 ((ji126) + x11_1)) : Int).toNat a0.size, true)) else (none))) else (none)) else (none)) else (none)) = some (r1, r2, r3, r4, r5) := by first | (rw [hji126] at H; exact H) | (simp only [hji126] at H ⊢; exact H)
                 have hji126w : (IntKind.i64.wrap (x12_1 + 1)) = ji126 := (i64_w _).trans hji126
                 by_cases c127 : 0 ≤ (ji126)
                 ·rw [if_pos c127] at H
                  have c127b0 := eq_true c127
                  have c127b1 : decide (0 ≤ (ji126)) = true := decide_eq_true c127
                  clear c127
                  by_cases c128 : (ji126) ≤ (wrap64 ((ji126) + x11_1))
                  ·rw [if_pos c128] at H
                   have c128b0 := eq_true c128
                   have c128b1 : decide ((ji126) ≤ (wrap64 ((ji126) + x11_1))) = true := decide_eq_true c128
                   by_cases c129 : (wrap64 ((ji126) + x11_1)) ≤ (a0.size : Int)
                   ·rw [if_pos c129] at H
                    have c129b0 := eq_true c129
                    have c129b1 : decide ((wrap64 ((ji126) + x11_1)) ≤ (a0.size : Int)) = true := decide_eq_true c129
                    replace H := Option.bind_eq_some_iff.mp H
                    obtain ⟨⟨t225, t226, t227⟩, A1300, H⟩ := H
                    replace H : (if 0 ≤ (wrap64 ((ji126) + x11_1)) then (some (t225, t226, t227, a0.extract ((wrap64 ((ji126) + x11_1)) : Int).toNat a0.size, true)) else (none)) = some (r1, r2, r3, r4, r5) := H
                    have A130 := Aside0.mk A1300
                    clear A1300
                    obtain ⟨ji131, hji131⟩ : ∃ j_ : Int, (wrap64 ((ji126) + x11_1)) = j_ := ⟨_, rfl⟩
                    replace H : (if 0 ≤ (ji131) then (some (t225, t226, t227, a0.extract ((ji131) : Int).toNat a0.size, true)) else (none)) = some (r1, r2, r3, r4, r5) := by first | (rw [hji131] at H; exact H) | (simp only [hji131] at H ⊢; exact H)
                    (try rw [hji131] at c128b0)
                    (try rw [hji131] at c128b1)
                    (try rw [hji131] at c128)
                    (try rw [hji131] at c129b0)
                    (try rw [hji131] at c129b1)
                    (try rw [hji131] at c129)
                    (try rw [hji131] at A130)
                    have hji131w : (IntKind.i64.wrap ((ji126) + x11_1)) = ji131 := (i64_w _).trans hji131
                    by_cases c132 : 0 ≤ (ji131)
                    ·rw [if_pos c132] at H
                     have c132b0 := eq_true c132
                     have c132b1 : decide (0 ≤ (ji131)) = true := decide_eq_true c132
                     clear c132
                     have c133b0 := eq_true (of_decide_eq_true (by first | (with_reducible assumption) | assumption) : (ji131) ≤ (a0.size : Int))
                     simp only [Option.some.injEq, Prod.mk.injEq] at H
                     obtain ⟨rfl, rfl, rfl, rfl, rfl⟩ := H
                     have p58 : 0 ≤ (x12_1 : Int) := of_decide_eq_true (by first | (with_reducible assumption) | assumption)
                     have q58 : x12_1 < (a0.size : Int) := of_decide_eq_true (by first | (with_reducible assumption) | assumption)
                     have hx58 := bt_at a0 x12_1
                     replace p58 := eq_true p58
                     replace q58 := eq_true q58
                     have p60 : 0 ≤ (x12_1 : Int) := of_decide_eq_true (by first | (with_reducible assumption) | assumption)
                     have q60 : x12_1 < (a0.size : Int) := of_decide_eq_true (by first | (with_reducible assumption) | assumption)
                     have hx60 := bt_at a0 x12_1
                     replace p60 := eq_true p60
                     replace q60 := eq_true q60
                     have p117 : 0 ≤ (0 : Int) := (by omega)
                     have q117 : 0 < a0.size := (by have : (0 : Int) < (a0.size : Int) := of_decide_eq_true (by first | (with_reducible assumption) | assumption); omega)
                     have hx117 : ∀ h : 0 < a0.size, ((a0[0]'h).toNat : Int) = bt a0 0 := bt_at a0 0
                     clear p117
                     have qi117 : (0 < (a0.size : Int)) = True := eq_true (of_decide_eq_true (by first | (with_reducible assumption) | assumption))
                     replace q117 := eq_true q117
                     have p122 : 0 ≤ (x12_1 : Int) := of_decide_eq_true (by first | (with_reducible assumption) | assumption)
                     have q122 : x12_1 < (a0.size : Int) := of_decide_eq_true (by first | (with_reducible assumption) | assumption)
                     have hx122 := bt_at a0 x12_1
                     replace p122 := eq_true p122
                     replace q122 := eq_true q122
                     try go_wp2
                     have n0_ := Aside0.mk (blk_drew BK202.out)
                     have n1_ := Aside0.mk (below_drew1 HB.out)
                     clear BK202
                     clear HB
                     have BK202 := n0_
                     have HB := n1_
                     clear n0_ n1_
                     refine start_ (n := 18) (S := fun w' => True) (ds := []) #[false, false, false, false, false, false, false, false, false, false, false, false, false, false, false, false, false, false] (by kernel_rfl) rfl rfl trivial (fun hHeld => ?_); refine with_tabW tambourref04_item.tab23 tambourref04_item.bits23 (fun HT_ HW_ => ?_)
                     generalize wr.drew = w134 at BK202 HB hHeld ⊢
                     refine pure_ (i := 0) (N := some 119) (v := ?_) (a' := ?_) #[true, false, false, false, false, false, false, false, false, false, false, false, false, false, false, false, false, false] rfl rfl (any_of HT_.out (by kernel_rfl)) (fun _ _ _ h => h) (Or.inl ⟨by rfl, ?_⟩) ?_ ?_
                     rotate_left
                     ·intro w'
                      go_simp
                      with_reducible rfl
                     rotate_left
                     ·simp only [Act.put, List.setIfInBounds_toArray, List.set_cons_zero, List.set_cons_succ, i64_w, i32_w]
                      rfl
                     refine pure_ (i := 1) (N := some 120) (v := ?_) (a' := ?_) #[true, true, false, false, false, false, false, false, false, false, false, false, false, false, false, false, false, false] rfl rfl (any_of HT_.out (by kernel_rfl)) (fun _ _ _ h => h) (Or.inl ⟨by rfl, ?_⟩) ?_ ?_
                     rotate_left
                     ·intro w'
                      go_simp
                      with_reducible rfl
                     rotate_left
                     ·simp only [Act.put, List.setIfInBounds_toArray, List.set_cons_zero, List.set_cons_succ, i64_w, i32_w]
                      rfl
                     refine pure_ (i := 2) (N := some 121) (v := ?_) (a' := ?_) #[true, true, true, false, false, false, false, false, false, false, false, false, false, false, false, false, false, false] rfl rfl (any_of HT_.out (by kernel_rfl)) (fun _ _ _ h => h) (Or.inl ⟨by rfl, ?_⟩) ?_ ?_
                     rotate_left
                     ·intro w'
                      go_simp
                      with_reducible rfl
                     rotate_left
                     ·simp only [Act.put, List.setIfInBounds_toArray, List.set_cons_zero, List.set_cons_succ, i64_w, i32_w]
                      rfl
                     refine pure_ (i := 3) (N := some 122) (v := ?_) (a' := ?_) #[true, true, true, true, false, false, false, false, false, false, false, false, false, false, false, false, false, false] rfl rfl (any_of HT_.out (by kernel_rfl)) (fun _ _ _ h => h) (Or.inl ⟨by rfl, ?_⟩) ?_ ?_
                     rotate_left
                     ·intro w'
                      go_simp
                      with_reducible rfl
                     rotate_left
                     ·simp only [Act.put, List.setIfInBounds_toArray, List.set_cons_zero, List.set_cons_succ, i64_w, i32_w]
                      rfl
                     refine pure_ (i := 4) (N := some 123) (v := ?_) (a' := ?_) #[true, true, true, true, true, false, false, false, false, false, false, false, false, false, false, false, false, false] rfl rfl (any_of HT_.out (by kernel_rfl)) (fun _ _ _ h => h) (Or.inl ⟨by rfl, ?_⟩) ?_ ?_
                     rotate_left
                     ·intro w'
                      go_simp
                      with_reducible rfl
                     rotate_left
                     ·simp only [Act.put, List.setIfInBounds_toArray, List.set_cons_zero, List.set_cons_succ, i64_w, i32_w]
                      rfl
                     refine pure_ (i := 5) (N := some 124) (v := ?_) (a' := ?_) #[true, true, true, true, true, true, false, false, false, false, false, false, false, false, false, false, false, false] rfl rfl (any_of HT_.out (by kernel_rfl)) (fun _ _ _ h => h) (Or.inl ⟨by rfl, ?_⟩) ?_ ?_
                     rotate_left
                     ·intro w'
                      go_simp
                      with_reducible rfl
                     rotate_left
                     ·simp only [Act.put, List.setIfInBounds_toArray, List.set_cons_zero, List.set_cons_succ, i64_w, i32_w]
                      rfl
                     refine pure_ (i := 6) (N := some 125) (v := ?_) (a' := ?_) #[true, true, true, true, true, true, true, false, false, false, false, false, false, false, false, false, false, false] rfl rfl (any_of HT_.out (by kernel_rfl)) (fun _ _ _ h => h) (Or.inl ⟨by rfl, ?_⟩) ?_ ?_
                     rotate_left
                     ·intro w'
                      go_simp
                      with_reducible rfl
                     rotate_left
                     ·simp only [Act.put, List.setIfInBounds_toArray, List.set_cons_zero, List.set_cons_succ, i64_w, i32_w]
                      rfl
                     refine pure_ (i := 7) (N := some 126) (v := ?_) (a' := ?_) #[true, true, true, true, true, true, true, true, false, false, false, false, false, false, false, false, false, false] rfl rfl (any_of HT_.out (by kernel_rfl)) (fun _ _ _ h => h) (Or.inl ⟨by rfl, ?_⟩) ?_ ?_
                     rotate_left
                     ·intro w'
                      go_simp
                      with_reducible rfl
                     rotate_left
                     ·simp only [Act.put, List.setIfInBounds_toArray, List.set_cons_zero, List.set_cons_succ, i64_w, i32_w]
                      rfl
                     refine pure_ (i := 9) (N := some 128) (v := ?_) (a' := ?_) #[true, true, true, true, true, true, true, true, false, true, false, false, false, false, false, false, false, false] rfl rfl (any_of HT_.out (by kernel_rfl)) (fun _ _ _ h => h) (Or.inl ⟨by rfl, ?_⟩) ?_ ?_
                     rotate_left
                     ·intro w'
                      go_simp
                      with_reducible rfl
                     rotate_left
                     ·simp only [Act.put, List.setIfInBounds_toArray, List.set_cons_zero, List.set_cons_succ, i64_w, i32_w]
                      rfl
                     refine pure_ (i := 10) (N := some 129) (v := ?_) (a' := ?_) #[true, true, true, true, true, true, true, true, false, true, true, false, false, false, false, false, false, false] rfl rfl (any_of HT_.out (by kernel_rfl)) (fun _ _ _ h => h) (Or.inl ⟨by rfl, ?_⟩) ?_ ?_
                     rotate_left
                     ·intro w'
                      go_simp
                      with_reducible rfl
                     rotate_left
                     ·simp only [Act.put, List.setIfInBounds_toArray, List.set_cons_zero, List.set_cons_succ, i64_w, i32_w]
                      rfl
                     refine pure_ (i := 11) (N := some 130) (v := ?_) (a' := ?_) #[true, true, true, true, true, true, true, true, false, true, true, true, false, false, false, false, false, false] rfl rfl (any_of HT_.out (by kernel_rfl)) (fun _ _ _ h => h) (Or.inl ⟨by rfl, ?_⟩) ?_ ?_
                     rotate_left
                     ·intro w'
                      go_simp
                      with_reducible rfl
                     rotate_left
                     ·simp only [Act.put, List.setIfInBounds_toArray, List.set_cons_zero, List.set_cons_succ, i64_w, i32_w]
                      rfl
                     refine pure_ (i := 12) (N := some 131) (v := ?_) (a' := ?_) #[true, true, true, true, true, true, true, true, false, true, true, true, true, false, false, false, false, false] rfl rfl (any_of HT_.out (by kernel_rfl)) (fun _ _ _ h => h) (Or.inl ⟨by rfl, ?_⟩) ?_ ?_
                     rotate_left
                     ·intro w'
                      go_simp
                      with_reducible rfl
                     rotate_left
                     ·simp only [Act.put, List.setIfInBounds_toArray, List.set_cons_zero, List.set_cons_succ, i64_w, i32_w]
                      rfl
                     refine pure_ (i := 13) (N := some 132) (v := ?_) (a' := ?_) #[true, true, true, true, true, true, true, true, false, true, true, true, true, true, false, false, false, false] rfl rfl (any_of HT_.out (by kernel_rfl)) (fun _ _ _ h => h) (Or.inl ⟨by rfl, ?_⟩) ?_ ?_
                     rotate_left
                     ·intro w'
                      go_simp
                      with_reducible rfl
                     rotate_left
                     ·simp only [Act.put, List.setIfInBounds_toArray, List.set_cons_zero, List.set_cons_succ, i64_w, i32_w]
                      rfl
                     refine pure_ (i := 14) (N := some 133) (v := ?_) (a' := ?_) #[true, true, true, true, true, true, true, true, false, true, true, true, true, true, true, false, false, false] rfl rfl (any_of HT_.out (by kernel_rfl)) (fun _ _ _ h => h) (Or.inl ⟨by rfl, ?_⟩) ?_ ?_
                     rotate_left
                     ·intro w'
                      go_simp
                      with_reducible rfl
                     rotate_left
                     ·simp only [Act.put, List.setIfInBounds_toArray, List.set_cons_zero, List.set_cons_succ, i64_w, i32_w]
                      rfl
                     refine one_ (i := 8) (N := some 127) #[true, true, true, true, true, true, true, true, true, true, true, true, true, true, true, false, false, false] rfl rfl (one_of HT_.out (by kernel_rfl)) (by decide) (fun K hK => ?_)
                     refine goes_ Tryd.func20 (by kernel_rfl) rfl #[.string (a0.extract ((ji126) : Int).toNat ((ji131) : Int).toNat)] (by rfl) rfl rfl (by (try simp only [List.map_toArray, List.map_cons, List.map_nil]); first | done | (simp only [hji126, hji131]; rfl) | rfl | (simp only [List.length_drop, List.length_take]; rfl)) ?_
                     with_reducible refine (tambourref04_Text.calls (a0.extract ((ji126) : Int).toNat ((ji131) : Int).toNat) t225 t226 t227 _ A130.out).mono ?_
                     rintro e w135 ⟨v228, rfl, ho0, hb⟩
                     refine ⟨_, rfl, ?_⟩
                     have n0_ := Aside0.mk (Kd.R_lower (Kd.R_newB ho0 (g := gb202) (o := .cells #[.bool false, .string (⟨#[]⟩ : ByteArray), .slice none 0 0] 24 (0, 0)) (by (with_reducible repeat (first | refine blk_drewN ?_ _ | refine blk_drew ?_ | refine blk_alloc ?_ _)); exact BK202.out)) (below_size (by repeat (first | (with_reducible first | exact HB.out | apply below_alloc | apply pw_below_drewN | apply below_drew1 | refine below_set ?_ GE202.out) | exact HB.out))))
                     have n1_ := Aside0.mk (blk_below (g := gb202) (o := .cells #[.bool false, .string (⟨#[]⟩ : ByteArray), .slice none 0 0] 24 (0, 0)) (by (with_reducible repeat (first | refine blk_drewN ?_ _ | refine blk_drew ?_ | refine blk_alloc ?_ _)); exact BK202.out) hb)
                     have n2_ := Aside0.mk (below_step (by repeat (first | (with_reducible first | exact HB.out | apply below_alloc | apply pw_below_drewN | apply below_drew1 | refine below_set ?_ GE202.out) | exact HB.out)) hb)
                     clear BK202
                     clear HB
                     have HO229 := n0_
                     have BK202 := n1_
                     have HB := n2_
                     clear n0_ n1_ n2_
                     (try clear hb)
                     (try clear hb2)
                     (try clear hk)
                     (try clear hi)
                     (try clear ho0)
                     obtain ⟨Ao138, co138, eo138⟩ := Kd.R_slice HO229.out
                     (first | subst eo138 | (injection eo138 with f1_ f2_ f3_; have f4_ := f1_.symm; have f5_ := f3_.symm; clear f1_ f2_ f3_; subst f4_; subst f5_))
                     refine hK.out _ _ trivial (fun hHeld => ?_)
                     clear hK K
                     refine norm_ (a' := ?_) ?_ ?_
                     rotate_left
                     ·show Act.put _ (some 127) _ = _
                      simp only [Act.put, List.setIfInBounds_toArray, List.set_cons_zero, List.set_cons_succ, i64_w, i32_w]
                      rfl
                     refine one_ (i := 15) (N := none) #[true, true, true, true, true, true, true, true, true, true, true, true, true, true, true, true, false, false] rfl rfl (one_of HT_.out (by kernel_rfl)) (by decide) (fun K hK => ?_)
                     have hs136 : w135.cell? ⟨gb202, 0, none⟩ = some (.bool false) := (blk_cell BK202.out 0).trans rfl
                     have hfs136 := blk_frozen BK202.out 0
                     have hs137 : w135.cell? ⟨gb202, 1, none⟩ = some (.string (⟨#[]⟩ : ByteArray)) := (blk_cell BK202.out 1).trans rfl
                     have hfs137 := blk_frozen BK202.out 1
                     have hs139 : w135.cell? ⟨gb202, 2, none⟩ = some (.slice none 0 0) := (blk_cell BK202.out 2).trans rfl
                     have hfs139 := blk_frozen BK202.out 2
                     refine skip_ (w1 := ?_) (by rfl) rfl ?_ ?_
                     rotate_left
                     ·go_simp
                      rfl
                     refine hK.out _ _ trivial (fun hHeld => ?_)
                     clear hK K
                     refine pure_ (i := 16) (N := some 5) (v := ?_) (a' := ?_) #[true, true, true, true, true, true, true, true, true, true, true, true, true, true, true, true, true, false] rfl rfl (any_of HT_.out (by kernel_rfl)) (fun _ _ _ h => h) (Or.inl ⟨by rfl, ?_⟩) ?_ ?_
                     rotate_left
                     ·intro w'
                      go_simp
                      with_reducible rfl
                     rotate_left
                     ·simp only [Act.put, List.setIfInBounds_toArray, List.set_cons_zero, List.set_cons_succ, i64_w, i32_w]
                      rfl
                     refine pure_ (i := 17) (N := some 6) (v := ?_) (a' := ?_) #[true, true, true, true, true, true, true, true, true, true, true, true, true, true, true, true, true, true] rfl rfl (any_of HT_.out (by kernel_rfl)) (fun _ _ _ h => h) (Or.inl ⟨by rfl, ?_⟩) ?_ ?_
                     rotate_left
                     ·intro w'
                      go_simp
                      with_reducible rfl
                     rotate_left
                     ·simp only [Act.put, List.setIfInBounds_toArray, List.set_cons_zero, List.set_cons_succ, i64_w, i32_w]
                      rfl
                     refine done_ (done_of HT_.out (by kernel_rfl)) ?_
                     try go_wp2
                     refine bodyPost_ret (results_ctt rfl _ _ gb202 24 #[.bool t225, .string t226, .slice Ao138 t227.length co138] (0, 0) _ rfl (by (with_reducible repeat (first | refine blk_drewN ?_ _ | refine blk_drew ?_ | refine blk_alloc ?_ _)); refine blk_put (cs := #[.bool t225, .string t226, .slice none 0 0]) ?_ 2 _ rfl; (with_reducible repeat (first | refine blk_drewN ?_ _ | refine blk_drew ?_ | refine blk_alloc ?_ _)); refine blk_put (cs := #[.bool t225, .string (⟨#[]⟩ : ByteArray), .slice none 0 0]) ?_ 1 _ rfl; (with_reducible repeat (first | refine blk_drewN ?_ _ | refine blk_drew ?_ | refine blk_alloc ?_ _)); refine blk_put (cs := #[.bool false, .string (⟨#[]⟩ : ByteArray), .slice none 0 0]) ?_ 0 _ rfl; (with_reducible repeat (first | refine blk_drewN ?_ _ | refine blk_drew ?_ | refine blk_alloc ?_ _)); exact BK202.out) Tryd.underlying24 rfl (by kernel_rfl)) rfl ?_
                     exact ⟨_, by first | rfl | (simp [errW_none, errW_some] <;> rfl) | (simp only [← hji126, ← hji131]; first | rfl | (simp [errW_none, errW_some] <;> rfl)) | (simp [*, errW_none, errW_some] <;> rfl), by (with_reducible repeat (first | apply Kd.R_alloc | apply Kd.R_drewN | apply Kd.R_drew)); exact Kd.R_mono (Kd.R_far (p := ⟨gb202, 2, none⟩) (Kd.R_far (p := ⟨gb202, 1, none⟩) (Kd.R_far (p := ⟨gb202, 0, none⟩) (Kd.R_mono HO229.out (fun k_ hk => (⟨hk, hk.2⟩ : _ ∧ k_ ≠ gb202))) (fun _ hk => hk.2) (.bool t225)) (fun _ hk => hk.2) (.string t226)) (fun _ hk => hk.2) (.slice Ao138 t227.length co138)) (fun _ hk => trivial), by repeat (first | (with_reducible first | exact HB.out | apply below_alloc | apply pw_below_drewN | apply below_drew1 | refine below_set ?_ GE202.out) | exact HB.out)⟩
                    ·rw [if_neg c132] at H
                     exact absurd H (by simp)
                   ·rw [if_neg c129] at H
                    exact absurd H (by simp)
                  ·rw [if_neg c128] at H
                   exact absurd H (by simp)
                 ·rw [if_neg c127] at H
                  exact absurd H (by simp)
               ·rw [if_neg c123] at H
                have c123b0 : ((bt a0 x12_1) == 58) = false := beq_eq_false_iff_ne.mpr c123
                have c123b1 : ((bt a0 x12_1) != 58) = true := bne_iff_ne.mpr c123
                simp only [Option.some.injEq, Prod.mk.injEq] at H
                obtain ⟨rfl, rfl, rfl, rfl, rfl⟩ := H
                have p58 : 0 ≤ (x12_1 : Int) := of_decide_eq_true (by first | (with_reducible assumption) | assumption)
                have q58 : x12_1 < (a0.size : Int) := of_decide_eq_true (by first | (with_reducible assumption) | assumption)
                have hx58 := bt_at a0 x12_1
                replace p58 := eq_true p58
                replace q58 := eq_true q58
                have p60 : 0 ≤ (x12_1 : Int) := of_decide_eq_true (by first | (with_reducible assumption) | assumption)
                have q60 : x12_1 < (a0.size : Int) := of_decide_eq_true (by first | (with_reducible assumption) | assumption)
                have hx60 := bt_at a0 x12_1
                replace p60 := eq_true p60
                replace q60 := eq_true q60
                have p117 : 0 ≤ (0 : Int) := (by omega)
                have q117 : 0 < a0.size := (by have : (0 : Int) < (a0.size : Int) := of_decide_eq_true (by first | (with_reducible assumption) | assumption); omega)
                have hx117 : ∀ h : 0 < a0.size, ((a0[0]'h).toNat : Int) = bt a0 0 := bt_at a0 0
                clear p117
                have qi117 : (0 < (a0.size : Int)) = True := eq_true (of_decide_eq_true (by first | (with_reducible assumption) | assumption))
                replace q117 := eq_true q117
                have p122 : 0 ≤ (x12_1 : Int) := of_decide_eq_true (by first | (with_reducible assumption) | assumption)
                have q122 : x12_1 < (a0.size : Int) := of_decide_eq_true (by first | (with_reducible assumption) | assumption)
                have hx122 := bt_at a0 x12_1
                replace p122 := eq_true p122
                replace q122 := eq_true q122
                have hcz140_0 : wr.cell? ⟨gb202, 0, none⟩ = some (.bool false) := (blk_cell BK202.out 0).trans rfl
                have hcz140_1 : wr.cell? ⟨gb202, 1, none⟩ = some (.string (⟨#[]⟩ : ByteArray)) := (blk_cell BK202.out 1).trans rfl
                have hcz140_2 : wr.cell? ⟨gb202, 2, none⟩ = some (.slice none 0 0) := (blk_cell BK202.out 2).trans rfl
                have hfz140_0 := blk_frozen BK202.out 0
                have hfz140_1 := blk_frozen BK202.out 1
                have hfz140_2 := blk_frozen BK202.out 2
                go_wp2
                refine bodyPost_ret (results_ctt rfl _ _ gb202 24 #[.bool false, .string (⟨#[]⟩ : ByteArray), .slice none 0 0] (0, 0) _ rfl (by repeat (first | (with_reducible refine blk_drewN ?_ _) | (with_reducible refine blk_drew ?_) | (with_reducible refine blk_alloc ?_ _) | exact BK202.out | refine blk_put (cs := #[.bool false, .string (⟨#[]⟩ : ByteArray), .slice none 0 0]) ?_ _ _ rfl)) Tryd.underlying24 rfl (by kernel_rfl)) rfl ?_
                exact ⟨_, rfl, Kd.R_nil _ _ _ _ _, by repeat (first | (with_reducible first | exact HB.out | apply below_alloc | apply pw_below_drewN | apply below_drew1 | refine below_set ?_ GE202.out) | exact HB.out)⟩
            ·rw [if_neg c116] at H
             exact absurd H (by simp)
           ·rw [if_neg c115] at H
            have c115b0 : decide (1 < x12_1) = false := decide_eq_false c115
            clear c115
            by_cases c141 : x12_1 ≥ (a0.size : Int)
            ·rw [if_pos c141] at H
             have c141b0 : decide ((a0.size : Int) ≤ x12_1) = true := decide_eq_true c141
             clear c141
             simp only [Option.some.injEq, Prod.mk.injEq] at H
             obtain ⟨rfl, rfl, rfl, rfl, rfl⟩ := H
             have p58 : 0 ≤ (x12_1 : Int) := of_decide_eq_true (by first | (with_reducible assumption) | assumption)
             have q58 : x12_1 < (a0.size : Int) := of_decide_eq_true (by first | (with_reducible assumption) | assumption)
             have hx58 := bt_at a0 x12_1
             replace p58 := eq_true p58
             replace q58 := eq_true q58
             have p60 : 0 ≤ (x12_1 : Int) := of_decide_eq_true (by first | (with_reducible assumption) | assumption)
             have q60 : x12_1 < (a0.size : Int) := of_decide_eq_true (by first | (with_reducible assumption) | assumption)
             have hx60 := bt_at a0 x12_1
             replace p60 := eq_true p60
             replace q60 := eq_true q60
             have hcz142_0 : wr.cell? ⟨gb202, 0, none⟩ = some (.bool false) := (blk_cell BK202.out 0).trans rfl
             have hcz142_1 : wr.cell? ⟨gb202, 1, none⟩ = some (.string (⟨#[]⟩ : ByteArray)) := (blk_cell BK202.out 1).trans rfl
             have hcz142_2 : wr.cell? ⟨gb202, 2, none⟩ = some (.slice none 0 0) := (blk_cell BK202.out 2).trans rfl
             have hfz142_0 := blk_frozen BK202.out 0
             have hfz142_1 := blk_frozen BK202.out 1
             have hfz142_2 := blk_frozen BK202.out 2
             go_wp2
             refine bodyPost_ret (results_ctt rfl _ _ gb202 24 #[.bool false, .string (⟨#[]⟩ : ByteArray), .slice none 0 0] (0, 0) _ rfl (by repeat (first | (with_reducible refine blk_drewN ?_ _) | (with_reducible refine blk_drew ?_) | (with_reducible refine blk_alloc ?_ _) | exact BK202.out | refine blk_put (cs := #[.bool false, .string (⟨#[]⟩ : ByteArray), .slice none 0 0]) ?_ _ _ rfl)) Tryd.underlying24 rfl (by kernel_rfl)) rfl ?_
             exact ⟨_, rfl, Kd.R_nil _ _ _ _ _, by repeat (first | (with_reducible first | exact HB.out | apply below_alloc | apply pw_below_drewN | apply below_drew1 | refine below_set ?_ GE202.out) | exact HB.out)⟩
            ·rw [if_neg c141] at H
             have c141b0 : decide ((a0.size : Int) ≤ x12_1) = false := decide_eq_false c141
             clear c141
             by_cases c144 : (bt a0 x12_1) = 58
             ·rw [if_pos c144] at H
              have c144b0 : ((bt a0 x12_1) == 58) = true := beq_iff_eq.mpr c144
              have c144b1 : ((bt a0 x12_1) != 58) = false := bne_eq_false_iff_eq.mpr c144
              clear c144
              by_cases c145 : x11_1 > (wrap64 ((wrap64 ((a0.size : Int) - x12_1)) - 1))
              ·rw [if_pos c145] at H
               have c145b0 : decide ((wrap64 ((wrap64 ((a0.size : Int) - x12_1)) - 1)) < x11_1) = true := decide_eq_true c145
               clear c145
               simp only [Option.some.injEq, Prod.mk.injEq] at H
               obtain ⟨rfl, rfl, rfl, rfl, rfl⟩ := H
               have p58 : 0 ≤ (x12_1 : Int) := of_decide_eq_true (by first | (with_reducible assumption) | assumption)
               have q58 : x12_1 < (a0.size : Int) := of_decide_eq_true (by first | (with_reducible assumption) | assumption)
               have hx58 := bt_at a0 x12_1
               replace p58 := eq_true p58
               replace q58 := eq_true q58
               have p60 : 0 ≤ (x12_1 : Int) := of_decide_eq_true (by first | (with_reducible assumption) | assumption)
               have q60 : x12_1 < (a0.size : Int) := of_decide_eq_true (by first | (with_reducible assumption) | assumption)
               have hx60 := bt_at a0 x12_1
               replace p60 := eq_true p60
               replace q60 := eq_true q60
               have p143 : 0 ≤ (x12_1 : Int) := of_decide_eq_true (by first | (with_reducible assumption) | assumption)
               have q143 : x12_1 < (a0.size : Int) := of_decide_eq_true (by first | (with_reducible assumption) | assumption)
               have hx143 := bt_at a0 x12_1
               replace p143 := eq_true p143
               replace q143 := eq_true q143
               have hcz146_0 : wr.cell? ⟨gb202, 0, none⟩ = some (.bool false) := (blk_cell BK202.out 0).trans rfl
               have hcz146_1 : wr.cell? ⟨gb202, 1, none⟩ = some (.string (⟨#[]⟩ : ByteArray)) := (blk_cell BK202.out 1).trans rfl
               have hcz146_2 : wr.cell? ⟨gb202, 2, none⟩ = some (.slice none 0 0) := (blk_cell BK202.out 2).trans rfl
               have hfz146_0 := blk_frozen BK202.out 0
               have hfz146_1 := blk_frozen BK202.out 1
               have hfz146_2 := blk_frozen BK202.out 2
               go_wp2
               refine bodyPost_ret (results_ctt rfl _ _ gb202 24 #[.bool false, .string (⟨#[]⟩ : ByteArray), .slice none 0 0] (0, 0) _ rfl (by repeat (first | (with_reducible refine blk_drewN ?_ _) | (with_reducible refine blk_drew ?_) | (with_reducible refine blk_alloc ?_ _) | exact BK202.out | refine blk_put (cs := #[.bool false, .string (⟨#[]⟩ : ByteArray), .slice none 0 0]) ?_ _ _ rfl)) Tryd.underlying24 rfl (by kernel_rfl)) rfl ?_
               exact ⟨_, rfl, Kd.R_nil _ _ _ _ _, by repeat (first | (with_reducible first | exact HB.out | apply below_alloc | apply pw_below_drewN | apply below_drew1 | refine below_set ?_ GE202.out) | exact HB.out)⟩
              ·rw [if_neg c145] at H
               have c145b0 : decide ((wrap64 ((wrap64 ((a0.size : Int) - x12_1)) - 1)) < x11_1) = false := decide_eq_false c145
               clear c145
               obtain ⟨ji147, hji147⟩ : ∃ j_ : Int, (wrap64 (x12_1 + 1)) = j_ := ⟨_, rfl⟩
               replace H : (if 0 ≤ (ji147) then (if (ji147) ≤ (wrap64 ((ji147) + x11_1)) then (if (wrap64 ((ji147) + x11_1)) ≤ (a0.size : Int) then ((tambourref04_Text.f (a0.extract ((ji147) : Int).toNat ((wrap64 ((ji147) + x11_1)) : Int).toNat)).bind fun bt230 => (if 0 ≤ (wrap64 ((ji147) + x11_1)) then (some (bt230.1, bt230.2.1, bt230.2.2, a0.extract ((wrap64 ((ji147) + x11_1)) : Int).toNat a0.size, true)) else (none))) else (none)) else (none)) else (none)) = some (r1, r2, r3, r4, r5) := by first | (rw [hji147] at H; exact H) | (simp only [hji147] at H ⊢; exact H)
               have hji147w : (IntKind.i64.wrap (x12_1 + 1)) = ji147 := (i64_w _).trans hji147
               by_cases c148 : 0 ≤ (ji147)
               ·rw [if_pos c148] at H
                have c148b0 := eq_true c148
                have c148b1 : decide (0 ≤ (ji147)) = true := decide_eq_true c148
                clear c148
                by_cases c149 : (ji147) ≤ (wrap64 ((ji147) + x11_1))
                ·rw [if_pos c149] at H
                 have c149b0 := eq_true c149
                 have c149b1 : decide ((ji147) ≤ (wrap64 ((ji147) + x11_1))) = true := decide_eq_true c149
                 by_cases c150 : (wrap64 ((ji147) + x11_1)) ≤ (a0.size : Int)
                 ·rw [if_pos c150] at H
                  have c150b0 := eq_true c150
                  have c150b1 : decide ((wrap64 ((ji147) + x11_1)) ≤ (a0.size : Int)) = true := decide_eq_true c150
                  replace H := Option.bind_eq_some_iff.mp H
                  obtain ⟨⟨t230, t231, t232⟩, A1510, H⟩ := H
                  replace H : (if 0 ≤ (wrap64 ((ji147) + x11_1)) then (some (t230, t231, t232, a0.extract ((wrap64 ((ji147) + x11_1)) : Int).toNat a0.size, true)) else (none)) = some (r1, r2, r3, r4, r5) := H
                  have A151 := Aside0.mk A1510
                  clear A1510
                  obtain ⟨ji152, hji152⟩ : ∃ j_ : Int, (wrap64 ((ji147) + x11_1)) = j_ := ⟨_, rfl⟩
                  replace H : (if 0 ≤ (ji152) then (some (t230, t231, t232, a0.extract ((ji152) : Int).toNat a0.size, true)) else (none)) = some (r1, r2, r3, r4, r5) := by first | (rw [hji152] at H; exact H) | (simp only [hji152] at H ⊢; exact H)
                  (try rw [hji152] at c149b0)
                  (try rw [hji152] at c149b1)
                  (try rw [hji152] at c149)
                  (try rw [hji152] at c150b0)
                  (try rw [hji152] at c150b1)
                  (try rw [hji152] at c150)
                  (try rw [hji152] at A151)
                  have hji152w : (IntKind.i64.wrap ((ji147) + x11_1)) = ji152 := (i64_w _).trans hji152
                  by_cases c153 : 0 ≤ (ji152)
                  ·rw [if_pos c153] at H
                   have c153b0 := eq_true c153
                   have c153b1 : decide (0 ≤ (ji152)) = true := decide_eq_true c153
                   clear c153
                   have c154b0 := eq_true (of_decide_eq_true (by first | (with_reducible assumption) | assumption) : (ji152) ≤ (a0.size : Int))
                   simp only [Option.some.injEq, Prod.mk.injEq] at H
                   obtain ⟨rfl, rfl, rfl, rfl, rfl⟩ := H
                   have p58 : 0 ≤ (x12_1 : Int) := of_decide_eq_true (by first | (with_reducible assumption) | assumption)
                   have q58 : x12_1 < (a0.size : Int) := of_decide_eq_true (by first | (with_reducible assumption) | assumption)
                   have hx58 := bt_at a0 x12_1
                   replace p58 := eq_true p58
                   replace q58 := eq_true q58
                   have p60 : 0 ≤ (x12_1 : Int) := of_decide_eq_true (by first | (with_reducible assumption) | assumption)
                   have q60 : x12_1 < (a0.size : Int) := of_decide_eq_true (by first | (with_reducible assumption) | assumption)
                   have hx60 := bt_at a0 x12_1
                   replace p60 := eq_true p60
                   replace q60 := eq_true q60
                   have p143 : 0 ≤ (x12_1 : Int) := of_decide_eq_true (by first | (with_reducible assumption) | assumption)
                   have q143 : x12_1 < (a0.size : Int) := of_decide_eq_true (by first | (with_reducible assumption) | assumption)
                   have hx143 := bt_at a0 x12_1
                   replace p143 := eq_true p143
                   replace q143 := eq_true q143
                   try go_wp2
                   have n0_ := Aside0.mk (blk_drew BK202.out)
                   have n1_ := Aside0.mk (below_drew1 HB.out)
                   clear BK202
                   clear HB
                   have BK202 := n0_
                   have HB := n1_
                   clear n0_ n1_
                   refine start_ (n := 18) (S := fun w' => True) (ds := []) #[false, false, false, false, false, false, false, false, false, false, false, false, false, false, false, false, false, false] (by kernel_rfl) rfl rfl trivial (fun hHeld => ?_); refine with_tabW tambourref04_item.tab23 tambourref04_item.bits23 (fun HT_ HW_ => ?_)
                   generalize wr.drew = w155 at BK202 HB hHeld ⊢
                   refine pure_ (i := 0) (N := some 119) (v := ?_) (a' := ?_) #[true, false, false, false, false, false, false, false, false, false, false, false, false, false, false, false, false, false] rfl rfl (any_of HT_.out (by kernel_rfl)) (fun _ _ _ h => h) (Or.inl ⟨by rfl, ?_⟩) ?_ ?_
                   rotate_left
                   ·intro w'
                    go_simp
                    with_reducible rfl
                   rotate_left
                   ·simp only [Act.put, List.setIfInBounds_toArray, List.set_cons_zero, List.set_cons_succ, i64_w, i32_w]
                    rfl
                   refine pure_ (i := 1) (N := some 120) (v := ?_) (a' := ?_) #[true, true, false, false, false, false, false, false, false, false, false, false, false, false, false, false, false, false] rfl rfl (any_of HT_.out (by kernel_rfl)) (fun _ _ _ h => h) (Or.inl ⟨by rfl, ?_⟩) ?_ ?_
                   rotate_left
                   ·intro w'
                    go_simp
                    with_reducible rfl
                   rotate_left
                   ·simp only [Act.put, List.setIfInBounds_toArray, List.set_cons_zero, List.set_cons_succ, i64_w, i32_w]
                    rfl
                   refine pure_ (i := 2) (N := some 121) (v := ?_) (a' := ?_) #[true, true, true, false, false, false, false, false, false, false, false, false, false, false, false, false, false, false] rfl rfl (any_of HT_.out (by kernel_rfl)) (fun _ _ _ h => h) (Or.inl ⟨by rfl, ?_⟩) ?_ ?_
                   rotate_left
                   ·intro w'
                    go_simp
                    with_reducible rfl
                   rotate_left
                   ·simp only [Act.put, List.setIfInBounds_toArray, List.set_cons_zero, List.set_cons_succ, i64_w, i32_w]
                    rfl
                   refine pure_ (i := 3) (N := some 122) (v := ?_) (a' := ?_) #[true, true, true, true, false, false, false, false, false, false, false, false, false, false, false, false, false, false] rfl rfl (any_of HT_.out (by kernel_rfl)) (fun _ _ _ h => h) (Or.inl ⟨by rfl, ?_⟩) ?_ ?_
                   rotate_left
                   ·intro w'
                    go_simp
                    with_reducible rfl
                   rotate_left
                   ·simp only [Act.put, List.setIfInBounds_toArray, List.set_cons_zero, List.set_cons_succ, i64_w, i32_w]
                    rfl
                   refine pure_ (i := 4) (N := some 123) (v := ?_) (a' := ?_) #[true, true, true, true, true, false, false, false, false, false, false, false, false, false, false, false, false, false] rfl rfl (any_of HT_.out (by kernel_rfl)) (fun _ _ _ h => h) (Or.inl ⟨by rfl, ?_⟩) ?_ ?_
                   rotate_left
                   ·intro w'
                    go_simp
                    with_reducible rfl
                   rotate_left
                   ·simp only [Act.put, List.setIfInBounds_toArray, List.set_cons_zero, List.set_cons_succ, i64_w, i32_w]
                    rfl
                   refine pure_ (i := 5) (N := some 124) (v := ?_) (a' := ?_) #[true, true, true, true, true, true, false, false, false, false, false, false, false, false, false, false, false, false] rfl rfl (any_of HT_.out (by kernel_rfl)) (fun _ _ _ h => h) (Or.inl ⟨by rfl, ?_⟩) ?_ ?_
                   rotate_left
                   ·intro w'
                    go_simp
                    with_reducible rfl
                   rotate_left
                   ·simp only [Act.put, List.setIfInBounds_toArray, List.set_cons_zero, List.set_cons_succ, i64_w, i32_w]
                    rfl
                   refine pure_ (i := 6) (N := some 125) (v := ?_) (a' := ?_) #[true, true, true, true, true, true, true, false, false, false, false, false, false, false, false, false, false, false] rfl rfl (any_of HT_.out (by kernel_rfl)) (fun _ _ _ h => h) (Or.inl ⟨by rfl, ?_⟩) ?_ ?_
                   rotate_left
                   ·intro w'
                    go_simp
                    with_reducible rfl
                   rotate_left
                   ·simp only [Act.put, List.setIfInBounds_toArray, List.set_cons_zero, List.set_cons_succ, i64_w, i32_w]
                    rfl
                   refine pure_ (i := 7) (N := some 126) (v := ?_) (a' := ?_) #[true, true, true, true, true, true, true, true, false, false, false, false, false, false, false, false, false, false] rfl rfl (any_of HT_.out (by kernel_rfl)) (fun _ _ _ h => h) (Or.inl ⟨by rfl, ?_⟩) ?_ ?_
                   rotate_left
                   ·intro w'
                    go_simp
                    with_reducible rfl
                   rotate_left
                   ·simp only [Act.put, List.setIfInBounds_toArray, List.set_cons_zero, List.set_cons_succ, i64_w, i32_w]
                    rfl
                   refine pure_ (i := 9) (N := some 128) (v := ?_) (a' := ?_) #[true, true, true, true, true, true, true, true, false, true, false, false, false, false, false, false, false, false] rfl rfl (any_of HT_.out (by kernel_rfl)) (fun _ _ _ h => h) (Or.inl ⟨by rfl, ?_⟩) ?_ ?_
                   rotate_left
                   ·intro w'
                    go_simp
                    with_reducible rfl
                   rotate_left
                   ·simp only [Act.put, List.setIfInBounds_toArray, List.set_cons_zero, List.set_cons_succ, i64_w, i32_w]
                    rfl
                   refine pure_ (i := 10) (N := some 129) (v := ?_) (a' := ?_) #[true, true, true, true, true, true, true, true, false, true, true, false, false, false, false, false, false, false] rfl rfl (any_of HT_.out (by kernel_rfl)) (fun _ _ _ h => h) (Or.inl ⟨by rfl, ?_⟩) ?_ ?_
                   rotate_left
                   ·intro w'
                    go_simp
                    with_reducible rfl
                   rotate_left
                   ·simp only [Act.put, List.setIfInBounds_toArray, List.set_cons_zero, List.set_cons_succ, i64_w, i32_w]
                    rfl
                   refine pure_ (i := 11) (N := some 130) (v := ?_) (a' := ?_) #[true, true, true, true, true, true, true, true, false, true, true, true, false, false, false, false, false, false] rfl rfl (any_of HT_.out (by kernel_rfl)) (fun _ _ _ h => h) (Or.inl ⟨by rfl, ?_⟩) ?_ ?_
                   rotate_left
                   ·intro w'
                    go_simp
                    with_reducible rfl
                   rotate_left
                   ·simp only [Act.put, List.setIfInBounds_toArray, List.set_cons_zero, List.set_cons_succ, i64_w, i32_w]
                    rfl
                   refine pure_ (i := 12) (N := some 131) (v := ?_) (a' := ?_) #[true, true, true, true, true, true, true, true, false, true, true, true, true, false, false, false, false, false] rfl rfl (any_of HT_.out (by kernel_rfl)) (fun _ _ _ h => h) (Or.inl ⟨by rfl, ?_⟩) ?_ ?_
                   rotate_left
                   ·intro w'
                    go_simp
                    with_reducible rfl
                   rotate_left
                   ·simp only [Act.put, List.setIfInBounds_toArray, List.set_cons_zero, List.set_cons_succ, i64_w, i32_w]
                    rfl
                   refine pure_ (i := 13) (N := some 132) (v := ?_) (a' := ?_) #[true, true, true, true, true, true, true, true, false, true, true, true, true, true, false, false, false, false] rfl rfl (any_of HT_.out (by kernel_rfl)) (fun _ _ _ h => h) (Or.inl ⟨by rfl, ?_⟩) ?_ ?_
                   rotate_left
                   ·intro w'
                    go_simp
                    with_reducible rfl
                   rotate_left
                   ·simp only [Act.put, List.setIfInBounds_toArray, List.set_cons_zero, List.set_cons_succ, i64_w, i32_w]
                    rfl
                   refine pure_ (i := 14) (N := some 133) (v := ?_) (a' := ?_) #[true, true, true, true, true, true, true, true, false, true, true, true, true, true, true, false, false, false] rfl rfl (any_of HT_.out (by kernel_rfl)) (fun _ _ _ h => h) (Or.inl ⟨by rfl, ?_⟩) ?_ ?_
                   rotate_left
                   ·intro w'
                    go_simp
                    with_reducible rfl
                   rotate_left
                   ·simp only [Act.put, List.setIfInBounds_toArray, List.set_cons_zero, List.set_cons_succ, i64_w, i32_w]
                    rfl
                   refine one_ (i := 8) (N := some 127) #[true, true, true, true, true, true, true, true, true, true, true, true, true, true, true, false, false, false] rfl rfl (one_of HT_.out (by kernel_rfl)) (by decide) (fun K hK => ?_)
                   refine goes_ Tryd.func20 (by kernel_rfl) rfl #[.string (a0.extract ((ji147) : Int).toNat ((ji152) : Int).toNat)] (by rfl) rfl rfl (by (try simp only [List.map_toArray, List.map_cons, List.map_nil]); first | done | (simp only [hji147, hji152]; rfl) | rfl | (simp only [List.length_drop, List.length_take]; rfl)) ?_
                   with_reducible refine (tambourref04_Text.calls (a0.extract ((ji147) : Int).toNat ((ji152) : Int).toNat) t230 t231 t232 _ A151.out).mono ?_
                   rintro e w156 ⟨v233, rfl, ho0, hb⟩
                   refine ⟨_, rfl, ?_⟩
                   have n0_ := Aside0.mk (Kd.R_lower (Kd.R_newB ho0 (g := gb202) (o := .cells #[.bool false, .string (⟨#[]⟩ : ByteArray), .slice none 0 0] 24 (0, 0)) (by (with_reducible repeat (first | refine blk_drewN ?_ _ | refine blk_drew ?_ | refine blk_alloc ?_ _)); exact BK202.out)) (below_size (by repeat (first | (with_reducible first | exact HB.out | apply below_alloc | apply pw_below_drewN | apply below_drew1 | refine below_set ?_ GE202.out) | exact HB.out))))
                   have n1_ := Aside0.mk (blk_below (g := gb202) (o := .cells #[.bool false, .string (⟨#[]⟩ : ByteArray), .slice none 0 0] 24 (0, 0)) (by (with_reducible repeat (first | refine blk_drewN ?_ _ | refine blk_drew ?_ | refine blk_alloc ?_ _)); exact BK202.out) hb)
                   have n2_ := Aside0.mk (below_step (by repeat (first | (with_reducible first | exact HB.out | apply below_alloc | apply pw_below_drewN | apply below_drew1 | refine below_set ?_ GE202.out) | exact HB.out)) hb)
                   clear BK202
                   clear HB
                   have HO234 := n0_
                   have BK202 := n1_
                   have HB := n2_
                   clear n0_ n1_ n2_
                   (try clear hb)
                   (try clear hb2)
                   (try clear hk)
                   (try clear hi)
                   (try clear ho0)
                   obtain ⟨Ao159, co159, eo159⟩ := Kd.R_slice HO234.out
                   (first | subst eo159 | (injection eo159 with f1_ f2_ f3_; have f4_ := f1_.symm; have f5_ := f3_.symm; clear f1_ f2_ f3_; subst f4_; subst f5_))
                   refine hK.out _ _ trivial (fun hHeld => ?_)
                   clear hK K
                   refine norm_ (a' := ?_) ?_ ?_
                   rotate_left
                   ·show Act.put _ (some 127) _ = _
                    simp only [Act.put, List.setIfInBounds_toArray, List.set_cons_zero, List.set_cons_succ, i64_w, i32_w]
                    rfl
                   refine one_ (i := 15) (N := none) #[true, true, true, true, true, true, true, true, true, true, true, true, true, true, true, true, false, false] rfl rfl (one_of HT_.out (by kernel_rfl)) (by decide) (fun K hK => ?_)
                   have hs157 : w156.cell? ⟨gb202, 0, none⟩ = some (.bool false) := (blk_cell BK202.out 0).trans rfl
                   have hfs157 := blk_frozen BK202.out 0
                   have hs158 : w156.cell? ⟨gb202, 1, none⟩ = some (.string (⟨#[]⟩ : ByteArray)) := (blk_cell BK202.out 1).trans rfl
                   have hfs158 := blk_frozen BK202.out 1
                   have hs160 : w156.cell? ⟨gb202, 2, none⟩ = some (.slice none 0 0) := (blk_cell BK202.out 2).trans rfl
                   have hfs160 := blk_frozen BK202.out 2
                   refine skip_ (w1 := ?_) (by rfl) rfl ?_ ?_
                   rotate_left
                   ·go_simp
                    rfl
                   refine hK.out _ _ trivial (fun hHeld => ?_)
                   clear hK K
                   refine pure_ (i := 16) (N := some 5) (v := ?_) (a' := ?_) #[true, true, true, true, true, true, true, true, true, true, true, true, true, true, true, true, true, false] rfl rfl (any_of HT_.out (by kernel_rfl)) (fun _ _ _ h => h) (Or.inl ⟨by rfl, ?_⟩) ?_ ?_
                   rotate_left
                   ·intro w'
                    go_simp
                    with_reducible rfl
                   rotate_left
                   ·simp only [Act.put, List.setIfInBounds_toArray, List.set_cons_zero, List.set_cons_succ, i64_w, i32_w]
                    rfl
                   refine pure_ (i := 17) (N := some 6) (v := ?_) (a' := ?_) #[true, true, true, true, true, true, true, true, true, true, true, true, true, true, true, true, true, true] rfl rfl (any_of HT_.out (by kernel_rfl)) (fun _ _ _ h => h) (Or.inl ⟨by rfl, ?_⟩) ?_ ?_
                   rotate_left
                   ·intro w'
                    go_simp
                    with_reducible rfl
                   rotate_left
                   ·simp only [Act.put, List.setIfInBounds_toArray, List.set_cons_zero, List.set_cons_succ, i64_w, i32_w]
                    rfl
                   refine done_ (done_of HT_.out (by kernel_rfl)) ?_
                   try go_wp2
                   refine bodyPost_ret (results_ctt rfl _ _ gb202 24 #[.bool t230, .string t231, .slice Ao159 t232.length co159] (0, 0) _ rfl (by (with_reducible repeat (first | refine blk_drewN ?_ _ | refine blk_drew ?_ | refine blk_alloc ?_ _)); refine blk_put (cs := #[.bool t230, .string t231, .slice none 0 0]) ?_ 2 _ rfl; (with_reducible repeat (first | refine blk_drewN ?_ _ | refine blk_drew ?_ | refine blk_alloc ?_ _)); refine blk_put (cs := #[.bool t230, .string (⟨#[]⟩ : ByteArray), .slice none 0 0]) ?_ 1 _ rfl; (with_reducible repeat (first | refine blk_drewN ?_ _ | refine blk_drew ?_ | refine blk_alloc ?_ _)); refine blk_put (cs := #[.bool false, .string (⟨#[]⟩ : ByteArray), .slice none 0 0]) ?_ 0 _ rfl; (with_reducible repeat (first | refine blk_drewN ?_ _ | refine blk_drew ?_ | refine blk_alloc ?_ _)); exact BK202.out) Tryd.underlying24 rfl (by kernel_rfl)) rfl ?_
                   exact ⟨_, by first | rfl | (simp [errW_none, errW_some] <;> rfl) | (simp only [← hji147, ← hji152]; first | rfl | (simp [errW_none, errW_some] <;> rfl)) | (simp [*, errW_none, errW_some] <;> rfl), by (with_reducible repeat (first | apply Kd.R_alloc | apply Kd.R_drewN | apply Kd.R_drew)); exact Kd.R_mono (Kd.R_far (p := ⟨gb202, 2, none⟩) (Kd.R_far (p := ⟨gb202, 1, none⟩) (Kd.R_far (p := ⟨gb202, 0, none⟩) (Kd.R_mono HO234.out (fun k_ hk => (⟨hk, hk.2⟩ : _ ∧ k_ ≠ gb202))) (fun _ hk => hk.2) (.bool t230)) (fun _ hk => hk.2) (.string t231)) (fun _ hk => hk.2) (.slice Ao159 t232.length co159)) (fun _ hk => trivial), by repeat (first | (with_reducible first | exact HB.out | apply below_alloc | apply pw_below_drewN | apply below_drew1 | refine below_set ?_ GE202.out) | exact HB.out)⟩
                  ·rw [if_neg c153] at H
                   exact absurd H (by simp)
                 ·rw [if_neg c150] at H
                  exact absurd H (by simp)
                ·rw [if_neg c149] at H
                 exact absurd H (by simp)
               ·rw [if_neg c148] at H
                exact absurd H (by simp)
             ·rw [if_neg c144] at H
              have c144b0 : ((bt a0 x12_1) == 58) = false := beq_eq_false_iff_ne.mpr c144
              have c144b1 : ((bt a0 x12_1) != 58) = true := bne_iff_ne.mpr c144
              simp only [Option.some.injEq, Prod.mk.injEq] at H
              obtain ⟨rfl, rfl, rfl, rfl, rfl⟩ := H
              have p58 : 0 ≤ (x12_1 : Int) := of_decide_eq_true (by first | (with_reducible assumption) | assumption)
              have q58 : x12_1 < (a0.size : Int) := of_decide_eq_true (by first | (with_reducible assumption) | assumption)
              have hx58 := bt_at a0 x12_1
              replace p58 := eq_true p58
              replace q58 := eq_true q58
              have p60 : 0 ≤ (x12_1 : Int) := of_decide_eq_true (by first | (with_reducible assumption) | assumption)
              have q60 : x12_1 < (a0.size : Int) := of_decide_eq_true (by first | (with_reducible assumption) | assumption)
              have hx60 := bt_at a0 x12_1
              replace p60 := eq_true p60
              replace q60 := eq_true q60
              have p143 : 0 ≤ (x12_1 : Int) := of_decide_eq_true (by first | (with_reducible assumption) | assumption)
              have q143 : x12_1 < (a0.size : Int) := of_decide_eq_true (by first | (with_reducible assumption) | assumption)
              have hx143 := bt_at a0 x12_1
              replace p143 := eq_true p143
              replace q143 := eq_true q143
              have hcz161_0 : wr.cell? ⟨gb202, 0, none⟩ = some (.bool false) := (blk_cell BK202.out 0).trans rfl
              have hcz161_1 : wr.cell? ⟨gb202, 1, none⟩ = some (.string (⟨#[]⟩ : ByteArray)) := (blk_cell BK202.out 1).trans rfl
              have hcz161_2 : wr.cell? ⟨gb202, 2, none⟩ = some (.slice none 0 0) := (blk_cell BK202.out 2).trans rfl
              have hfz161_0 := blk_frozen BK202.out 0
              have hfz161_1 := blk_frozen BK202.out 1
              have hfz161_2 := blk_frozen BK202.out 2
              go_wp2
              refine bodyPost_ret (results_ctt rfl _ _ gb202 24 #[.bool false, .string (⟨#[]⟩ : ByteArray), .slice none 0 0] (0, 0) _ rfl (by repeat (first | (with_reducible refine blk_drewN ?_ _) | (with_reducible refine blk_drew ?_) | (with_reducible refine blk_alloc ?_ _) | exact BK202.out | refine blk_put (cs := #[.bool false, .string (⟨#[]⟩ : ByteArray), .slice none 0 0]) ?_ _ _ rfl)) Tryd.underlying24 rfl (by kernel_rfl)) rfl ?_
              exact ⟨_, rfl, Kd.R_nil _ _ _ _ _, by repeat (first | (with_reducible first | exact HB.out | apply below_alloc | apply pw_below_drewN | apply below_drew1 | refine below_set ?_ GE202.out) | exact HB.out)⟩
        ·rw [if_neg c59] at H
         have c59b0 : decide (48 ≤ (bt a0 x12_1)) = false := decide_eq_false c59
         clear c59
         by_cases c162 : x12_1 = 0
         ·rw [if_pos c162] at H
          have c162b0 : (x12_1 == 0) = true := beq_iff_eq.mpr c162
          have c162b1 : (x12_1 != 0) = false := bne_eq_false_iff_eq.mpr c162
          clear c162
          simp only [Option.some.injEq, Prod.mk.injEq] at H
          obtain ⟨rfl, rfl, rfl, rfl, rfl⟩ := H
          have p58 : 0 ≤ (x12_1 : Int) := of_decide_eq_true (by first | (with_reducible assumption) | assumption)
          have q58 : x12_1 < (a0.size : Int) := of_decide_eq_true (by first | (with_reducible assumption) | assumption)
          have hx58 := bt_at a0 x12_1
          replace p58 := eq_true p58
          replace q58 := eq_true q58
          have hcz163_0 : wr.cell? ⟨gb202, 0, none⟩ = some (.bool false) := (blk_cell BK202.out 0).trans rfl
          have hcz163_1 : wr.cell? ⟨gb202, 1, none⟩ = some (.string (⟨#[]⟩ : ByteArray)) := (blk_cell BK202.out 1).trans rfl
          have hcz163_2 : wr.cell? ⟨gb202, 2, none⟩ = some (.slice none 0 0) := (blk_cell BK202.out 2).trans rfl
          have hfz163_0 := blk_frozen BK202.out 0
          have hfz163_1 := blk_frozen BK202.out 1
          have hfz163_2 := blk_frozen BK202.out 2
          go_wp2
          refine bodyPost_ret (results_ctt rfl _ _ gb202 24 #[.bool false, .string (⟨#[]⟩ : ByteArray), .slice none 0 0] (0, 0) _ rfl (by repeat (first | (with_reducible refine blk_drewN ?_ _) | (with_reducible refine blk_drew ?_) | (with_reducible refine blk_alloc ?_ _) | exact BK202.out | refine blk_put (cs := #[.bool false, .string (⟨#[]⟩ : ByteArray), .slice none 0 0]) ?_ _ _ rfl)) Tryd.underlying24 rfl (by kernel_rfl)) rfl ?_
          exact ⟨_, rfl, Kd.R_nil _ _ _ _ _, by repeat (first | (with_reducible first | exact HB.out | apply below_alloc | apply pw_below_drewN | apply below_drew1 | refine below_set ?_ GE202.out) | exact HB.out)⟩
         ·rw [if_neg c162] at H
          have c162b0 : (x12_1 == 0) = false := beq_eq_false_iff_ne.mpr c162
          have c162b1 : (x12_1 != 0) = true := bne_iff_ne.mpr c162
          by_cases c164 : x12_1 > 1
          ·rw [if_pos c164] at H
           have c164b0 : decide (1 < x12_1) = true := decide_eq_true c164
           clear c164
           by_cases c165 : 0 < (a0.size : Int)
           ·rw [if_pos c165] at H
            have c165b0 : decide (0 < (a0.size : Int)) = true := decide_eq_true c165
            have c165b1 : decide (0 < a0.size) = true := decide_eq_true (by omega)
            clear c165
            by_cases c167 : (bt a0 0) = 48
            ·rw [if_pos c167] at H
             have c167b0 : ((bt a0 0) == 48) = true := beq_iff_eq.mpr c167
             have c167b1 : ((bt a0 0) != 48) = false := bne_eq_false_iff_eq.mpr c167
             clear c167
             simp only [Option.some.injEq, Prod.mk.injEq] at H
             obtain ⟨rfl, rfl, rfl, rfl, rfl⟩ := H
             have p58 : 0 ≤ (x12_1 : Int) := of_decide_eq_true (by first | (with_reducible assumption) | assumption)
             have q58 : x12_1 < (a0.size : Int) := of_decide_eq_true (by first | (with_reducible assumption) | assumption)
             have hx58 := bt_at a0 x12_1
             replace p58 := eq_true p58
             replace q58 := eq_true q58
             have p166 : 0 ≤ (0 : Int) := (by omega)
             have q166 : 0 < a0.size := (by have : (0 : Int) < (a0.size : Int) := of_decide_eq_true (by first | (with_reducible assumption) | assumption); omega)
             have hx166 : ∀ h : 0 < a0.size, ((a0[0]'h).toNat : Int) = bt a0 0 := bt_at a0 0
             clear p166
             have qi166 : (0 < (a0.size : Int)) = True := eq_true (of_decide_eq_true (by first | (with_reducible assumption) | assumption))
             replace q166 := eq_true q166
             have hcz168_0 : wr.cell? ⟨gb202, 0, none⟩ = some (.bool false) := (blk_cell BK202.out 0).trans rfl
             have hcz168_1 : wr.cell? ⟨gb202, 1, none⟩ = some (.string (⟨#[]⟩ : ByteArray)) := (blk_cell BK202.out 1).trans rfl
             have hcz168_2 : wr.cell? ⟨gb202, 2, none⟩ = some (.slice none 0 0) := (blk_cell BK202.out 2).trans rfl
             have hfz168_0 := blk_frozen BK202.out 0
             have hfz168_1 := blk_frozen BK202.out 1
             have hfz168_2 := blk_frozen BK202.out 2
             go_wp2
             refine bodyPost_ret (results_ctt rfl _ _ gb202 24 #[.bool false, .string (⟨#[]⟩ : ByteArray), .slice none 0 0] (0, 0) _ rfl (by repeat (first | (with_reducible refine blk_drewN ?_ _) | (with_reducible refine blk_drew ?_) | (with_reducible refine blk_alloc ?_ _) | exact BK202.out | refine blk_put (cs := #[.bool false, .string (⟨#[]⟩ : ByteArray), .slice none 0 0]) ?_ _ _ rfl)) Tryd.underlying24 rfl (by kernel_rfl)) rfl ?_
             exact ⟨_, rfl, Kd.R_nil _ _ _ _ _, by repeat (first | (with_reducible first | exact HB.out | apply below_alloc | apply pw_below_drewN | apply below_drew1 | refine below_set ?_ GE202.out) | exact HB.out)⟩
            ·rw [if_neg c167] at H
             have c167b0 : ((bt a0 0) == 48) = false := beq_eq_false_iff_ne.mpr c167
             have c167b1 : ((bt a0 0) != 48) = true := bne_iff_ne.mpr c167
             by_cases c169 : x12_1 ≥ (a0.size : Int)
             ·rw [if_pos c169] at H
              have c169b0 : decide ((a0.size : Int) ≤ x12_1) = true := decide_eq_true c169
              clear c169
              simp only [Option.some.injEq, Prod.mk.injEq] at H
              obtain ⟨rfl, rfl, rfl, rfl, rfl⟩ := H
              have p58 : 0 ≤ (x12_1 : Int) := of_decide_eq_true (by first | (with_reducible assumption) | assumption)
              have q58 : x12_1 < (a0.size : Int) := of_decide_eq_true (by first | (with_reducible assumption) | assumption)
              have hx58 := bt_at a0 x12_1
              replace p58 := eq_true p58
              replace q58 := eq_true q58
              have p166 : 0 ≤ (0 : Int) := (by omega)
              have q166 : 0 < a0.size := (by have : (0 : Int) < (a0.size : Int) := of_decide_eq_true (by first | (with_reducible assumption) | assumption); omega)
              have hx166 : ∀ h : 0 < a0.size, ((a0[0]'h).toNat : Int) = bt a0 0 := bt_at a0 0
              clear p166
              have qi166 : (0 < (a0.size : Int)) = True := eq_true (of_decide_eq_true (by first | (with_reducible assumption) | assumption))
              replace q166 := eq_true q166
              have hcz170_0 : wr.cell? ⟨gb202, 0, none⟩ = some (.bool false) := (blk_cell BK202.out 0).trans rfl
              have hcz170_1 : wr.cell? ⟨gb202, 1, none⟩ = some (.string (⟨#[]⟩ : ByteArray)) := (blk_cell BK202.out 1).trans rfl
              have hcz170_2 : wr.cell? ⟨gb202, 2, none⟩ = some (.slice none 0 0) := (blk_cell BK202.out 2).trans rfl
              have hfz170_0 := blk_frozen BK202.out 0
              have hfz170_1 := blk_frozen BK202.out 1
              have hfz170_2 := blk_frozen BK202.out 2
              go_wp2
              refine bodyPost_ret (results_ctt rfl _ _ gb202 24 #[.bool false, .string (⟨#[]⟩ : ByteArray), .slice none 0 0] (0, 0) _ rfl (by repeat (first | (with_reducible refine blk_drewN ?_ _) | (with_reducible refine blk_drew ?_) | (with_reducible refine blk_alloc ?_ _) | exact BK202.out | refine blk_put (cs := #[.bool false, .string (⟨#[]⟩ : ByteArray), .slice none 0 0]) ?_ _ _ rfl)) Tryd.underlying24 rfl (by kernel_rfl)) rfl ?_
              exact ⟨_, rfl, Kd.R_nil _ _ _ _ _, by repeat (first | (with_reducible first | exact HB.out | apply below_alloc | apply pw_below_drewN | apply below_drew1 | refine below_set ?_ GE202.out) | exact HB.out)⟩
             ·rw [if_neg c169] at H
              have c169b0 : decide ((a0.size : Int) ≤ x12_1) = false := decide_eq_false c169
              clear c169
              by_cases c172 : (bt a0 x12_1) = 58
              ·rw [if_pos c172] at H
               have c172b0 : ((bt a0 x12_1) == 58) = true := beq_iff_eq.mpr c172
               have c172b1 : ((bt a0 x12_1) != 58) = false := bne_eq_false_iff_eq.mpr c172
               clear c172
               by_cases c173 : x11_1 > (wrap64 ((wrap64 ((a0.size : Int) - x12_1)) - 1))
               ·rw [if_pos c173] at H
                have c173b0 : decide ((wrap64 ((wrap64 ((a0.size : Int) - x12_1)) - 1)) < x11_1) = true := decide_eq_true c173
                clear c173
                simp only [Option.some.injEq, Prod.mk.injEq] at H
                obtain ⟨rfl, rfl, rfl, rfl, rfl⟩ := H
                have p58 : 0 ≤ (x12_1 : Int) := of_decide_eq_true (by first | (with_reducible assumption) | assumption)
                have q58 : x12_1 < (a0.size : Int) := of_decide_eq_true (by first | (with_reducible assumption) | assumption)
                have hx58 := bt_at a0 x12_1
                replace p58 := eq_true p58
                replace q58 := eq_true q58
                have p166 : 0 ≤ (0 : Int) := (by omega)
                have q166 : 0 < a0.size := (by have : (0 : Int) < (a0.size : Int) := of_decide_eq_true (by first | (with_reducible assumption) | assumption); omega)
                have hx166 : ∀ h : 0 < a0.size, ((a0[0]'h).toNat : Int) = bt a0 0 := bt_at a0 0
                clear p166
                have qi166 : (0 < (a0.size : Int)) = True := eq_true (of_decide_eq_true (by first | (with_reducible assumption) | assumption))
                replace q166 := eq_true q166
                have p171 : 0 ≤ (x12_1 : Int) := of_decide_eq_true (by first | (with_reducible assumption) | assumption)
                have q171 : x12_1 < (a0.size : Int) := of_decide_eq_true (by first | (with_reducible assumption) | assumption)
                have hx171 := bt_at a0 x12_1
                replace p171 := eq_true p171
                replace q171 := eq_true q171
                have hcz174_0 : wr.cell? ⟨gb202, 0, none⟩ = some (.bool false) := (blk_cell BK202.out 0).trans rfl
                have hcz174_1 : wr.cell? ⟨gb202, 1, none⟩ = some (.string (⟨#[]⟩ : ByteArray)) := (blk_cell BK202.out 1).trans rfl
                have hcz174_2 : wr.cell? ⟨gb202, 2, none⟩ = some (.slice none 0 0) := (blk_cell BK202.out 2).trans rfl
                have hfz174_0 := blk_frozen BK202.out 0
                have hfz174_1 := blk_frozen BK202.out 1
                have hfz174_2 := blk_frozen BK202.out 2
                go_wp2
                refine bodyPost_ret (results_ctt rfl _ _ gb202 24 #[.bool false, .string (⟨#[]⟩ : ByteArray), .slice none 0 0] (0, 0) _ rfl (by repeat (first | (with_reducible refine blk_drewN ?_ _) | (with_reducible refine blk_drew ?_) | (with_reducible refine blk_alloc ?_ _) | exact BK202.out | refine blk_put (cs := #[.bool false, .string (⟨#[]⟩ : ByteArray), .slice none 0 0]) ?_ _ _ rfl)) Tryd.underlying24 rfl (by kernel_rfl)) rfl ?_
                exact ⟨_, rfl, Kd.R_nil _ _ _ _ _, by repeat (first | (with_reducible first | exact HB.out | apply below_alloc | apply pw_below_drewN | apply below_drew1 | refine below_set ?_ GE202.out) | exact HB.out)⟩
               ·rw [if_neg c173] at H
                have c173b0 : decide ((wrap64 ((wrap64 ((a0.size : Int) - x12_1)) - 1)) < x11_1) = false := decide_eq_false c173
                clear c173
                obtain ⟨ji175, hji175⟩ : ∃ j_ : Int, (wrap64 (x12_1 + 1)) = j_ := ⟨_, rfl⟩
                replace H : (if 0 ≤ (ji175) then (if (ji175) ≤ (wrap64 ((ji175) + x11_1)) then (if (wrap64 ((ji175) + x11_1)) ≤ (a0.size : Int) then ((tambourref04_Text.f (a0.extract ((ji175) : Int).toNat ((wrap64 ((ji175) + x11_1)) : Int).toNat)).bind fun bt235 => (if 0 ≤ (wrap64 ((ji175) + x11_1)) then (some (bt235.1, bt235.2.1, bt235.2.2, a0.extract ((wrap64 ((ji175) + x11_1)) : Int).toNat a0.size, true)) else (none))) else (none)) else (none)) else (none)) = some (r1, r2, r3, r4, r5) := by first | (rw [hji175] at H; exact H) | (simp only [hji175] at H ⊢; exact H)
                have hji175w : (IntKind.i64.wrap (x12_1 + 1)) = ji175 := (i64_w _).trans hji175
                by_cases c176 : 0 ≤ (ji175)
                ·rw [if_pos c176] at H
                 have c176b0 := eq_true c176
                 have c176b1 : decide (0 ≤ (ji175)) = true := decide_eq_true c176
                 clear c176
                 by_cases c177 : (ji175) ≤ (wrap64 ((ji175) + x11_1))
                 ·rw [if_pos c177] at H
                  have c177b0 := eq_true c177
                  have c177b1 : decide ((ji175) ≤ (wrap64 ((ji175) + x11_1))) = true := decide_eq_true c177
                  by_cases c178 : (wrap64 ((ji175) + x11_1)) ≤ (a0.size : Int)
                  ·rw [if_pos c178] at H
                   have c178b0 := eq_true c178
                   have c178b1 : decide ((wrap64 ((ji175) + x11_1)) ≤ (a0.size : Int)) = true := decide_eq_true c178
                   replace H := Option.bind_eq_some_iff.mp H
                   obtain ⟨⟨t235, t236, t237⟩, A1790, H⟩ := H
                   replace H : (if 0 ≤ (wrap64 ((ji175) + x11_1)) then (some (t235, t236, t237, a0.extract ((wrap64 ((ji175) + x11_1)) : Int).toNat a0.size, true)) else (none)) = some (r1, r2, r3, r4, r5) := H
                   have A179 := Aside0.mk A1790
                   clear A1790
                   obtain ⟨ji180, hji180⟩ : ∃ j_ : Int, (wrap64 ((ji175) + x11_1)) = j_ := ⟨_, rfl⟩
                   replace H : (if 0 ≤ (ji180) then (some (t235, t236, t237, a0.extract ((ji180) : Int).toNat a0.size, true)) else (none)) = some (r1, r2, r3, r4, r5) := by first | (rw [hji180] at H; exact H) | (simp only [hji180] at H ⊢; exact H)
                   (try rw [hji180] at c177b0)
                   (try rw [hji180] at c177b1)
                   (try rw [hji180] at c177)
                   (try rw [hji180] at c178b0)
                   (try rw [hji180] at c178b1)
                   (try rw [hji180] at c178)
                   (try rw [hji180] at A179)
                   have hji180w : (IntKind.i64.wrap ((ji175) + x11_1)) = ji180 := (i64_w _).trans hji180
                   by_cases c181 : 0 ≤ (ji180)
                   ·rw [if_pos c181] at H
                    have c181b0 := eq_true c181
                    have c181b1 : decide (0 ≤ (ji180)) = true := decide_eq_true c181
                    clear c181
                    have c182b0 := eq_true (of_decide_eq_true (by first | (with_reducible assumption) | assumption) : (ji180) ≤ (a0.size : Int))
                    simp only [Option.some.injEq, Prod.mk.injEq] at H
                    obtain ⟨rfl, rfl, rfl, rfl, rfl⟩ := H
                    have p58 : 0 ≤ (x12_1 : Int) := of_decide_eq_true (by first | (with_reducible assumption) | assumption)
                    have q58 : x12_1 < (a0.size : Int) := of_decide_eq_true (by first | (with_reducible assumption) | assumption)
                    have hx58 := bt_at a0 x12_1
                    replace p58 := eq_true p58
                    replace q58 := eq_true q58
                    have p166 : 0 ≤ (0 : Int) := (by omega)
                    have q166 : 0 < a0.size := (by have : (0 : Int) < (a0.size : Int) := of_decide_eq_true (by first | (with_reducible assumption) | assumption); omega)
                    have hx166 : ∀ h : 0 < a0.size, ((a0[0]'h).toNat : Int) = bt a0 0 := bt_at a0 0
                    clear p166
                    have qi166 : (0 < (a0.size : Int)) = True := eq_true (of_decide_eq_true (by first | (with_reducible assumption) | assumption))
                    replace q166 := eq_true q166
                    have p171 : 0 ≤ (x12_1 : Int) := of_decide_eq_true (by first | (with_reducible assumption) | assumption)
                    have q171 : x12_1 < (a0.size : Int) := of_decide_eq_true (by first | (with_reducible assumption) | assumption)
                    have hx171 := bt_at a0 x12_1
                    replace p171 := eq_true p171
                    replace q171 := eq_true q171
                    try go_wp2
                    have n0_ := Aside0.mk (blk_drew BK202.out)
                    have n1_ := Aside0.mk (below_drew1 HB.out)
                    clear BK202
                    clear HB
                    have BK202 := n0_
                    have HB := n1_
                    clear n0_ n1_
                    refine start_ (n := 18) (S := fun w' => True) (ds := []) #[false, false, false, false, false, false, false, false, false, false, false, false, false, false, false, false, false, false] (by kernel_rfl) rfl rfl trivial (fun hHeld => ?_); refine with_tabW tambourref04_item.tab23 tambourref04_item.bits23 (fun HT_ HW_ => ?_)
                    generalize wr.drew = w183 at BK202 HB hHeld ⊢
                    refine pure_ (i := 0) (N := some 119) (v := ?_) (a' := ?_) #[true, false, false, false, false, false, false, false, false, false, false, false, false, false, false, false, false, false] rfl rfl (any_of HT_.out (by kernel_rfl)) (fun _ _ _ h => h) (Or.inl ⟨by rfl, ?_⟩) ?_ ?_
                    rotate_left
                    ·intro w'
                     go_simp
                     with_reducible rfl
                    rotate_left
                    ·simp only [Act.put, List.setIfInBounds_toArray, List.set_cons_zero, List.set_cons_succ, i64_w, i32_w]
                     rfl
                    refine pure_ (i := 1) (N := some 120) (v := ?_) (a' := ?_) #[true, true, false, false, false, false, false, false, false, false, false, false, false, false, false, false, false, false] rfl rfl (any_of HT_.out (by kernel_rfl)) (fun _ _ _ h => h) (Or.inl ⟨by rfl, ?_⟩) ?_ ?_
                    rotate_left
                    ·intro w'
                     go_simp
                     with_reducible rfl
                    rotate_left
                    ·simp only [Act.put, List.setIfInBounds_toArray, List.set_cons_zero, List.set_cons_succ, i64_w, i32_w]
                     rfl
                    refine pure_ (i := 2) (N := some 121) (v := ?_) (a' := ?_) #[true, true, true, false, false, false, false, false, false, false, false, false, false, false, false, false, false, false] rfl rfl (any_of HT_.out (by kernel_rfl)) (fun _ _ _ h => h) (Or.inl ⟨by rfl, ?_⟩) ?_ ?_
                    rotate_left
                    ·intro w'
                     go_simp
                     with_reducible rfl
                    rotate_left
                    ·simp only [Act.put, List.setIfInBounds_toArray, List.set_cons_zero, List.set_cons_succ, i64_w, i32_w]
                     rfl
                    refine pure_ (i := 3) (N := some 122) (v := ?_) (a' := ?_) #[true, true, true, true, false, false, false, false, false, false, false, false, false, false, false, false, false, false] rfl rfl (any_of HT_.out (by kernel_rfl)) (fun _ _ _ h => h) (Or.inl ⟨by rfl, ?_⟩) ?_ ?_
                    rotate_left
                    ·intro w'
                     go_simp
                     with_reducible rfl
                    rotate_left
                    ·simp only [Act.put, List.setIfInBounds_toArray, List.set_cons_zero, List.set_cons_succ, i64_w, i32_w]
                     rfl
                    refine pure_ (i := 4) (N := some 123) (v := ?_) (a' := ?_) #[true, true, true, true, true, false, false, false, false, false, false, false, false, false, false, false, false, false] rfl rfl (any_of HT_.out (by kernel_rfl)) (fun _ _ _ h => h) (Or.inl ⟨by rfl, ?_⟩) ?_ ?_
                    rotate_left
                    ·intro w'
                     go_simp
                     with_reducible rfl
                    rotate_left
                    ·simp only [Act.put, List.setIfInBounds_toArray, List.set_cons_zero, List.set_cons_succ, i64_w, i32_w]
                     rfl
                    refine pure_ (i := 5) (N := some 124) (v := ?_) (a' := ?_) #[true, true, true, true, true, true, false, false, false, false, false, false, false, false, false, false, false, false] rfl rfl (any_of HT_.out (by kernel_rfl)) (fun _ _ _ h => h) (Or.inl ⟨by rfl, ?_⟩) ?_ ?_
                    rotate_left
                    ·intro w'
                     go_simp
                     with_reducible rfl
                    rotate_left
                    ·simp only [Act.put, List.setIfInBounds_toArray, List.set_cons_zero, List.set_cons_succ, i64_w, i32_w]
                     rfl
                    refine pure_ (i := 6) (N := some 125) (v := ?_) (a' := ?_) #[true, true, true, true, true, true, true, false, false, false, false, false, false, false, false, false, false, false] rfl rfl (any_of HT_.out (by kernel_rfl)) (fun _ _ _ h => h) (Or.inl ⟨by rfl, ?_⟩) ?_ ?_
                    rotate_left
                    ·intro w'
                     go_simp
                     with_reducible rfl
                    rotate_left
                    ·simp only [Act.put, List.setIfInBounds_toArray, List.set_cons_zero, List.set_cons_succ, i64_w, i32_w]
                     rfl
                    refine pure_ (i := 7) (N := some 126) (v := ?_) (a' := ?_) #[true, true, true, true, true, true, true, true, false, false, false, false, false, false, false, false, false, false] rfl rfl (any_of HT_.out (by kernel_rfl)) (fun _ _ _ h => h) (Or.inl ⟨by rfl, ?_⟩) ?_ ?_
                    rotate_left
                    ·intro w'
                     go_simp
                     with_reducible rfl
                    rotate_left
                    ·simp only [Act.put, List.setIfInBounds_toArray, List.set_cons_zero, List.set_cons_succ, i64_w, i32_w]
                     rfl
                    refine pure_ (i := 9) (N := some 128) (v := ?_) (a' := ?_) #[true, true, true, true, true, true, true, true, false, true, false, false, false, false, false, false, false, false] rfl rfl (any_of HT_.out (by kernel_rfl)) (fun _ _ _ h => h) (Or.inl ⟨by rfl, ?_⟩) ?_ ?_
                    rotate_left
                    ·intro w'
                     go_simp
                     with_reducible rfl
                    rotate_left
                    ·simp only [Act.put, List.setIfInBounds_toArray, List.set_cons_zero, List.set_cons_succ, i64_w, i32_w]
                     rfl
                    refine pure_ (i := 10) (N := some 129) (v := ?_) (a' := ?_) #[true, true, true, true, true, true, true, true, false, true, true, false, false, false, false, false, false, false] rfl rfl (any_of HT_.out (by kernel_rfl)) (fun _ _ _ h => h) (Or.inl ⟨by rfl, ?_⟩) ?_ ?_
                    rotate_left
                    ·intro w'
                     go_simp
                     with_reducible rfl
                    rotate_left
                    ·simp only [Act.put, List.setIfInBounds_toArray, List.set_cons_zero, List.set_cons_succ, i64_w, i32_w]
                     rfl
                    refine pure_ (i := 11) (N := some 130) (v := ?_) (a' := ?_) #[true, true, true, true, true, true, true, true, false, true, true, true, false, false, false, false, false, false] rfl rfl (any_of HT_.out (by kernel_rfl)) (fun _ _ _ h => h) (Or.inl ⟨by rfl, ?_⟩) ?_ ?_
                    rotate_left
                    ·intro w'
                     go_simp
                     with_reducible rfl
                    rotate_left
                    ·simp only [Act.put, List.setIfInBounds_toArray, List.set_cons_zero, List.set_cons_succ, i64_w, i32_w]
                     rfl
                    refine pure_ (i := 12) (N := some 131) (v := ?_) (a' := ?_) #[true, true, true, true, true, true, true, true, false, true, true, true, true, false, false, false, false, false] rfl rfl (any_of HT_.out (by kernel_rfl)) (fun _ _ _ h => h) (Or.inl ⟨by rfl, ?_⟩) ?_ ?_
                    rotate_left
                    ·intro w'
                     go_simp
                     with_reducible rfl
                    rotate_left
                    ·simp only [Act.put, List.setIfInBounds_toArray, List.set_cons_zero, List.set_cons_succ, i64_w, i32_w]
                     rfl
                    refine pure_ (i := 13) (N := some 132) (v := ?_) (a' := ?_) #[true, true, true, true, true, true, true, true, false, true, true, true, true, true, false, false, false, false] rfl rfl (any_of HT_.out (by kernel_rfl)) (fun _ _ _ h => h) (Or.inl ⟨by rfl, ?_⟩) ?_ ?_
                    rotate_left
                    ·intro w'
                     go_simp
                     with_reducible rfl
                    rotate_left
                    ·simp only [Act.put, List.setIfInBounds_toArray, List.set_cons_zero, List.set_cons_succ, i64_w, i32_w]
                     rfl
                    refine pure_ (i := 14) (N := some 133) (v := ?_) (a' := ?_) #[true, true, true, true, true, true, true, true, false, true, true, true, true, true, true, false, false, false] rfl rfl (any_of HT_.out (by kernel_rfl)) (fun _ _ _ h => h) (Or.inl ⟨by rfl, ?_⟩) ?_ ?_
                    rotate_left
                    ·intro w'
                     go_simp
                     with_reducible rfl
                    rotate_left
                    ·simp only [Act.put, List.setIfInBounds_toArray, List.set_cons_zero, List.set_cons_succ, i64_w, i32_w]
                     rfl
                    refine one_ (i := 8) (N := some 127) #[true, true, true, true, true, true, true, true, true, true, true, true, true, true, true, false, false, false] rfl rfl (one_of HT_.out (by kernel_rfl)) (by decide) (fun K hK => ?_)
                    refine goes_ Tryd.func20 (by kernel_rfl) rfl #[.string (a0.extract ((ji175) : Int).toNat ((ji180) : Int).toNat)] (by rfl) rfl rfl (by (try simp only [List.map_toArray, List.map_cons, List.map_nil]); first | done | (simp only [hji175, hji180]; rfl) | rfl | (simp only [List.length_drop, List.length_take]; rfl)) ?_
                    with_reducible refine (tambourref04_Text.calls (a0.extract ((ji175) : Int).toNat ((ji180) : Int).toNat) t235 t236 t237 _ A179.out).mono ?_
                    rintro e w184 ⟨v238, rfl, ho0, hb⟩
                    refine ⟨_, rfl, ?_⟩
                    have n0_ := Aside0.mk (Kd.R_lower (Kd.R_newB ho0 (g := gb202) (o := .cells #[.bool false, .string (⟨#[]⟩ : ByteArray), .slice none 0 0] 24 (0, 0)) (by (with_reducible repeat (first | refine blk_drewN ?_ _ | refine blk_drew ?_ | refine blk_alloc ?_ _)); exact BK202.out)) (below_size (by repeat (first | (with_reducible first | exact HB.out | apply below_alloc | apply pw_below_drewN | apply below_drew1 | refine below_set ?_ GE202.out) | exact HB.out))))
                    have n1_ := Aside0.mk (blk_below (g := gb202) (o := .cells #[.bool false, .string (⟨#[]⟩ : ByteArray), .slice none 0 0] 24 (0, 0)) (by (with_reducible repeat (first | refine blk_drewN ?_ _ | refine blk_drew ?_ | refine blk_alloc ?_ _)); exact BK202.out) hb)
                    have n2_ := Aside0.mk (below_step (by repeat (first | (with_reducible first | exact HB.out | apply below_alloc | apply pw_below_drewN | apply below_drew1 | refine below_set ?_ GE202.out) | exact HB.out)) hb)
                    clear BK202
                    clear HB
                    have HO239 := n0_
                    have BK202 := n1_
                    have HB := n2_
                    clear n0_ n1_ n2_
                    (try clear hb)
                    (try clear hb2)
                    (try clear hk)
                    (try clear hi)
                    (try clear ho0)
                    obtain ⟨Ao187, co187, eo187⟩ := Kd.R_slice HO239.out
                    (first | subst eo187 | (injection eo187 with f1_ f2_ f3_; have f4_ := f1_.symm; have f5_ := f3_.symm; clear f1_ f2_ f3_; subst f4_; subst f5_))
                    refine hK.out _ _ trivial (fun hHeld => ?_)
                    clear hK K
                    refine norm_ (a' := ?_) ?_ ?_
                    rotate_left
                    ·show Act.put _ (some 127) _ = _
                     simp only [Act.put, List.setIfInBounds_toArray, List.set_cons_zero, List.set_cons_succ, i64_w, i32_w]
                     rfl
                    refine one_ (i := 15) (N := none) #[true, true, true, true, true, true, true, true, true, true, true, true, true, true, true, true, false, false] rfl rfl (one_of HT_.out (by kernel_rfl)) (by decide) (fun K hK => ?_)
                    have hs185 : w184.cell? ⟨gb202, 0, none⟩ = some (.bool false) := (blk_cell BK202.out 0).trans rfl
                    have hfs185 := blk_frozen BK202.out 0
                    have hs186 : w184.cell? ⟨gb202, 1, none⟩ = some (.string (⟨#[]⟩ : ByteArray)) := (blk_cell BK202.out 1).trans rfl
                    have hfs186 := blk_frozen BK202.out 1
                    have hs188 : w184.cell? ⟨gb202, 2, none⟩ = some (.slice none 0 0) := (blk_cell BK202.out 2).trans rfl
                    have hfs188 := blk_frozen BK202.out 2
                    refine skip_ (w1 := ?_) (by rfl) rfl ?_ ?_
                    rotate_left
                    ·go_simp
                     rfl
                    refine hK.out _ _ trivial (fun hHeld => ?_)
                    clear hK K
                    refine pure_ (i := 16) (N := some 5) (v := ?_) (a' := ?_) #[true, true, true, true, true, true, true, true, true, true, true, true, true, true, true, true, true, false] rfl rfl (any_of HT_.out (by kernel_rfl)) (fun _ _ _ h => h) (Or.inl ⟨by rfl, ?_⟩) ?_ ?_
                    rotate_left
                    ·intro w'
                     go_simp
                     with_reducible rfl
                    rotate_left
                    ·simp only [Act.put, List.setIfInBounds_toArray, List.set_cons_zero, List.set_cons_succ, i64_w, i32_w]
                     rfl
                    refine pure_ (i := 17) (N := some 6) (v := ?_) (a' := ?_) #[true, true, true, true, true, true, true, true, true, true, true, true, true, true, true, true, true, true] rfl rfl (any_of HT_.out (by kernel_rfl)) (fun _ _ _ h => h) (Or.inl ⟨by rfl, ?_⟩) ?_ ?_
                    rotate_left
                    ·intro w'
                     go_simp
                     with_reducible rfl
                    rotate_left
                    ·simp only [Act.put, List.setIfInBounds_toArray, List.set_cons_zero, List.set_cons_succ, i64_w, i32_w]
                     rfl
                    refine done_ (done_of HT_.out (by kernel_rfl)) ?_
                    try go_wp2
                    refine bodyPost_ret (results_ctt rfl _ _ gb202 24 #[.bool t235, .string t236, .slice Ao187 t237.length co187] (0, 0) _ rfl (by (with_reducible repeat (first | refine blk_drewN ?_ _ | refine blk_drew ?_ | refine blk_alloc ?_ _)); refine blk_put (cs := #[.bool t235, .string t236, .slice none 0 0]) ?_ 2 _ rfl; (with_reducible repeat (first | refine blk_drewN ?_ _ | refine blk_drew ?_ | refine blk_alloc ?_ _)); refine blk_put (cs := #[.bool t235, .string (⟨#[]⟩ : ByteArray), .slice none 0 0]) ?_ 1 _ rfl; (with_reducible repeat (first | refine blk_drewN ?_ _ | refine blk_drew ?_ | refine blk_alloc ?_ _)); refine blk_put (cs := #[.bool false, .string (⟨#[]⟩ : ByteArray), .slice none 0 0]) ?_ 0 _ rfl; (with_reducible repeat (first | refine blk_drewN ?_ _ | refine blk_drew ?_ | refine blk_alloc ?_ _)); exact BK202.out) Tryd.underlying24 rfl (by kernel_rfl)) rfl ?_
                    exact ⟨_, by first | rfl | (simp [errW_none, errW_some] <;> rfl) | (simp only [← hji175, ← hji180]; first | rfl | (simp [errW_none, errW_some] <;> rfl)) | (simp [*, errW_none, errW_some] <;> rfl), by (with_reducible repeat (first | apply Kd.R_alloc | apply Kd.R_drewN | apply Kd.R_drew)); exact Kd.R_mono (Kd.R_far (p := ⟨gb202, 2, none⟩) (Kd.R_far (p := ⟨gb202, 1, none⟩) (Kd.R_far (p := ⟨gb202, 0, none⟩) (Kd.R_mono HO239.out (fun k_ hk => (⟨hk, hk.2⟩ : _ ∧ k_ ≠ gb202))) (fun _ hk => hk.2) (.bool t235)) (fun _ hk => hk.2) (.string t236)) (fun _ hk => hk.2) (.slice Ao187 t237.length co187)) (fun _ hk => trivial), by repeat (first | (with_reducible first | exact HB.out | apply below_alloc | apply pw_below_drewN | apply below_drew1 | refine below_set ?_ GE202.out) | exact HB.out)⟩
                   ·rw [if_neg c181] at H
                    exact absurd H (by simp)
                  ·rw [if_neg c178] at H
                   exact absurd H (by simp)
                 ·rw [if_neg c177] at H
                  exact absurd H (by simp)
                ·rw [if_neg c176] at H
                 exact absurd H (by simp)
              ·rw [if_neg c172] at H
               have c172b0 : ((bt a0 x12_1) == 58) = false := beq_eq_false_iff_ne.mpr c172
               have c172b1 : ((bt a0 x12_1) != 58) = true := bne_iff_ne.mpr c172
               simp only [Option.some.injEq, Prod.mk.injEq] at H
               obtain ⟨rfl, rfl, rfl, rfl, rfl⟩ := H
               have p58 : 0 ≤ (x12_1 : Int) := of_decide_eq_true (by first | (with_reducible assumption) | assumption)
               have q58 : x12_1 < (a0.size : Int) := of_decide_eq_true (by first | (with_reducible assumption) | assumption)
               have hx58 := bt_at a0 x12_1
               replace p58 := eq_true p58
               replace q58 := eq_true q58
               have p166 : 0 ≤ (0 : Int) := (by omega)
               have q166 : 0 < a0.size := (by have : (0 : Int) < (a0.size : Int) := of_decide_eq_true (by first | (with_reducible assumption) | assumption); omega)
               have hx166 : ∀ h : 0 < a0.size, ((a0[0]'h).toNat : Int) = bt a0 0 := bt_at a0 0
               clear p166
               have qi166 : (0 < (a0.size : Int)) = True := eq_true (of_decide_eq_true (by first | (with_reducible assumption) | assumption))
               replace q166 := eq_true q166
               have p171 : 0 ≤ (x12_1 : Int) := of_decide_eq_true (by first | (with_reducible assumption) | assumption)
               have q171 : x12_1 < (a0.size : Int) := of_decide_eq_true (by first | (with_reducible assumption) | assumption)
               have hx171 := bt_at a0 x12_1
               replace p171 := eq_true p171
               replace q171 := eq_true q171
               have hcz189_0 : wr.cell? ⟨gb202, 0, none⟩ = some (.bool false) := (blk_cell BK202.out 0).trans rfl
               have hcz189_1 : wr.cell? ⟨gb202, 1, none⟩ = some (.string (⟨#[]⟩ : ByteArray)) := (blk_cell BK202.out 1).trans rfl
               have hcz189_2 : wr.cell? ⟨gb202, 2, none⟩ = some (.slice none 0 0) := (blk_cell BK202.out 2).trans rfl
               have hfz189_0 := blk_frozen BK202.out 0
               have hfz189_1 := blk_frozen BK202.out 1
               have hfz189_2 := blk_frozen BK202.out 2
               go_wp2
               refine bodyPost_ret (results_ctt rfl _ _ gb202 24 #[.bool false, .string (⟨#[]⟩ : ByteArray), .slice none 0 0] (0, 0) _ rfl (by repeat (first | (with_reducible refine blk_drewN ?_ _) | (with_reducible refine blk_drew ?_) | (with_reducible refine blk_alloc ?_ _) | exact BK202.out | refine blk_put (cs := #[.bool false, .string (⟨#[]⟩ : ByteArray), .slice none 0 0]) ?_ _ _ rfl)) Tryd.underlying24 rfl (by kernel_rfl)) rfl ?_
               exact ⟨_, rfl, Kd.R_nil _ _ _ _ _, by repeat (first | (with_reducible first | exact HB.out | apply below_alloc | apply pw_below_drewN | apply below_drew1 | refine below_set ?_ GE202.out) | exact HB.out)⟩
           ·rw [if_neg c165] at H
            exact absurd H (by simp)
          ·rw [if_neg c164] at H
           have c164b0 : decide (1 < x12_1) = false := decide_eq_false c164
           clear c164
           by_cases c190 : x12_1 ≥ (a0.size : Int)
           ·rw [if_pos c190] at H
            have c190b0 : decide ((a0.size : Int) ≤ x12_1) = true := decide_eq_true c190
            clear c190
            simp only [Option.some.injEq, Prod.mk.injEq] at H
            obtain ⟨rfl, rfl, rfl, rfl, rfl⟩ := H
            have p58 : 0 ≤ (x12_1 : Int) := of_decide_eq_true (by first | (with_reducible assumption) | assumption)
            have q58 : x12_1 < (a0.size : Int) := of_decide_eq_true (by first | (with_reducible assumption) | assumption)
            have hx58 := bt_at a0 x12_1
            replace p58 := eq_true p58
            replace q58 := eq_true q58
            have hcz191_0 : wr.cell? ⟨gb202, 0, none⟩ = some (.bool false) := (blk_cell BK202.out 0).trans rfl
            have hcz191_1 : wr.cell? ⟨gb202, 1, none⟩ = some (.string (⟨#[]⟩ : ByteArray)) := (blk_cell BK202.out 1).trans rfl
            have hcz191_2 : wr.cell? ⟨gb202, 2, none⟩ = some (.slice none 0 0) := (blk_cell BK202.out 2).trans rfl
            have hfz191_0 := blk_frozen BK202.out 0
            have hfz191_1 := blk_frozen BK202.out 1
            have hfz191_2 := blk_frozen BK202.out 2
            go_wp2
            refine bodyPost_ret (results_ctt rfl _ _ gb202 24 #[.bool false, .string (⟨#[]⟩ : ByteArray), .slice none 0 0] (0, 0) _ rfl (by repeat (first | (with_reducible refine blk_drewN ?_ _) | (with_reducible refine blk_drew ?_) | (with_reducible refine blk_alloc ?_ _) | exact BK202.out | refine blk_put (cs := #[.bool false, .string (⟨#[]⟩ : ByteArray), .slice none 0 0]) ?_ _ _ rfl)) Tryd.underlying24 rfl (by kernel_rfl)) rfl ?_
            exact ⟨_, rfl, Kd.R_nil _ _ _ _ _, by repeat (first | (with_reducible first | exact HB.out | apply below_alloc | apply pw_below_drewN | apply below_drew1 | refine below_set ?_ GE202.out) | exact HB.out)⟩
           ·rw [if_neg c190] at H
            have c190b0 : decide ((a0.size : Int) ≤ x12_1) = false := decide_eq_false c190
            clear c190
            by_cases c193 : (bt a0 x12_1) = 58
            ·rw [if_pos c193] at H
             have c193b0 : ((bt a0 x12_1) == 58) = true := beq_iff_eq.mpr c193
             have c193b1 : ((bt a0 x12_1) != 58) = false := bne_eq_false_iff_eq.mpr c193
             clear c193
             by_cases c194 : x11_1 > (wrap64 ((wrap64 ((a0.size : Int) - x12_1)) - 1))
             ·rw [if_pos c194] at H
              have c194b0 : decide ((wrap64 ((wrap64 ((a0.size : Int) - x12_1)) - 1)) < x11_1) = true := decide_eq_true c194
              clear c194
              simp only [Option.some.injEq, Prod.mk.injEq] at H
              obtain ⟨rfl, rfl, rfl, rfl, rfl⟩ := H
              have p58 : 0 ≤ (x12_1 : Int) := of_decide_eq_true (by first | (with_reducible assumption) | assumption)
              have q58 : x12_1 < (a0.size : Int) := of_decide_eq_true (by first | (with_reducible assumption) | assumption)
              have hx58 := bt_at a0 x12_1
              replace p58 := eq_true p58
              replace q58 := eq_true q58
              have p192 : 0 ≤ (x12_1 : Int) := of_decide_eq_true (by first | (with_reducible assumption) | assumption)
              have q192 : x12_1 < (a0.size : Int) := of_decide_eq_true (by first | (with_reducible assumption) | assumption)
              have hx192 := bt_at a0 x12_1
              replace p192 := eq_true p192
              replace q192 := eq_true q192
              have hcz195_0 : wr.cell? ⟨gb202, 0, none⟩ = some (.bool false) := (blk_cell BK202.out 0).trans rfl
              have hcz195_1 : wr.cell? ⟨gb202, 1, none⟩ = some (.string (⟨#[]⟩ : ByteArray)) := (blk_cell BK202.out 1).trans rfl
              have hcz195_2 : wr.cell? ⟨gb202, 2, none⟩ = some (.slice none 0 0) := (blk_cell BK202.out 2).trans rfl
              have hfz195_0 := blk_frozen BK202.out 0
              have hfz195_1 := blk_frozen BK202.out 1
              have hfz195_2 := blk_frozen BK202.out 2
              go_wp2
              refine bodyPost_ret (results_ctt rfl _ _ gb202 24 #[.bool false, .string (⟨#[]⟩ : ByteArray), .slice none 0 0] (0, 0) _ rfl (by repeat (first | (with_reducible refine blk_drewN ?_ _) | (with_reducible refine blk_drew ?_) | (with_reducible refine blk_alloc ?_ _) | exact BK202.out | refine blk_put (cs := #[.bool false, .string (⟨#[]⟩ : ByteArray), .slice none 0 0]) ?_ _ _ rfl)) Tryd.underlying24 rfl (by kernel_rfl)) rfl ?_
              exact ⟨_, rfl, Kd.R_nil _ _ _ _ _, by repeat (first | (with_reducible first | exact HB.out | apply below_alloc | apply pw_below_drewN | apply below_drew1 | refine below_set ?_ GE202.out) | exact HB.out)⟩
             ·rw [if_neg c194] at H
              have c194b0 : decide ((wrap64 ((wrap64 ((a0.size : Int) - x12_1)) - 1)) < x11_1) = false := decide_eq_false c194
              clear c194
              obtain ⟨ji196, hji196⟩ : ∃ j_ : Int, (wrap64 (x12_1 + 1)) = j_ := ⟨_, rfl⟩
              replace H : (if 0 ≤ (ji196) then (if (ji196) ≤ (wrap64 ((ji196) + x11_1)) then (if (wrap64 ((ji196) + x11_1)) ≤ (a0.size : Int) then ((tambourref04_Text.f (a0.extract ((ji196) : Int).toNat ((wrap64 ((ji196) + x11_1)) : Int).toNat)).bind fun bt240 => (if 0 ≤ (wrap64 ((ji196) + x11_1)) then (some (bt240.1, bt240.2.1, bt240.2.2, a0.extract ((wrap64 ((ji196) + x11_1)) : Int).toNat a0.size, true)) else (none))) else (none)) else (none)) else (none)) = some (r1, r2, r3, r4, r5) := by first | (rw [hji196] at H; exact H) | (simp only [hji196] at H ⊢; exact H)
              have hji196w : (IntKind.i64.wrap (x12_1 + 1)) = ji196 := (i64_w _).trans hji196
              by_cases c197 : 0 ≤ (ji196)
              ·rw [if_pos c197] at H
               have c197b0 := eq_true c197
               have c197b1 : decide (0 ≤ (ji196)) = true := decide_eq_true c197
               clear c197
               by_cases c198 : (ji196) ≤ (wrap64 ((ji196) + x11_1))
               ·rw [if_pos c198] at H
                have c198b0 := eq_true c198
                have c198b1 : decide ((ji196) ≤ (wrap64 ((ji196) + x11_1))) = true := decide_eq_true c198
                by_cases c199 : (wrap64 ((ji196) + x11_1)) ≤ (a0.size : Int)
                ·rw [if_pos c199] at H
                 have c199b0 := eq_true c199
                 have c199b1 : decide ((wrap64 ((ji196) + x11_1)) ≤ (a0.size : Int)) = true := decide_eq_true c199
                 replace H := Option.bind_eq_some_iff.mp H
                 obtain ⟨⟨t240, t241, t242⟩, A2000, H⟩ := H
                 replace H : (if 0 ≤ (wrap64 ((ji196) + x11_1)) then (some (t240, t241, t242, a0.extract ((wrap64 ((ji196) + x11_1)) : Int).toNat a0.size, true)) else (none)) = some (r1, r2, r3, r4, r5) := H
                 have A200 := Aside0.mk A2000
                 clear A2000
                 obtain ⟨ji201, hji201⟩ : ∃ j_ : Int, (wrap64 ((ji196) + x11_1)) = j_ := ⟨_, rfl⟩
                 replace H : (if 0 ≤ (ji201) then (some (t240, t241, t242, a0.extract ((ji201) : Int).toNat a0.size, true)) else (none)) = some (r1, r2, r3, r4, r5) := by first | (rw [hji201] at H; exact H) | (simp only [hji201] at H ⊢; exact H)
                 (try rw [hji201] at c198b0)
                 (try rw [hji201] at c198b1)
                 (try rw [hji201] at c198)
                 (try rw [hji201] at c199b0)
                 (try rw [hji201] at c199b1)
                 (try rw [hji201] at c199)
                 (try rw [hji201] at A200)
                 have hji201w : (IntKind.i64.wrap ((ji196) + x11_1)) = ji201 := (i64_w _).trans hji201
                 by_cases c202 : 0 ≤ (ji201)
                 ·rw [if_pos c202] at H
                  have c202b0 := eq_true c202
                  have c202b1 : decide (0 ≤ (ji201)) = true := decide_eq_true c202
                  clear c202
                  have c203b0 := eq_true (of_decide_eq_true (by first | (with_reducible assumption) | assumption) : (ji201) ≤ (a0.size : Int))
                  simp only [Option.some.injEq, Prod.mk.injEq] at H
                  obtain ⟨rfl, rfl, rfl, rfl, rfl⟩ := H
                  have p58 : 0 ≤ (x12_1 : Int) := of_decide_eq_true (by first | (with_reducible assumption) | assumption)
                  have q58 : x12_1 < (a0.size : Int) := of_decide_eq_true (by first | (with_reducible assumption) | assumption)
                  have hx58 := bt_at a0 x12_1
                  replace p58 := eq_true p58
                  replace q58 := eq_true q58
                  have p192 : 0 ≤ (x12_1 : Int) := of_decide_eq_true (by first | (with_reducible assumption) | assumption)
                  have q192 : x12_1 < (a0.size : Int) := of_decide_eq_true (by first | (with_reducible assumption) | assumption)
                  have hx192 := bt_at a0 x12_1
                  replace p192 := eq_true p192
                  replace q192 := eq_true q192
                  try go_wp2
                  have n0_ := Aside0.mk (blk_drew BK202.out)
                  have n1_ := Aside0.mk (below_drew1 HB.out)
                  clear BK202
                  clear HB
                  have BK202 := n0_
                  have HB := n1_
                  clear n0_ n1_
                  refine start_ (n := 18) (S := fun w' => True) (ds := []) #[false, false, false, false, false, false, false, false, false, false, false, false, false, false, false, false, false, false] (by kernel_rfl) rfl rfl trivial (fun hHeld => ?_); refine with_tabW tambourref04_item.tab23 tambourref04_item.bits23 (fun HT_ HW_ => ?_)
                  generalize wr.drew = w204 at BK202 HB hHeld ⊢
                  refine pure_ (i := 0) (N := some 119) (v := ?_) (a' := ?_) #[true, false, false, false, false, false, false, false, false, false, false, false, false, false, false, false, false, false] rfl rfl (any_of HT_.out (by kernel_rfl)) (fun _ _ _ h => h) (Or.inl ⟨by rfl, ?_⟩) ?_ ?_
                  rotate_left
                  ·intro w'
                   go_simp
                   with_reducible rfl
                  rotate_left
                  ·simp only [Act.put, List.setIfInBounds_toArray, List.set_cons_zero, List.set_cons_succ, i64_w, i32_w]
                   rfl
                  refine pure_ (i := 1) (N := some 120) (v := ?_) (a' := ?_) #[true, true, false, false, false, false, false, false, false, false, false, false, false, false, false, false, false, false] rfl rfl (any_of HT_.out (by kernel_rfl)) (fun _ _ _ h => h) (Or.inl ⟨by rfl, ?_⟩) ?_ ?_
                  rotate_left
                  ·intro w'
                   go_simp
                   with_reducible rfl
                  rotate_left
                  ·simp only [Act.put, List.setIfInBounds_toArray, List.set_cons_zero, List.set_cons_succ, i64_w, i32_w]
                   rfl
                  refine pure_ (i := 2) (N := some 121) (v := ?_) (a' := ?_) #[true, true, true, false, false, false, false, false, false, false, false, false, false, false, false, false, false, false] rfl rfl (any_of HT_.out (by kernel_rfl)) (fun _ _ _ h => h) (Or.inl ⟨by rfl, ?_⟩) ?_ ?_
                  rotate_left
                  ·intro w'
                   go_simp
                   with_reducible rfl
                  rotate_left
                  ·simp only [Act.put, List.setIfInBounds_toArray, List.set_cons_zero, List.set_cons_succ, i64_w, i32_w]
                   rfl
                  refine pure_ (i := 3) (N := some 122) (v := ?_) (a' := ?_) #[true, true, true, true, false, false, false, false, false, false, false, false, false, false, false, false, false, false] rfl rfl (any_of HT_.out (by kernel_rfl)) (fun _ _ _ h => h) (Or.inl ⟨by rfl, ?_⟩) ?_ ?_
                  rotate_left
                  ·intro w'
                   go_simp
                   with_reducible rfl
                  rotate_left
                  ·simp only [Act.put, List.setIfInBounds_toArray, List.set_cons_zero, List.set_cons_succ, i64_w, i32_w]
                   rfl
                  refine pure_ (i := 4) (N := some 123) (v := ?_) (a' := ?_) #[true, true, true, true, true, false, false, false, false, false, false, false, false, false, false, false, false, false] rfl rfl (any_of HT_.out (by kernel_rfl)) (fun _ _ _ h => h) (Or.inl ⟨by rfl, ?_⟩) ?_ ?_
                  rotate_left
                  ·intro w'
                   go_simp
                   with_reducible rfl
                  rotate_left
                  ·simp only [Act.put, List.setIfInBounds_toArray, List.set_cons_zero, List.set_cons_succ, i64_w, i32_w]
                   rfl
                  refine pure_ (i := 5) (N := some 124) (v := ?_) (a' := ?_) #[true, true, true, true, true, true, false, false, false, false, false, false, false, false, false, false, false, false] rfl rfl (any_of HT_.out (by kernel_rfl)) (fun _ _ _ h => h) (Or.inl ⟨by rfl, ?_⟩) ?_ ?_
                  rotate_left
                  ·intro w'
                   go_simp
                   with_reducible rfl
                  rotate_left
                  ·simp only [Act.put, List.setIfInBounds_toArray, List.set_cons_zero, List.set_cons_succ, i64_w, i32_w]
                   rfl
                  refine pure_ (i := 6) (N := some 125) (v := ?_) (a' := ?_) #[true, true, true, true, true, true, true, false, false, false, false, false, false, false, false, false, false, false] rfl rfl (any_of HT_.out (by kernel_rfl)) (fun _ _ _ h => h) (Or.inl ⟨by rfl, ?_⟩) ?_ ?_
                  rotate_left
                  ·intro w'
                   go_simp
                   with_reducible rfl
                  rotate_left
                  ·simp only [Act.put, List.setIfInBounds_toArray, List.set_cons_zero, List.set_cons_succ, i64_w, i32_w]
                   rfl
                  refine pure_ (i := 7) (N := some 126) (v := ?_) (a' := ?_) #[true, true, true, true, true, true, true, true, false, false, false, false, false, false, false, false, false, false] rfl rfl (any_of HT_.out (by kernel_rfl)) (fun _ _ _ h => h) (Or.inl ⟨by rfl, ?_⟩) ?_ ?_
                  rotate_left
                  ·intro w'
                   go_simp
                   with_reducible rfl
                  rotate_left
                  ·simp only [Act.put, List.setIfInBounds_toArray, List.set_cons_zero, List.set_cons_succ, i64_w, i32_w]
                   rfl
                  refine pure_ (i := 9) (N := some 128) (v := ?_) (a' := ?_) #[true, true, true, true, true, true, true, true, false, true, false, false, false, false, false, false, false, false] rfl rfl (any_of HT_.out (by kernel_rfl)) (fun _ _ _ h => h) (Or.inl ⟨by rfl, ?_⟩) ?_ ?_
                  rotate_left
                  ·intro w'
                   go_simp
                   with_reducible rfl
                  rotate_left
                  ·simp only [Act.put, List.setIfInBounds_toArray, List.set_cons_zero, List.set_cons_succ, i64_w, i32_w]
                   rfl
                  refine pure_ (i := 10) (N := some 129) (v := ?_) (a' := ?_) #[true, true, true, true, true, true, true, true, false, true, true, false, false, false, false, false, false, false] rfl rfl (any_of HT_.out (by kernel_rfl)) (fun _ _ _ h => h) (Or.inl ⟨by rfl, ?_⟩) ?_ ?_
                  rotate_left
                  ·intro w'
                   go_simp
                   with_reducible rfl
                  rotate_left
                  ·simp only [Act.put, List.setIfInBounds_toArray, List.set_cons_zero, List.set_cons_succ, i64_w, i32_w]
                   rfl
                  refine pure_ (i := 11) (N := some 130) (v := ?_) (a' := ?_) #[true, true, true, true, true, true, true, true, false, true, true, true, false, false, false, false, false, false] rfl rfl (any_of HT_.out (by kernel_rfl)) (fun _ _ _ h => h) (Or.inl ⟨by rfl, ?_⟩) ?_ ?_
                  rotate_left
                  ·intro w'
                   go_simp
                   with_reducible rfl
                  rotate_left
                  ·simp only [Act.put, List.setIfInBounds_toArray, List.set_cons_zero, List.set_cons_succ, i64_w, i32_w]
                   rfl
                  refine pure_ (i := 12) (N := some 131) (v := ?_) (a' := ?_) #[true, true, true, true, true, true, true, true, false, true, true, true, true, false, false, false, false, false] rfl rfl (any_of HT_.out (by kernel_rfl)) (fun _ _ _ h => h) (Or.inl ⟨by rfl, ?_⟩) ?_ ?_
                  rotate_left
                  ·intro w'
                   go_simp
                   with_reducible rfl
                  rotate_left
                  ·simp only [Act.put, List.setIfInBounds_toArray, List.set_cons_zero, List.set_cons_succ, i64_w, i32_w]
                   rfl
                  refine pure_ (i := 13) (N := some 132) (v := ?_) (a' := ?_) #[true, true, true, true, true, true, true, true, false, true, true, true, true, true, false, false, false, false] rfl rfl (any_of HT_.out (by kernel_rfl)) (fun _ _ _ h => h) (Or.inl ⟨by rfl, ?_⟩) ?_ ?_
                  rotate_left
                  ·intro w'
                   go_simp
                   with_reducible rfl
                  rotate_left
                  ·simp only [Act.put, List.setIfInBounds_toArray, List.set_cons_zero, List.set_cons_succ, i64_w, i32_w]
                   rfl
                  refine pure_ (i := 14) (N := some 133) (v := ?_) (a' := ?_) #[true, true, true, true, true, true, true, true, false, true, true, true, true, true, true, false, false, false] rfl rfl (any_of HT_.out (by kernel_rfl)) (fun _ _ _ h => h) (Or.inl ⟨by rfl, ?_⟩) ?_ ?_
                  rotate_left
                  ·intro w'
                   go_simp
                   with_reducible rfl
                  rotate_left
                  ·simp only [Act.put, List.setIfInBounds_toArray, List.set_cons_zero, List.set_cons_succ, i64_w, i32_w]
                   rfl
                  refine one_ (i := 8) (N := some 127) #[true, true, true, true, true, true, true, true, true, true, true, true, true, true, true, false, false, false] rfl rfl (one_of HT_.out (by kernel_rfl)) (by decide) (fun K hK => ?_)
                  refine goes_ Tryd.func20 (by kernel_rfl) rfl #[.string (a0.extract ((ji196) : Int).toNat ((ji201) : Int).toNat)] (by rfl) rfl rfl (by (try simp only [List.map_toArray, List.map_cons, List.map_nil]); first | done | (simp only [hji196, hji201]; rfl) | rfl | (simp only [List.length_drop, List.length_take]; rfl)) ?_
                  with_reducible refine (tambourref04_Text.calls (a0.extract ((ji196) : Int).toNat ((ji201) : Int).toNat) t240 t241 t242 _ A200.out).mono ?_
                  rintro e w205 ⟨v243, rfl, ho0, hb⟩
                  refine ⟨_, rfl, ?_⟩
                  have n0_ := Aside0.mk (Kd.R_lower (Kd.R_newB ho0 (g := gb202) (o := .cells #[.bool false, .string (⟨#[]⟩ : ByteArray), .slice none 0 0] 24 (0, 0)) (by (with_reducible repeat (first | refine blk_drewN ?_ _ | refine blk_drew ?_ | refine blk_alloc ?_ _)); exact BK202.out)) (below_size (by repeat (first | (with_reducible first | exact HB.out | apply below_alloc | apply pw_below_drewN | apply below_drew1 | refine below_set ?_ GE202.out) | exact HB.out))))
                  have n1_ := Aside0.mk (blk_below (g := gb202) (o := .cells #[.bool false, .string (⟨#[]⟩ : ByteArray), .slice none 0 0] 24 (0, 0)) (by (with_reducible repeat (first | refine blk_drewN ?_ _ | refine blk_drew ?_ | refine blk_alloc ?_ _)); exact BK202.out) hb)
                  have n2_ := Aside0.mk (below_step (by repeat (first | (with_reducible first | exact HB.out | apply below_alloc | apply pw_below_drewN | apply below_drew1 | refine below_set ?_ GE202.out) | exact HB.out)) hb)
                  clear BK202
                  clear HB
                  have HO244 := n0_
                  have BK202 := n1_
                  have HB := n2_
                  clear n0_ n1_ n2_
                  (try clear hb)
                  (try clear hb2)
                  (try clear hk)
                  (try clear hi)
                  (try clear ho0)
                  obtain ⟨Ao208, co208, eo208⟩ := Kd.R_slice HO244.out
                  (first | subst eo208 | (injection eo208 with f1_ f2_ f3_; have f4_ := f1_.symm; have f5_ := f3_.symm; clear f1_ f2_ f3_; subst f4_; subst f5_))
                  refine hK.out _ _ trivial (fun hHeld => ?_)
                  clear hK K
                  refine norm_ (a' := ?_) ?_ ?_
                  rotate_left
                  ·show Act.put _ (some 127) _ = _
                   simp only [Act.put, List.setIfInBounds_toArray, List.set_cons_zero, List.set_cons_succ, i64_w, i32_w]
                   rfl
                  refine one_ (i := 15) (N := none) #[true, true, true, true, true, true, true, true, true, true, true, true, true, true, true, true, false, false] rfl rfl (one_of HT_.out (by kernel_rfl)) (by decide) (fun K hK => ?_)
                  have hs206 : w205.cell? ⟨gb202, 0, none⟩ = some (.bool false) := (blk_cell BK202.out 0).trans rfl
                  have hfs206 := blk_frozen BK202.out 0
                  have hs207 : w205.cell? ⟨gb202, 1, none⟩ = some (.string (⟨#[]⟩ : ByteArray)) := (blk_cell BK202.out 1).trans rfl
                  have hfs207 := blk_frozen BK202.out 1
                  have hs209 : w205.cell? ⟨gb202, 2, none⟩ = some (.slice none 0 0) := (blk_cell BK202.out 2).trans rfl
                  have hfs209 := blk_frozen BK202.out 2
                  refine skip_ (w1 := ?_) (by rfl) rfl ?_ ?_
                  rotate_left
                  ·go_simp
                   rfl
                  refine hK.out _ _ trivial (fun hHeld => ?_)
                  clear hK K
                  refine pure_ (i := 16) (N := some 5) (v := ?_) (a' := ?_) #[true, true, true, true, true, true, true, true, true, true, true, true, true, true, true, true, true, false] rfl rfl (any_of HT_.out (by kernel_rfl)) (fun _ _ _ h => h) (Or.inl ⟨by rfl, ?_⟩) ?_ ?_
                  rotate_left
                  ·intro w'
                   go_simp
                   with_reducible rfl
                  rotate_left
                  ·simp only [Act.put, List.setIfInBounds_toArray, List.set_cons_zero, List.set_cons_succ, i64_w, i32_w]
                   rfl
                  refine pure_ (i := 17) (N := some 6) (v := ?_) (a' := ?_) #[true, true, true, true, true, true, true, true, true, true, true, true, true, true, true, true, true, true] rfl rfl (any_of HT_.out (by kernel_rfl)) (fun _ _ _ h => h) (Or.inl ⟨by rfl, ?_⟩) ?_ ?_
                  rotate_left
                  ·intro w'
                   go_simp
                   with_reducible rfl
                  rotate_left
                  ·simp only [Act.put, List.setIfInBounds_toArray, List.set_cons_zero, List.set_cons_succ, i64_w, i32_w]
                   rfl
                  refine done_ (done_of HT_.out (by kernel_rfl)) ?_
                  try go_wp2
                  refine bodyPost_ret (results_ctt rfl _ _ gb202 24 #[.bool t240, .string t241, .slice Ao208 t242.length co208] (0, 0) _ rfl (by (with_reducible repeat (first | refine blk_drewN ?_ _ | refine blk_drew ?_ | refine blk_alloc ?_ _)); refine blk_put (cs := #[.bool t240, .string t241, .slice none 0 0]) ?_ 2 _ rfl; (with_reducible repeat (first | refine blk_drewN ?_ _ | refine blk_drew ?_ | refine blk_alloc ?_ _)); refine blk_put (cs := #[.bool t240, .string (⟨#[]⟩ : ByteArray), .slice none 0 0]) ?_ 1 _ rfl; (with_reducible repeat (first | refine blk_drewN ?_ _ | refine blk_drew ?_ | refine blk_alloc ?_ _)); refine blk_put (cs := #[.bool false, .string (⟨#[]⟩ : ByteArray), .slice none 0 0]) ?_ 0 _ rfl; (with_reducible repeat (first | refine blk_drewN ?_ _ | refine blk_drew ?_ | refine blk_alloc ?_ _)); exact BK202.out) Tryd.underlying24 rfl (by kernel_rfl)) rfl ?_
                  exact ⟨_, by first | rfl | (simp [errW_none, errW_some] <;> rfl) | (simp only [← hji196, ← hji201]; first | rfl | (simp [errW_none, errW_some] <;> rfl)) | (simp [*, errW_none, errW_some] <;> rfl), by (with_reducible repeat (first | apply Kd.R_alloc | apply Kd.R_drewN | apply Kd.R_drew)); exact Kd.R_mono (Kd.R_far (p := ⟨gb202, 2, none⟩) (Kd.R_far (p := ⟨gb202, 1, none⟩) (Kd.R_far (p := ⟨gb202, 0, none⟩) (Kd.R_mono HO244.out (fun k_ hk => (⟨hk, hk.2⟩ : _ ∧ k_ ≠ gb202))) (fun _ hk => hk.2) (.bool t240)) (fun _ hk => hk.2) (.string t241)) (fun _ hk => hk.2) (.slice Ao208 t242.length co208)) (fun _ hk => trivial), by repeat (first | (with_reducible first | exact HB.out | apply below_alloc | apply pw_below_drewN | apply below_drew1 | refine below_set ?_ GE202.out) | exact HB.out)⟩
                 ·rw [if_neg c202] at H
                  exact absurd H (by simp)
                ·rw [if_neg c199] at H
                 exact absurd H (by simp)
               ·rw [if_neg c198] at H
                exact absurd H (by simp)
              ·rw [if_neg c197] at H
               exact absurd H (by simp)
            ·rw [if_neg c193] at H
             have c193b0 : ((bt a0 x12_1) == 58) = false := beq_eq_false_iff_ne.mpr c193
             have c193b1 : ((bt a0 x12_1) != 58) = true := bne_iff_ne.mpr c193
             simp only [Option.some.injEq, Prod.mk.injEq] at H
             obtain ⟨rfl, rfl, rfl, rfl, rfl⟩ := H
             have p58 : 0 ≤ (x12_1 : Int) := of_decide_eq_true (by first | (with_reducible assumption) | assumption)
             have q58 : x12_1 < (a0.size : Int) := of_decide_eq_true (by first | (with_reducible assumption) | assumption)
             have hx58 := bt_at a0 x12_1
             replace p58 := eq_true p58
             replace q58 := eq_true q58
             have p192 : 0 ≤ (x12_1 : Int) := of_decide_eq_true (by first | (with_reducible assumption) | assumption)
             have q192 : x12_1 < (a0.size : Int) := of_decide_eq_true (by first | (with_reducible assumption) | assumption)
             have hx192 := bt_at a0 x12_1
             replace p192 := eq_true p192
             replace q192 := eq_true q192
             have hcz210_0 : wr.cell? ⟨gb202, 0, none⟩ = some (.bool false) := (blk_cell BK202.out 0).trans rfl
             have hcz210_1 : wr.cell? ⟨gb202, 1, none⟩ = some (.string (⟨#[]⟩ : ByteArray)) := (blk_cell BK202.out 1).trans rfl
             have hcz210_2 : wr.cell? ⟨gb202, 2, none⟩ = some (.slice none 0 0) := (blk_cell BK202.out 2).trans rfl
             have hfz210_0 := blk_frozen BK202.out 0
             have hfz210_1 := blk_frozen BK202.out 1
             have hfz210_2 := blk_frozen BK202.out 2
             go_wp2
             refine bodyPost_ret (results_ctt rfl _ _ gb202 24 #[.bool false, .string (⟨#[]⟩ : ByteArray), .slice none 0 0] (0, 0) _ rfl (by repeat (first | (with_reducible refine blk_drewN ?_ _) | (with_reducible refine blk_drew ?_) | (with_reducible refine blk_alloc ?_ _) | exact BK202.out | refine blk_put (cs := #[.bool false, .string (⟨#[]⟩ : ByteArray), .slice none 0 0]) ?_ _ _ rfl)) Tryd.underlying24 rfl (by kernel_rfl)) rfl ?_
             exact ⟨_, rfl, Kd.R_nil _ _ _ _ _, by repeat (first | (with_reducible first | exact HB.out | apply below_alloc | apply pw_below_drewN | apply below_drew1 | refine below_set ?_ GE202.out) | exact HB.out)⟩
       ·rw [if_neg c57] at H
        exact absurd H (by simp)
      ·rw [if_neg c56] at H
       have c56b0 : decide (x12_1 < (a0.size : Int)) = false := decide_eq_false c56
       clear c56
       by_cases c211 : x12_1 = 0
       ·rw [if_pos c211] at H
        have c211b0 : (x12_1 == 0) = true := beq_iff_eq.mpr c211
        have c211b1 : (x12_1 != 0) = false := bne_eq_false_iff_eq.mpr c211
        clear c211
        simp only [Option.some.injEq, Prod.mk.injEq] at H
        obtain ⟨rfl, rfl, rfl, rfl, rfl⟩ := H
        have hcz212_0 : wr.cell? ⟨gb202, 0, none⟩ = some (.bool false) := (blk_cell BK202.out 0).trans rfl
        have hcz212_1 : wr.cell? ⟨gb202, 1, none⟩ = some (.string (⟨#[]⟩ : ByteArray)) := (blk_cell BK202.out 1).trans rfl
        have hcz212_2 : wr.cell? ⟨gb202, 2, none⟩ = some (.slice none 0 0) := (blk_cell BK202.out 2).trans rfl
        have hfz212_0 := blk_frozen BK202.out 0
        have hfz212_1 := blk_frozen BK202.out 1
        have hfz212_2 := blk_frozen BK202.out 2
        go_wp2
        refine bodyPost_ret (results_ctt rfl _ _ gb202 24 #[.bool false, .string (⟨#[]⟩ : ByteArray), .slice none 0 0] (0, 0) _ rfl (by repeat (first | (with_reducible refine blk_drewN ?_ _) | (with_reducible refine blk_drew ?_) | (with_reducible refine blk_alloc ?_ _) | exact BK202.out | refine blk_put (cs := #[.bool false, .string (⟨#[]⟩ : ByteArray), .slice none 0 0]) ?_ _ _ rfl)) Tryd.underlying24 rfl (by kernel_rfl)) rfl ?_
        exact ⟨_, rfl, Kd.R_nil _ _ _ _ _, by repeat (first | (with_reducible first | exact HB.out | apply below_alloc | apply pw_below_drewN | apply below_drew1 | refine below_set ?_ GE202.out) | exact HB.out)⟩
       ·rw [if_neg c211] at H
        have c211b0 : (x12_1 == 0) = false := beq_eq_false_iff_ne.mpr c211
        have c211b1 : (x12_1 != 0) = true := bne_iff_ne.mpr c211
        by_cases c213 : x12_1 > 1
        ·rw [if_pos c213] at H
         have c213b0 : decide (1 < x12_1) = true := decide_eq_true c213
         clear c213
         by_cases c214 : 0 < (a0.size : Int)
         ·rw [if_pos c214] at H
          have c214b0 : decide (0 < (a0.size : Int)) = true := decide_eq_true c214
          have c214b1 : decide (0 < a0.size) = true := decide_eq_true (by omega)
          clear c214
          by_cases c216 : (bt a0 0) = 48
          ·rw [if_pos c216] at H
           have c216b0 : ((bt a0 0) == 48) = true := beq_iff_eq.mpr c216
           have c216b1 : ((bt a0 0) != 48) = false := bne_eq_false_iff_eq.mpr c216
           clear c216
           simp only [Option.some.injEq, Prod.mk.injEq] at H
           obtain ⟨rfl, rfl, rfl, rfl, rfl⟩ := H
           have p215 : 0 ≤ (0 : Int) := (by omega)
           have q215 : 0 < a0.size := (by have : (0 : Int) < (a0.size : Int) := of_decide_eq_true (by first | (with_reducible assumption) | assumption); omega)
           have hx215 : ∀ h : 0 < a0.size, ((a0[0]'h).toNat : Int) = bt a0 0 := bt_at a0 0
           clear p215
           have qi215 : (0 < (a0.size : Int)) = True := eq_true (of_decide_eq_true (by first | (with_reducible assumption) | assumption))
           replace q215 := eq_true q215
           have hcz217_0 : wr.cell? ⟨gb202, 0, none⟩ = some (.bool false) := (blk_cell BK202.out 0).trans rfl
           have hcz217_1 : wr.cell? ⟨gb202, 1, none⟩ = some (.string (⟨#[]⟩ : ByteArray)) := (blk_cell BK202.out 1).trans rfl
           have hcz217_2 : wr.cell? ⟨gb202, 2, none⟩ = some (.slice none 0 0) := (blk_cell BK202.out 2).trans rfl
           have hfz217_0 := blk_frozen BK202.out 0
           have hfz217_1 := blk_frozen BK202.out 1
           have hfz217_2 := blk_frozen BK202.out 2
           go_wp2
           refine bodyPost_ret (results_ctt rfl _ _ gb202 24 #[.bool false, .string (⟨#[]⟩ : ByteArray), .slice none 0 0] (0, 0) _ rfl (by repeat (first | (with_reducible refine blk_drewN ?_ _) | (with_reducible refine blk_drew ?_) | (with_reducible refine blk_alloc ?_ _) | exact BK202.out | refine blk_put (cs := #[.bool false, .string (⟨#[]⟩ : ByteArray), .slice none 0 0]) ?_ _ _ rfl)) Tryd.underlying24 rfl (by kernel_rfl)) rfl ?_
           exact ⟨_, rfl, Kd.R_nil _ _ _ _ _, by repeat (first | (with_reducible first | exact HB.out | apply below_alloc | apply pw_below_drewN | apply below_drew1 | refine below_set ?_ GE202.out) | exact HB.out)⟩
          ·rw [if_neg c216] at H
           have c216b0 : ((bt a0 0) == 48) = false := beq_eq_false_iff_ne.mpr c216
           have c216b1 : ((bt a0 0) != 48) = true := bne_iff_ne.mpr c216
           by_cases c218 : x12_1 ≥ (a0.size : Int)
           ·rw [if_pos c218] at H
            have c218b0 : decide ((a0.size : Int) ≤ x12_1) = true := decide_eq_true c218
            clear c218
            simp only [Option.some.injEq, Prod.mk.injEq] at H
            obtain ⟨rfl, rfl, rfl, rfl, rfl⟩ := H
            have p215 : 0 ≤ (0 : Int) := (by omega)
            have q215 : 0 < a0.size := (by have : (0 : Int) < (a0.size : Int) := of_decide_eq_true (by first | (with_reducible assumption) | assumption); omega)
            have hx215 : ∀ h : 0 < a0.size, ((a0[0]'h).toNat : Int) = bt a0 0 := bt_at a0 0
            clear p215
            have qi215 : (0 < (a0.size : Int)) = True := eq_true (of_decide_eq_true (by first | (with_reducible assumption) | assumption))
            replace q215 := eq_true q215
            have hcz219_0 : wr.cell? ⟨gb202, 0, none⟩ = some (.bool false) := (blk_cell BK202.out 0).trans rfl
            have hcz219_1 : wr.cell? ⟨gb202, 1, none⟩ = some (.string (⟨#[]⟩ : ByteArray)) := (blk_cell BK202.out 1).trans rfl
            have hcz219_2 : wr.cell? ⟨gb202, 2, none⟩ = some (.slice none 0 0) := (blk_cell BK202.out 2).trans rfl
            have hfz219_0 := blk_frozen BK202.out 0
            have hfz219_1 := blk_frozen BK202.out 1
            have hfz219_2 := blk_frozen BK202.out 2
            go_wp2
            refine bodyPost_ret (results_ctt rfl _ _ gb202 24 #[.bool false, .string (⟨#[]⟩ : ByteArray), .slice none 0 0] (0, 0) _ rfl (by repeat (first | (with_reducible refine blk_drewN ?_ _) | (with_reducible refine blk_drew ?_) | (with_reducible refine blk_alloc ?_ _) | exact BK202.out | refine blk_put (cs := #[.bool false, .string (⟨#[]⟩ : ByteArray), .slice none 0 0]) ?_ _ _ rfl)) Tryd.underlying24 rfl (by kernel_rfl)) rfl ?_
            exact ⟨_, rfl, Kd.R_nil _ _ _ _ _, by repeat (first | (with_reducible first | exact HB.out | apply below_alloc | apply pw_below_drewN | apply below_drew1 | refine below_set ?_ GE202.out) | exact HB.out)⟩
           ·rw [if_neg c218] at H
            have c218b0 : decide ((a0.size : Int) ≤ x12_1) = false := decide_eq_false c218
            clear c218
            by_cases c220 : 0 ≤ x12_1
            ·rw [if_pos c220] at H
             exact absurd H (by simp)
            ·rw [if_neg c220] at H
             exact absurd H (by simp)
         ·rw [if_neg c214] at H
          exact absurd H (by simp)
        ·rw [if_neg c213] at H
         have c213b0 : decide (1 < x12_1) = false := decide_eq_false c213
         clear c213
         by_cases c221 : x12_1 ≥ (a0.size : Int)
         ·rw [if_pos c221] at H
          have c221b0 : decide ((a0.size : Int) ≤ x12_1) = true := decide_eq_true c221
          clear c221
          simp only [Option.some.injEq, Prod.mk.injEq] at H
          obtain ⟨rfl, rfl, rfl, rfl, rfl⟩ := H
          have hcz222_0 : wr.cell? ⟨gb202, 0, none⟩ = some (.bool false) := (blk_cell BK202.out 0).trans rfl
          have hcz222_1 : wr.cell? ⟨gb202, 1, none⟩ = some (.string (⟨#[]⟩ : ByteArray)) := (blk_cell BK202.out 1).trans rfl
          have hcz222_2 : wr.cell? ⟨gb202, 2, none⟩ = some (.slice none 0 0) := (blk_cell BK202.out 2).trans rfl
          have hfz222_0 := blk_frozen BK202.out 0
          have hfz222_1 := blk_frozen BK202.out 1
          have hfz222_2 := blk_frozen BK202.out 2
          go_wp2
          refine bodyPost_ret (results_ctt rfl _ _ gb202 24 #[.bool false, .string (⟨#[]⟩ : ByteArray), .slice none 0 0] (0, 0) _ rfl (by repeat (first | (with_reducible refine blk_drewN ?_ _) | (with_reducible refine blk_drew ?_) | (with_reducible refine blk_alloc ?_ _) | exact BK202.out | refine blk_put (cs := #[.bool false, .string (⟨#[]⟩ : ByteArray), .slice none 0 0]) ?_ _ _ rfl)) Tryd.underlying24 rfl (by kernel_rfl)) rfl ?_
          exact ⟨_, rfl, Kd.R_nil _ _ _ _ _, by repeat (first | (with_reducible first | exact HB.out | apply below_alloc | apply pw_below_drewN | apply below_drew1 | refine below_set ?_ GE202.out) | exact HB.out)⟩
         ·rw [if_neg c221] at H
          have c221b0 : decide ((a0.size : Int) ≤ x12_1) = false := decide_eq_false c221
          clear c221
          by_cases c223 : 0 ≤ x12_1
          ·rw [if_pos c223] at H
           exact absurd H (by simp)
          ·rw [if_neg c223] at H
           exact absurd H (by simp)
  ·rw [if_neg c6] at H
   exact absurd H (by simp)

end Go.Proofs.YtehghdmfdinpjaaDoor.PAll
