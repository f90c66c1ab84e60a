/- tambourlaw02.awake returns true. -/
import Derived.Test.YtkjjjkjgendnfaaDoorAwP
import Derived.Test.YtkjjjkjgendnfaaDoorDf
namespace Go.Proofs.YtkjjjkjgendnfaaDoorR
open Go.RowKit Go.Proofs.YtkjjjkjgendnfaaDoorE Go.Proofs.YtkjjjkjgendnfaaDoorW.PrintWords

/-- A row of lines that was written out, read. -/
theorem lit_C (w w1 : World) (l : List ByteArray) (hl : l.length ≤ 9223372036854775807) (hb : Below (w.heap.size + 1) (w.alloc (.cells (l.map Value.string).toArray 9)) w1) :
    Kd.C Kd.string w1 (some ⟨w.heap.size, 0, none⟩) l.length l := by
  have h1 : (w.alloc (.cells (l.map Value.string).toArray 9)).ownsRow w.heap.size 9 1 (.slice (some ⟨w.heap.size, 0, none⟩) l.length l.length) l.length (encs Value.string l) := by
    have := World.ownsRow_lit w (l.map Value.string).toArray (base := w.heap.size) (e := 9) (size := 1) l.length (Nat.le_refl _) (by simpa [maxLen] using hl) (by simp)
    simpa [encs] using this
  have h2 : Kd.R Kd.string 9 (w.alloc (.cells (l.map Value.string).toArray 9)) w.heap.size (fun _ => True) (.slice (some ⟨w.heap.size, 0, none⟩) l.length l.length) l := Kd.R_of_own h1 (fun _ _ => trivial)
  obtain ⟨A, c, hv, _, hC⟩ := Kd.R_reads h2
  injection hv with hA
  subst hA
  exact Kd.C_below hC (by
    have : (w.alloc (.cells (l.map Value.string).toArray 9)).heap.size = w.heap.size + 1 := by simp
    rw [this]
    exact hb)

set_option maxRecDepth 100000 in
set_option maxHeartbeats 1000000 in
theorem awake_calls (w : World) : Calls Tryd.prog 4 #[] w fun e w' => e = .returned (.bool true) ∧ Below w.heap.size w w' := by
  have hC0 : Kd.C Kd.string ((w.alloc (.cells #[.string ⟨#[97]⟩, .string ⟨#[98]⟩, .string ⟨#[99]⟩] 9)).alloc (.cells #[.string ⟨#[97]⟩, .string ⟨#[120]⟩, .string ⟨#[99]⟩] 9)) (some ⟨w.heap.size, 0, none⟩) awA.length awA :=
    lit_C w _ awA (by decide) ((Below.refl _ _).alloc (by simp) _)
  have hC1 : Kd.C Kd.string ((w.alloc (.cells #[.string ⟨#[97]⟩, .string ⟨#[98]⟩, .string ⟨#[99]⟩] 9)).alloc (.cells #[.string ⟨#[97]⟩, .string ⟨#[120]⟩, .string ⟨#[99]⟩] 9)) (some ⟨w.heap.size + 1, 0, none⟩) awB.length awB := by
    have := lit_C (w.alloc (.cells #[.string ⟨#[97]⟩, .string ⟨#[98]⟩, .string ⟨#[99]⟩] 9)) _ awB (by decide) (Below.refl _ _)
    rw [World.size_alloc] at this
    exact this
  have hB2 := below_alloc (below_alloc (Below.refl w.heap.size w) (.cells #[.string ⟨#[97]⟩, .string ⟨#[98]⟩, .string ⟨#[99]⟩] 9)) (.cells #[.string ⟨#[97]⟩, .string ⟨#[120]⟩, .string ⟨#[99]⟩] 9)
  have H0 := Lib.hid hC0
  have H1 := Lib.hid hC1
  have HB := Lib.hid hB2
  clear hC0 hC1 hB2
  go_enter Tryd.func4, Tryd.ntmps4
  go_wp2_with fail
  refine (diff_calls _ _ awA awB 3 3 _ H0.out (by decide) H1.out (by decide) (by decide) (by decide) aw_ok).mono ?_
  rintro e w1 ⟨v, ps, rfl, hr, hb⟩
  rw [aw_diff] at hr
  obtain ⟨ips, p, rfl⟩ := HRow.parts (init := []) hr
  have hr' : HRow w1 _ v ([] ++ [((1 : Int), (1 : Int), [(⟨#[120]⟩ : ByteArray)])]) (ips ++ [p]) := hr
  obtain ⟨g, cap, rfl, hg0, hg1, z0, z1, z2, zf⟩ := hr'.last
  have hlen := hr'.len
  obtain rfl : ips = [] := by simpa using hlen
  have hp := hr'.puts 0 _ p rfl rfl
  obtain ⟨A2, c2, rfl⟩ := own_slice hp
  obtain ⟨g2, cap2, hv2, _, _⟩ := World.ownsRow.form hp (by decide)
  have hA2 : A2 = some ⟨g2, 0, none⟩ := by injection hv2
  subst hA2
  have y0 := hp.cellAt 0 (by decide)
  have y0' : w1.cell? ⟨g2, 0, none⟩ = some (.string ⟨#[120]⟩) := y0
  have hBe := below_then HB.out HB.out.size hb
  have HB2 := Lib.hid hBe
  clear hv2 hr hr' hp hlen zf hb hBe y0
  simp only [List.length_nil, Nat.zero_mul, Nat.zero_add] at z0 z1 z2
  go_wp2
  go_ret
  exact ⟨rfl, HB2.out⟩
#print axioms awake_calls
end Go.Proofs.YtkjjjkjgendnfaaDoorR
