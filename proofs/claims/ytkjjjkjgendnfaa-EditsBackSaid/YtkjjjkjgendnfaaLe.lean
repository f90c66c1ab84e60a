/- tambourref02.Least: what it computes. -/
import Derived.Test.YtkjjjkjgendnfaaCl
import Derived.Deep.DeepCutAuto
import Derived.Deep.QuietTactic
import Derived.BigQuiet
namespace Go.Proofs.YtkjjjkjgendnfaaR
open Go.RowKit Go.Proofs.YtkjjjkjgendnfaaE Go.Proofs.YtkjjjkjgendnfaaW.PrintWords
theorem infoInt : (Try.prog.info? 3).map (fun i => (i.zero, i.size, i.bytes)) = some (some (.int .i64 0), 1, 8) := by kernel_rfl

theorem ret_int' {k : IntKind} {a b : Int} (h : a = b) : Ending.returned (.int k a) = .returned (.int k b) := by rw [h]
/-- The row of numbers in memory. -/
structure NRow (w wr : World) (g n : Nat) (row : List Int) : Prop where
  own : wr.ownsRow w.heap.size 3 1 (.slice (some ⟨g, 0, none⟩) n n) n (nums .i64 row)
  len : row.length = n
  below : Below w.heap.size w wr
  gb : w.heap.size ≤ g
theorem NRow.at_ {w wr : World} {g n : Nat} {row : List Int} (h : NRow w wr g n row) (j : Nat) (hj : j < n) : wr.cell? ⟨g, j, none⟩ = some (.int .i64 (row.getD j 0)) ∧ wr.frozen? ⟨g, j, none⟩ = false := by
  have := own_at h.own (j : Int) (by omega) (by omega)
  simpa [rd] using this
theorem NRow.store {w wr : World} {g n : Nat} {row : List Int} (h : NRow w wr g n row) (j : Nat) (x : Int) : NRow w (wr.setCell ⟨g, j, none⟩ (.int .i64 x)) g n (row.set j x) := by
  have := own_store h.own (j : Int) x
  rw [Int.toNat_natCast] at this
  exact ⟨this.1, by simp [h.len], below_set h.below h.gb, h.gb⟩
theorem NRow.drewN {w wr : World} {g n : Nat} {row : List Int} (h : NRow w wr g n row) (q : Nat) : NRow w (wr.drewN q) g n row := ⟨h.own, h.len, pw_below_drewN h.below q, h.gb⟩

set_option maxRecDepth 100000 in
set_option maxHeartbeats 1000000 in
theorem least_calls (A0 A1 : Option Addr) (a b : List ByteArray) (c0 c1 : Nat) (w : World) (hr0 : Kd.C Kd.string w A0 a.length a) (hr1 : Kd.C Kd.string w A1 b.length b) (ha : a.length ≤ 8796093022208) (hb : b.length ≤ 8796093022208) :
    Calls Try.prog 11 #[.slice A0 a.length c0, .slice A1 b.length c1] w fun e w' => e = .returned (.int .i64 (leastL a b)) ∧ Below w.heap.size w w' := by
  have HR0 := Lib.hid hr0
  have HR1 := Lib.hid hr1
  clear hr0 hr1
  have hmk := print_make (P := Try.prog) 47 3 .i64 8 Try.underlying47 infoInt (by decide) (b.length + 1) (by omega)
  have ec : ((b.length + 1 : Nat) : Int) = (b.length : Int) + 1 := by omega
  rw [ec] at hmk
  clear ec
  have N0 : Hid (NRow w (w.alloc (.cells (madeCells #[.int .i64 0] (b.length + 1)) 3)) w.heap.size (b.length + 1) (List.replicate (b.length + 1) 0)) :=
    Lib.hid ⟨own_made w w.heap.size 3 .i64 (b.length + 1) (Nat.le_refl _) (by omega), by simp, below_alloc (Below.refl _ _) _, Nat.le_refl _⟩
  go_enter Try.func11, Try.ntmps11
  go_wp2
  generalize (w.alloc (.cells (madeCells #[.int .i64 0] (b.length + 1)) 3)) = w1 at *
  generalize hg : w.heap.size = g at N0 ⊢
  have HG := Lib.hid hg
  clear hg
  go_loopw [6] (fun v wr => ∃ (j r : Nat) (L : List Int), v = .int .i64 j ∧ j ≤ b.length + 1 ∧ Hid (initGo r j L = initGo (b.length + 1) 0 (List.replicate (b.length + 1) 0)) ∧ Hid (j + r = b.length + 1) ∧ Hid (NRow w wr g (b.length + 1) L) ∧ Hid (Within L b.length))
    (fun v _ => b.length + 1 - (intOf v).toNat)
  case atStart => exact ⟨0, b.length + 1, _, rfl, Nat.zero_le _, Lib.hid rfl, Lib.hid (by omega), N0, Lib.hid (Within.zeros _ (by omega))⟩
  case round =>
    clear N0
    obtain ⟨j, r, L, rfl, hj, HI, HJ, HN, HW⟩ := hrel
    by_cases hlt : j < b.length + 1
    · obtain ⟨r, rfl⟩ : ∃ r', r = r' + 1 := ⟨r - 1, by have := HJ.out; omega⟩
      have hlt' : (j : Int) < (b.length : Int) + 1 := by omega
      obtain ⟨x0, x1⟩ := HN.out.at_ j hlt
      go_wp2
      go_roundw
      case rel => exact ⟨j + 1, r, L.set j (j : Int), rfl, by omega, HI, Lib.hid (by have := HJ.out; omega), Lib.hid (HN.out.store j _), Lib.hid (HW.out.set (by omega) (by omega) j)⟩
      case measure => simp [intOf]; omega
    · have hlt' : ¬ (j : Int) < (b.length : Int) + 1 := by omega
      obtain rfl : r = 0 := by have := HJ.out; omega
      have HL : Hid (leastGo a b a.length 0 L = leastGo a b a.length 0 (initGo (b.length + 1) 0 (List.replicate (b.length + 1) 0))) := Lib.hid (by rw [← HI.out]; rfl)
      go_wp2
      go_loopw [7] (fun v wr => ∃ (i r : Nat) (L : List Int), v = .int .i64 i ∧ i ≤ a.length ∧ Hid (leastGo a b r i L = leastGo a b a.length 0 (initGo (b.length + 1) 0 (List.replicate (b.length + 1) 0))) ∧ Hid (i + r = a.length) ∧ Hid (NRow w wr g (b.length + 1) L) ∧ Hid (Within L ((b.length : Int) + i)))
        (fun v _ => a.length - (intOf v).toNat)
      case atStart => exact ⟨0, a.length, L, rfl, Nat.zero_le _, HL, Lib.hid (by omega), HN, Lib.hid (by simpa using HW.out)⟩
      case round =>
        clear HI HJ HN HW HL hlt hlt' hj
        obtain ⟨i, r, L, rfl, hi, HL, HR, HN, HW⟩ := hrel
        by_cases hlt : i < a.length
        · obtain ⟨r, rfl⟩ : ∃ r', r = r' + 1 := ⟨r - 1, by have := HR.out; omega⟩
          obtain ⟨x0, x1⟩ := HN.out.at_ 0 (by omega)
          have w0 := HW.out 0
          generalize hz : L.getD 0 0 = z0 at x0 w0
          have HZ := Lib.hid hz
          clear hz
          obtain ⟨w1', w2'⟩ := w0
          go_wp2
          have HT : Hid (rowGo a b i b.length 0 (L.set 0 ((i : Int) + 1)) z0 = rowGo a b i b.length 0 (L.set 0 ((i : Int) + 1)) (L.getD 0 0)) := Lib.hid (by rw [HZ.out])
          have HN2 := Lib.hid (HN.out.store 0 ((i : Int) + 1))
          have HW2 := Lib.hid ((HW.out.mono (M' := (b.length : Int) + i + 1) (by omega)).set (v := (i : Int) + 1) (by omega) (by omega) 0)
          have HU : Hid (∀ p, 0 < p → (L.set 0 ((i : Int) + 1)).getD p 0 ≤ (b.length : Int) + i) := Lib.hid (fun p hp => by
            rw [List.getD_eq_getElem?_getD, List.getElem?_set_ne (by omega), ← List.getD_eq_getElem?_getD]
            exact (HW.out p).2)
          obtain ⟨wo, rfl⟩ : ∃ wo : World, wo = wr := ⟨_, rfl⟩
          go_loopw [8, 9] (fun vo vj wr => ∃ (j r : Nat) (M : List Int) (old : Int), vo = .int .i64 old ∧ vj = .int .i64 j ∧ j ≤ b.length ∧ Hid (rowGo a b i r j M old = rowGo a b i b.length 0 (L.set 0 ((i : Int) + 1)) (L.getD 0 0)) ∧ Hid (j + r = b.length) ∧ Hid (NRow w wr g (b.length + 1) M) ∧ Hid (Within M ((b.length : Int) + i + 1)) ∧
              Hid (∀ p, j < p → M.getD p 0 ≤ (b.length : Int) + i) ∧ Hid (0 ≤ old ∧ old ≤ (b.length : Int) + i))
            (fun _ vj _ => b.length - (intOf vj).toNat)
          case atStart => exact ⟨0, b.length, _, z0, rfl, rfl, Nat.zero_le _, HT, Lib.hid (by omega), HN2, HW2, HU, Lib.hid ⟨w1', w2'⟩⟩
          case round =>
            clear HT HN2 HW2 HU x0 x1
            obtain ⟨j, r2, M, old, rfl, rfl, hj, HT, HJ, HN2, HW2, HU, HO⟩ := hrel
            by_cases hltj : j < b.length
            · obtain ⟨r2, rfl⟩ : ∃ r', r2 = r' + 1 := ⟨r2 - 1, by have := HJ.out; omega⟩
              obtain ⟨x0, x1⟩ := HN2.out.at_ j (by omega)
              obtain ⟨y0, y1⟩ := HN2.out.at_ (j + 1) (by omega)
              have u0 := HW2.out j
              have u1 := (HW2.out (j + 1)).1
              have u2 := HU.out (j + 1) (by omega)
              generalize hl : M.getD j 0 = left at x0 u0
              generalize hu : M.getD (j + 1) 0 = up at y0 u1 u2
              have HLf := Lib.hid hl
              have HUp := Lib.hid hu
              clear hl hu
              obtain ⟨u3, u4⟩ := u0
              obtain ⟨o0, o1⟩ := HO.out
              obtain ⟨ad0, e0, s0⟩ := Kd.at_string HR0.out (i : Int) (by omega) (by omega)
              obtain ⟨ad1, e1, s1⟩ := Kd.at_string HR1.out (j : Int) (by omega) (by omega)
              replace s0 := (HN2.out.below.cell (World.block_lt_of_cell? w _ s0)).trans s0
              replace s1 := (HN2.out.below.cell (World.block_lt_of_cell? w _ s1)).trans s1
              cases e0
              cases e1
              rw [Int.toNat_natCast] at s0 s1
              have hij : (i : Int) < a.length := by omega
              have hjj : (j : Int) < b.length := by omega
              have hj1 : (j : Int) + 1 < (b.length : Int) + 1 := by omega
              have hal : ((rdOf ByteArray.empty a (i : Int)).toList == (rdOf ByteArray.empty b (j : Int)).toList) = alike a b i j := by simp [alike, rdOf]
              generalize hA : alike a b i j = al at hal
              have HA := Lib.hid hA
              clear hA
              have fin : ∀ (x : Int) (q : Nat), x = cellV al old up left → ∃ (j_1 r : Nat) (M_1 : List Int) (old_1 : Int), Value.int .i64 up = .int .i64 old_1 ∧ Value.int .i64 ((j : Int) + 1) = .int .i64 j_1 ∧ j_1 ≤ b.length ∧ Hid (rowGo a b i r j_1 M_1 old_1 = rowGo a b i b.length 0 (L.set 0 ((i : Int) + 1)) (L.getD 0 0)) ∧ Hid (j_1 + r = b.length) ∧
                  Hid (NRow w ((wr.drewN q).setCell ⟨g, j + 1, none⟩ (.int .i64 x)) g (b.length + 1) M_1) ∧ Hid (Within M_1 ((b.length : Int) + i + 1)) ∧ Hid (∀ p, j_1 < p → M_1.getD p 0 ≤ (b.length : Int) + i) ∧ Hid (0 ≤ old_1 ∧ old_1 ≤ (b.length : Int) + i) := by
                intro x q hx
                have hb := cellV_bounds (al := al) (old := old) (up := up) (left := left) (M := (b.length : Int) + i + 1) (by omega) (by omega) (by omega) (by omega) (by omega)
                rw [← hx] at hb
                refine ⟨j + 1, r2, M.set (j + 1) x, up, rfl, rfl, by omega, Lib.hid ?_, Lib.hid (by have := HJ.out; omega), Lib.hid ((HN2.out.drewN q).store (j + 1) x), Lib.hid (HW2.out.set hb.1 hb.2 _), Lib.hid ?_, Lib.hid ⟨u1, u2⟩⟩
                · rw [← HT.out, rowGo, HLf.out, HUp.out, HA.out, hx]
                · intro p hp
                  rw [List.getD_eq_getElem?_getD, List.getElem?_set_ne (by omega), ← List.getD_eq_getElem?_getD]
                  exact HU.out p (by omega)
              have FIN := Lib.hid fin
              clear fin
              go_wp2
              go_quiet (fail)
              cases al with
              | true =>
                go_wp2
                go_roundw
                case rel => exact FIN.out _ _ (by simp [cellV])
                case measure => simp [intOf]; omega
              | false =>
                by_cases hul : up < left
                · go_wp2
                  go_roundw
                  case rel => exact FIN.out _ _ (by simp [cellV, hul])
                  case measure => simp [intOf]; omega
                · go_wp2
                  go_roundw
                  case rel => exact FIN.out _ _ (by simp [cellV, hul])
                  case measure => simp [intOf]; omega
            · obtain rfl : r2 = 0 := by have := HJ.out; omega
              have hM : M = rowGo a b i b.length 0 (L.set 0 ((i : Int) + 1)) (L.getD 0 0) := HT.out
              have HMM := Lib.hid hM
              clear hM
              go_wp2
              go_roundw
              case rel => exact ⟨i + 1, r, M, rfl, by omega, Lib.hid (by rw [← HL.out, leastGo, HMM.out]), Lib.hid (by have := HR.out; omega), HN2, Lib.hid (HW2.out.mono (by omega))⟩
              case measure => simp [intOf]; omega
        · obtain rfl : r = 0 := by have := HR.out; omega
          obtain ⟨x0, x1⟩ := HN.out.at_ b.length (by omega)
          go_wp2
          go_ret
          refine ⟨ret_int' ?_, ?_⟩
          · have := HL.out
            simp only [leastGo] at this
            rw [this]
            rfl
          · rw [← HG.out] at *
            exact HN.out.below
#print axioms least_calls
end Go.Proofs.YtkjjjkjgendnfaaR
