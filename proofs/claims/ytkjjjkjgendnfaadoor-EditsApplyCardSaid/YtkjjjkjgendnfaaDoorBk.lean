/- edits.back: the steps of a way, read out of a trail of maps. -/
import Derived.Test.YtkjjjkjgendnfaaDoorRev
import Derived.Test.YtkjjjkjgendnfaaDoorEdP
namespace Go.Proofs.YtkjjjkjgendnfaaDoorR
open Go.RowKit Go.Proofs.YtkjjjkjgendnfaaDoorM Go.Proofs.YtkjjjkjgendnfaaDoorE Go.Proofs.YtkjjjkjgendnfaaDoorW.PrintWords

def mapsOf (bs : List Nat) : List Value := bs.map fun b => .map (some b)
theorem wf64 {k : Int} (h1 : -9223372036854775808 ≤ k) (h2 : k ≤ 9223372036854775807) : (Lit.int .i64 k).wf = true := WalkArith.wf_i64 ⟨h1, h2⟩
theorem zeroInt (w : World) : (zeroValue 3).run Tryd.prog w = .ok (.int .i64 0) w := by kernel_rfl
theorem infoStep : (Tryd.prog.info? 70).map (fun i => (i.zero, i.size, i.bytes)) = some (some (.agg #[.int .i64 0, .int .i64 0, .bool false]), 3, 24) := by kernel_rfl
abbrev MF := MapF Tryd.prog 3 3

theorem decB_first {far : Int → Int} {k d : Int} (h : (k == -d) = true) : decB far k d = true := by simp [decB, h]
theorem decB_last {far : Int → Int} {k d : Int} (h : (k == -d) = false) (h' : (k != d) = false) : decB far k d = false := by simp [decB, h, h']
theorem decB_mid {far : Int → Int} {k d : Int} (h : (k == -d) = false) (h' : (k != d) = true) : decB far k d = decide (far (k - 1) < far (k + 1)) := by simp [decB, h, h']

set_option maxRecDepth 100000 in
set_option maxHeartbeats 1000000 in
theorem back_calls (base : Nat) (v : Value) (bs : List Nat) (F : Nat → Int → Int) (A0 A1 : Option Addr) (la lb c0 c1 D : Nat) (w : World)
    (ho : w.ownsRow base 67 1 v bs.length (mapsOf bs)) (hm : ∀ i b, bs[i]? = some b → ∃ n, MF w b n (F i)) (hF : ∀ i k, 0 ≤ F i k ∧ F i k ≤ 1000000000000000)
    (ha : la ≤ 1000000000000000) (hb : lb ≤ 1000000000000000) (hD : D ≤ 100) (hD' : D < bs.length) :
    Calls Tryd.prog 26 #[v, .slice A0 la c0, .slice A1 lb c1, .int .i64 D] w fun e w' => ∃ v', e = .returned v' ∧ w'.ownsRow w.heap.size 70 3 v' (backL F D la lb []).length (flat (backL F D la lb []).reverse) ∧ Below w.heap.size w w' := by
  obtain ⟨g, cap, hv⟩ : ∃ g cap, v = .slice (some ⟨g, 0, none⟩) bs.length cap := by
    rcases ho.2 with ⟨rfl, h0⟩ | ⟨g, cap, cur, rfl, _⟩
    · omega
    · exact ⟨g, cap, rfl⟩
  subst hv
  have hbs : (D : Int) < bs.length := by omega
  have hgw : g < w.heap.size := (ho.lt g rfl).2
  go_enter Tryd.func26, Tryd.ntmps26
  go_wp2
  go_loopw [3, 9, 10, 11] (fun d l x y wr => ∃ (d' : Nat) (x' y' : Int) (m : List St), d = .int .i64 d' ∧ d' ≤ D ∧ x = .int .i64 x' ∧ y = .int .i64 y' ∧ 0 ≤ x' ∧ x' ≤ 1000000000000000 ∧ y' ≤ ((D : Int) - d' + 1) * 1000000000000001 ∧ -(((D : Int) - d' + 1) * 1000000000000001) ≤ y' ∧
      Hid (backL F d' x' y' m = backL F D la lb []) ∧ Hid (m.length + d' = D) ∧ wr.ownsRow w.heap.size 70 3 l m.length (flat m) ∧ Below w.heap.size w wr)
    (fun d _ _ _ _ => (intOf d).toNat)
  case atStart => exact ⟨D, la, lb, [], rfl, Nat.le_refl _, rfl, rfl, by omega, by omega, by omega, by omega, Lib.hid rfl, Lib.hid (by simp), World.ownsRow_nil _ _ _ _, Below.refl _ _⟩
  case round =>
    obtain ⟨d', x', y', m, rfl, hd, rfl, rfl, hx0, hx1, hy1, hy0, HB, HL, hown, hbe⟩ := hrel
    cases d' with
    | zero =>
      have hm0 : m = backL F D la lb [] := HB.out
      have hml : m.length ≤ 1000000 := by have := HL.out; omega
      have HM := Lib.hid hm0
      clear hm0
      go_wp2_with (go_at_call 29; refine (reverse_calls _ _ m _ hown hml).mono ?_; rintro e w1 ⟨rfl, hr, hg⟩)
      go_ret
      refine ⟨_, rfl, ?_, ?_⟩
      · rw [← HM.out]
        exact hr
      · exact hbe.grown hg hbe.size (fun k hk => (hown.lt k hk).1)
    | succ d' =>
      obtain ⟨b, hb'⟩ : ∃ b, bs[d' + 1]? = some b := ⟨_, List.getElem?_eq_getElem (by omega)⟩
      obtain ⟨n, hmf⟩ := hm _ _ hb'
      have hcell : wr.cell? ⟨g, d' + 1, none⟩ = some (.map (some b)) := by
        have h1 := ho.cellAt (d' + 1) (by omega)
        rw [hbe.cell (p := ⟨g, d' + 1, none⟩) hgw, h1]
        simp [mapsOf, hb']
      have hmr : MF wr b n (F (d' + 1)) := hmf.below hbe (hmf.lt)
      have hf1 := hF (d' + 1) (x' - y' - 1)
      have hf2 := hF (d' + 1) (x' - y' + 1)
      have hd2 : ((d' : Int) + 1) < bs.length := by omega
      have hd3 : (d' : Int) + 1 ≤ 100 := by omega
      have hml : m.length ≤ 1000000 := by have := HL.out; omega
      have HBS := Lib.hid hb'
      clear hb' hmf
      have fin : ∀ (x2 y2 : Int) (p : Bool) (v1 : Value) (w1 : World), backL F (d' + 1) x' y' m = backL F d' x2 y2 (m ++ [(x2, y2, p)]) → 0 ≤ x2 → x2 ≤ 1000000000000000 → y2 ≤ x2 - (x' - y') + 1 → x2 - (x' - y') - 1 ≤ y2 →
          w1.ownsRow w.heap.size 70 3 v1 (m.length + 1) (flat m ++ [.int .i64 x2, .int .i64 y2, .bool p]) → Below w.heap.size w w1 →
          ∃ (d'_1 : Nat) (x'_1 y'_1 : Int) (m_1 : List St), Value.int .i64 (d' : Int) = .int .i64 d'_1 ∧ d'_1 ≤ D ∧ Value.int .i64 x2 = .int .i64 x'_1 ∧ Value.int .i64 y2 = .int .i64 y'_1 ∧ 0 ≤ x'_1 ∧ x'_1 ≤ 1000000000000000 ∧ y'_1 ≤ ((D : Int) - d'_1 + 1) * 1000000000000001 ∧ -(((D : Int) - d'_1 + 1) * 1000000000000001) ≤ y'_1 ∧
            Hid (backL F d'_1 x'_1 y'_1 m_1 = backL F D la lb []) ∧ Hid (m_1.length + d'_1 = D) ∧ w1.ownsRow w.heap.size 70 3 v1 m_1.length (flat m_1) ∧ Below w.heap.size w w1 := by
        intro x2 y2 p v1 w1 e h0 h1 h2 h3 how hbw
        refine ⟨d', x2, y2, m ++ [(x2, y2, p)], rfl, by omega, rfl, rfl, h0, h1, by omega, by omega, Lib.hid (e.symm.trans HB.out), Lib.hid (by have := HL.out; simp; omega), ?_, hbw⟩
        rw [flat_append, List.length_append]
        exact how
      have FIN := Lib.hid fin
      clear fin
      have r1 := hmr.lookup Tryd.underlying3 Tryd.underlying3 Tryd.underlying67 zeroInt (x' - y' - 1) (wf64 (by omega) (by omega))
      have r2 := hmr.lookup Tryd.underlying3 Tryd.underlying3 Tryd.underlying67 zeroInt (x' - y' + 1) (wf64 (by omega) (by omega))
      by_cases c1 : (x' - y' == -((d' : Int) + 1)) = true
      · go_wp2_with (first | (at_builtin; refine print_append_cells (w0 := w) w.heap.size rfl (.tmp 67) (.tmp 72) 48 70 _ 3 24 rfl Tryd.underlying48 infoStep rfl (by decide) (by decide) _ m.length (flat m) [.int .i64 (F (d' + 1) (x' - y' + 1)), .int .i64 (F (d' + 1) (x' - y' + 1) - (x' - y') - 1), .bool true] rfl rfl rfl (by simp [Value.oneCell']) hown hbe hbe.size (by omega) ?_; intro v1 w1 hown1 hbe1 hg1 hat1))
        go_roundw
        case rel => exact FIN.out _ _ true v1 w1 (backL_put (decB_first c1)) (by omega) (by omega) (by omega) (by omega) hown1 hbe1
        case measure => simp [intOf]
      · have c1' : (x' - y' == -((d' : Int) + 1)) = false := by simpa using c1
        clear c1
        by_cases c2 : (x' - y' != (d' : Int) + 1) = true
        · by_cases c3 : decide (F (d' + 1) (x' - y' - 1) < F (d' + 1) (x' - y' + 1)) = true
          · go_wp2_with (first | (at_builtin; refine print_append_cells (w0 := w) w.heap.size rfl (.tmp 67) (.tmp 72) 48 70 _ 3 24 rfl Tryd.underlying48 infoStep rfl (by decide) (by decide) _ m.length (flat m) [.int .i64 (F (d' + 1) (x' - y' + 1)), .int .i64 (F (d' + 1) (x' - y' + 1) - (x' - y') - 1), .bool true] rfl rfl rfl (by simp [Value.oneCell']) hown hbe hbe.size (by omega) ?_; intro v1 w1 hown1 hbe1 hg1 hat1))
            go_roundw
            case rel => exact FIN.out _ _ true v1 w1 (backL_put ((decB_mid c1' c2).trans c3)) (by omega) (by omega) (by omega) (by omega) hown1 hbe1
            case measure => simp [intOf]
          · have c3' : decide (F (d' + 1) (x' - y' - 1) < F (d' + 1) (x' - y' + 1)) = false := by simpa using c3
            clear c3
            go_wp2_with (first | (at_builtin; refine print_append_cells (w0 := w) w.heap.size rfl (.tmp 67) (.tmp 72) 48 70 _ 3 24 rfl Tryd.underlying48 infoStep rfl (by decide) (by decide) _ m.length (flat m) [.int .i64 (F (d' + 1) (x' - y' - 1)), .int .i64 (F (d' + 1) (x' - y' - 1) - (x' - y') + 1), .bool false] rfl rfl rfl (by simp [Value.oneCell']) hown hbe hbe.size (by omega) ?_; intro v1 w1 hown1 hbe1 hg1 hat1))
            go_roundw
            case rel => exact FIN.out _ _ false v1 w1 (backL_cut ((decB_mid c1' c2).trans c3')) (by omega) (by omega) (by omega) (by omega) hown1 hbe1
            case measure => simp [intOf]
        · have c2' : (x' - y' != (d' : Int) + 1) = false := by simpa using c2
          clear c2
          go_wp2_with (first | (at_builtin; refine print_append_cells (w0 := w) w.heap.size rfl (.tmp 67) (.tmp 72) 48 70 _ 3 24 rfl Tryd.underlying48 infoStep rfl (by decide) (by decide) _ m.length (flat m) [.int .i64 (F (d' + 1) (x' - y' - 1)), .int .i64 (F (d' + 1) (x' - y' - 1) - (x' - y') + 1), .bool false] rfl rfl rfl (by simp [Value.oneCell']) hown hbe hbe.size (by omega) ?_; intro v1 w1 hown1 hbe1 hg1 hat1))
          go_roundw
          case rel => exact FIN.out _ _ false v1 w1 (backL_cut (decB_last c1' c2')) (by omega) (by omega) (by omega) (by omega) hown1 hbe1
          case measure => simp [intOf]

#print axioms back_calls
end Go.Proofs.YtkjjjkjgendnfaaDoorR
