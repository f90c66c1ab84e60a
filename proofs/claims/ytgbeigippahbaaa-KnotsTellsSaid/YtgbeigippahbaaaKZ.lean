/- KnotsTells walked. -/
import Derived.Test.YtgbeigippahbaaaKJ
import Derived.Test.YtgbeigippahbaaaKF
namespace Go.Proofs.YtgbeigippahbaaaK
open Go.RowKit Go.Proofs Go.Proofs.YtgbeigippahbaaaW.PrintWords Go.Proofs.YtgbeigippahbaaaW.PrintLast

theorem knots_at' {w : World} {A : Option Addr} {c ln N : Nat} {n : Int} {es : List Edge} (hE : EdgesAt w A es) (hn : n ≤ 2000) (hN : N = n.toNat) (hl : ln = es.length) (he : ln ≤ 100000) : Calls Try.prog 11 #[.int .i64 n, .slice A ln c] w (KEnd w N es) := by
  subst hl hN
  exact knots_any n es hE (by omega) (by omega)
theorem sort_at' {w : World} {A : Option Addr} {c ln N : Nat} {n : Int} {es : List Edge} (hE : EdgesAt w A es) (hn : n ≤ 2000) (hN : N = n.toNat) (hl : ln = es.length) (he : ln ≤ 100000) : Calls Try.prog 8 #[.int .i64 n, .slice A ln c] w (SEnd w N es) := by
  subst hl hN
  exact sort_any n es hE (by omega) (by omega)
theorem refknots_at {w : World} {A : Option Addr} {c ln N : Nat} {n : Int} {es : List Edge} (hE : EdgesAt w A es) (hn : n ≤ 2000) (hN : N = n.toNat) (hl : ln = es.length) (he : ln ≤ 100000) : Calls Try.prog 12 #[.int .i64 n, .slice A ln c] w (KEnd w N es) := by
  subst hl hN
  exact refknots_calls n es hE hn he
theorem refsort_at {w : World} {A : Option Addr} {c ln N : Nat} {n : Int} {es : List Edge} (hE : EdgesAt w A es) (hn : n ≤ 2000) (hN : N = n.toNat) (hl : ln = es.length) (he : ln ≤ 100000) : Calls Try.prog 9 #[.int .i64 n, .slice A ln c] w (SEnd w N es) := by
  subst hl hN
  exact refsort_calls n es hE hn he
set_option maxRecDepth 100000 in
set_option maxHeartbeats 4000000 in
theorem tells_calls {w : World} {A : Option Addr} {c : Nat} (n : Int) (es : List Edge) (hE : EdgesAt w A es) :
    Calls Try.prog 3 #[.int .i64 n, .slice A es.length c] w (LawEnd w) := by
  obtain ⟨ln, hln⟩ : ∃ ln, ln = es.length := ⟨_, rfl⟩
  have HLN := Lib.hid hln
  have HE := Lib.hid hE
  rw [← hln]
  clear hE hln
  by_cases hg : 60 < n ∨ 300 < ln
  · have hd : (decide (n > 60) = true) ∨ (decide (n > 60) = false ∧ decide ((ln : Int) > 300) = true) := by
      simp only [decide_eq_true_eq, decide_eq_false_iff_not]
      omega
    clear hg
    rcases hd with d1 | ⟨d1, d2⟩
    all_goals
      go_enter Try.func3, Try.ntmps3
      go_wp2_with (first | (go_at_call 7; refine (awake_calls _).mono ?_; rintro e w1 ⟨rfl, hb⟩))
      go_ret
      exact ⟨rfl, by first | assumption | exact hb⟩
  · have d1 : decide (n > 60) = false := decide_eq_false (by omega)
    have d2 : decide ((ln : Int) > 300) = false := decide_eq_false (by omega)
    obtain ⟨N, hN⟩ : ∃ N, N = n.toNat := ⟨_, rfl⟩
    have HN := Lib.hid hN
    have HNb := Lib.hid (show n ≤ 2000 by omega)
    have HLb := Lib.hid (show ln ≤ 100000 by omega)
    have HNs := Lib.hid (show N ≤ 1000000 by omega)
    clear hg hN
    go_enter Try.func3, Try.ntmps3
    go_wp2_with (first | (go_at_call 7; refine (awake_calls _).mono ?_; rintro e w1 ⟨rfl, hb⟩; have HB1 := Lib.hid hb; have E1 := Lib.hid (HE.out.below hb); clear hb) | (go_at_call 8; refine (sort_at' E1.out HNb.out HN.out HLN.out HLb.out).mono ?_; rintro e w2 ⟨hb, A2, c2, L, ok, rfl, hLat, hL⟩; have B2 := Lib.hid (HB1.out.trans (hb.mono HB1.out.size)); have E2 := Lib.hid (E1.out.below hb); have LA := Lib.hid hLat; have LR := Lib.hid hL; have LLn := Lib.hid (Nat.le_trans hL.len HNs.out); clear hb hLat hL) | (go_at_call 9; refine (refsort_at E2.out HNb.out HN.out HLN.out HLb.out).mono ?_; rintro e w3 ⟨hb, A3, c3, L', ok', rfl, hLat, hL⟩; obtain ⟨rfl, rfl⟩ := hL.unique LR.out; have B3 := Lib.hid (B2.out.trans (hb.mono B2.out.size)); have E3 := Lib.hid (E2.out.below hb); have LA3 := Lib.hid (LA.out.below hb); have LA' := Lib.hid hLat; clear hb hLat hL) | (go_at_call 11; refine (knots_at' E3.out HNb.out HN.out HLN.out HLb.out).mono ?_; rintro e w4 ⟨hb, A4, c4, K, rfl, hKl, hKat, hK⟩; have B4 := Lib.hid (B3.out.trans (hb.mono B3.out.size)); have E4 := Lib.hid (E3.out.below hb); have LA4 := Lib.hid (LA3.out.below hb); have LA4' := Lib.hid (LA'.out.below hb); have KA := Lib.hid hKat; have KL := Lib.hid hKl; have KR := Lib.hid hK; clear hb hKat hK hKl) | (go_at_call 12; refine (refknots_at E4.out HNb.out HN.out HLN.out HLb.out).mono ?_; rintro e w5 ⟨hb, A5, c5, K', rfl, hKl, hKat, hK⟩; obtain rfl := hK.unique KR.out; have B5 := Lib.hid (B4.out.trans (hb.mono B4.out.size)); have LA5 := Lib.hid (LA4.out.below hb); have LA5' := Lib.hid (LA4'.out.below hb); have KA5 := Lib.hid (KA.out.below hb); have KA5' := Lib.hid hKat; clear hb hKat hK hKl))
    refine (sameK KA5.out KA5'.out KL.out HNs.out).mono ?_
    rintro e w6 ⟨rfl, k6, hk6⟩
    have B6 := Lib.hid (show Below w.heap.size w w6 by rw [hk6]; exact B5.out.trans (below_drewN _))
    have LA6 := Lib.hid (show NumsAt w6 A2 L' by rw [hk6]; exact LA5.out.drewN _)
    have LA6' := Lib.hid (show NumsAt w6 A3 L' by rw [hk6]; exact LA5'.out.drewN _)
    clear hk6
    go_wp2_with fail
    refine (sameK LA6.out LA6'.out rfl LLn.out).mono ?_
    rintro e w7 ⟨rfl, k7, hk7⟩
    have B7 := Lib.hid (show Below w.heap.size w w7 by rw [hk7]; exact B6.out.trans (below_drewN _))
    clear hk7
    go_wp2_with fail
    go_ret
    exact ⟨by simp, B7.out⟩
#print axioms tells_calls
end Go.Proofs.YtgbeigippahbaaaK
