/- The document's Knots walked. -/
import Derived.Test.YtgbeigippahbaaaKE
namespace Go.Proofs.YtgbeigippahbaaaK
open Go.RowKit Go.Proofs Go.Proofs.YtgbeigippahbaaaW.PrintWords Go.Proofs.YtgbeigippahbaaaW.PrintLast

theorem comes_at {w : World} {A : Option Addr} {c ln N : Nat} {n : Int} {es : List Edge} (hE : EdgesAt w A es) (hn : n ≤ 2000) (hN : N = n.toNat) (hl : ln = es.length) (he : ln ≤ 100000) : Calls Try.prog 19 #[.int .i64 n, .slice A ln c] w (ComesEnd w N es) := by
  subst hl hN
  exact comes_calls n es hE hn he
theorem getD_append_left' {L M : List Nat} {i : Nat} (h : i < L.length) : (L ++ M).getD i 0 = L.getD i 0 := by
  rw [List.getD_eq_getElem?_getD, List.getD_eq_getElem?_getD, List.getElem?_append_left h]
theorem getD_snoc_last' {L : List Nat} {v : Nat} : (L ++ [v]).getD L.length 0 = v := by
  rw [List.getD_eq_getElem?_getD, List.getElem?_append_right (Nat.le_refl _), Nat.sub_self]
  rfl
set_option maxRecDepth 100000 in
set_option maxHeartbeats 4000000 in
theorem refknots_calls {w : World} {A : Option Addr} {c : Nat} (n : Int) (es : List Edge) (hE : EdgesAt w A es) (hn : n ≤ 2000) (hes : es.length ≤ 100000) :
    Calls Try.prog 12 #[.int .i64 n, .slice A es.length c] w (KEnd w n.toNat es) := by
  obtain ⟨N, hN⟩ : ∃ N, N = n.toNat := ⟨_, rfl⟩
  obtain ⟨ln, hln⟩ : ∃ ln, ln = es.length := ⟨_, rfl⟩
  rw [← hN, ← hln]
  have HLN := Lib.hid hln
  have HN := Lib.hid hN
  have HE := Lib.hid hE
  have HNb := Lib.hid hn
  have hNb : N ≤ 2000 := by omega
  have HLb := Lib.hid (show ln ≤ 100000 by omega)
  have HI := Lib.hid (show ∀ i : Nat, i < N → (i : Int) < n ∧ n = (N : Int) from fun i hi => by omega)
  have HI' := Lib.hid (show ∀ i : Nat, ¬ i < N → decide ((i : Int) < n) = false from fun i hi => decide_eq_false (by omega))
  clear hN hln hE hn hes
  go_enter Try.func12, Try.ntmps12
  go_wp2_with (first | (go_at_call 19; refine (comes_at HE.out HNb.out HN.out HLN.out HLb.out).mono ?_; rintro e w1 ⟨hb, vc, r, rfl, hm⟩; have HB1 := Lib.hid hb; have MC := Lib.hid hm; clear hb hm))
  obtain ⟨WM, hWM⟩ : ∃ WM, WM = war (edgeM N es) N := ⟨_, rfl⟩
  rw [← hWM] at MC
  have HWM := Lib.hid hWM
  clear hWM
  go_loopw [6, 7] (fun v a wr => ∃ (i : Nat) (L : List Nat), a = .int .i64 (i : Int) ∧ i ≤ N ∧ Hid (L.length = i) ∧ Hid (∀ j, j < i → LeastK WM j (L.getD j 0)) ∧ Hid (wr.ownsRow w1.heap.size 3 1 v i (L.map iv)) ∧ Hid (Below w1.heap.size w1 wr)) (fun _ a _ => N - (intOf a).toNat)
  case atStart => exact ⟨0, [], rfl, by omega, Lib.hid rfl, Lib.hid (fun j hj => by cases hj), Lib.hid (World.ownsRow_nil _ _ _ _), Lib.hid (Below.refl _ _)⟩
  case round =>
    obtain ⟨i, L, rfl, hi, LL, LK, OW, B1⟩ := hrel
    by_cases hiN : i < N
    · as_aux_lemma =>
      obtain ⟨hin, rfl⟩ := HI.out i hiN
      have di : decide ((i : Int) < (N : Int)) = true := decide_eq_true hin
      have hwi : IntKind.i64.wrap ((i : Int) + 1) = ((i + 1 : Nat) : Int) := by rw [IntWalk.i64_in _ (by omega)]; rfl
      have M1 := Lib.hid (MC.out.below B1.out)
      obtain ⟨gm, cm, rfl, _⟩ := M1.out.at (by omega)
      have Z1 := Lib.hid B1.out.size
      obtain ⟨wo, hwo⟩ : ∃ wo, wo = wr := ⟨_, rfl⟩
      rw [← hwo] at M1 OW B1 Z1 ⊢
      clear hwo
      go_wp2_with fail
      go_loopw [8] (fun a wx => ∃ k : Nat, a = .int .i64 (k : Int) ∧ k ≤ i ∧ wo = wx ∧ Hid (∀ m, m < k → ¬ m = i ∧ ¬ (WM i m = true ∧ WM m i = true))) (fun a _ => i - (intOf a).toNat)
      case atStart => exact ⟨0, rfl, by omega, rfl, Lib.hid (fun m hm => by cases hm)⟩
      case round =>
        obtain ⟨k, rfl, hk, rfl, HK⟩ := hrel
        have hkN : k < N := by omega
        by_cases hki : k = i
        · as_aux_lemma =>
          have LS := Lib.hid (show LeastK WM i k from ⟨.inl hki, HK.out⟩)
          subst hki
          skip
          go_wp2_with (first | ((with_reducible refine gate_dst (N := 44) rfl ?_); refine print_append_cells (w0 := wo) (W := wo) w1.heap.size rfl (.tmp 41) (.tmp 43) 24 3 _ 1 8 rfl Try.underlying24 infoInt rfl (by decide) (by decide) u6 k (L.map iv) [iv k] rfl rfl rfl (by simp [Value.oneCell']) OW.out (Below.refl _ _) Z1.out (by omega) ?_; intro v1 w6 hown hbe hg hat; have OW6 := Lib.hid hown; have B6 := Lib.hid (B1.out.trans hbe); clear hown hbe hg hat))
          go_roundw
          case rel =>
            refine ⟨k + 1, L ++ [k], (by first | trivial | go_num), by omega, Lib.hid (by rw [List.length_append, LL.out]; rfl), Lib.hid (fun j hj => ?_), Lib.hid (by rw [List.map_append]; exact OW6.out), B6⟩
            by_cases e : j < k
            · rw [getD_append_left' (by rw [LL.out]; exact e)]
              exact LK.out j e
            · have ej : j = k := by omega
              have : (L ++ [k]).getD k 0 = k := by have := getD_snoc_last' (L := L) (v := k); rw [LL.out] at this; exact this
              rw [ej, this]
              exact LS.out
          case measure => simp [intOf]; omega
        · have hlt : k < i := by omega
          have dki : decide ((k : Int) = (i : Int)) = false := decide_eq_false (by omega)
          have dki' : ((k : Int) != (i : Int)) = true := by simp; omega
          have hwk : IntKind.i64.wrap ((k : Int) + 1) = ((k + 1 : Nat) : Int) := by rw [IntWalk.i64_in _ (by omega)]; rfl
          have ri := M1.out.rows hiN
          have rk := M1.out.rows hkN
          have bi := M1.out.bit hiN hkN
          have bk := M1.out.bit hkN hiN
          cases hb1 : WM i k with
          | false =>
            as_aux_lemma =>
            rw [hb1] at bi
            have HK' := Lib.hid (show ∀ m, m < k + 1 → ¬ m = i ∧ ¬ (WM i m = true ∧ WM m i = true) from fun m hm => by
              by_cases e : m = k
              · rw [e]; exact ⟨hki, fun h => by rw [hb1] at h; cases h.1⟩
              · exact HK.out m (by omega))
            clear hb1 hki
            go_wp2_with fail
            go_roundw
            case rel => exact ⟨k + 1, (by first | trivial | go_num), by omega, (by trivial), HK'⟩
            case measure => simp [intOf]; omega
          | true =>
            rw [hb1] at bi
            cases hb2 : WM k i with
            | false =>
              as_aux_lemma =>
              rw [hb2] at bk
              have HK' := Lib.hid (show ∀ m, m < k + 1 → ¬ m = i ∧ ¬ (WM i m = true ∧ WM m i = true) from fun m hm => by
                by_cases e : m = k
                · rw [e]; exact ⟨hki, fun h => by rw [hb2] at h; cases h.2⟩
                · exact HK.out m (by omega))
              clear hb1 hb2 hki
              go_wp2_with fail
              go_roundw
              case rel => exact ⟨k + 1, (by first | trivial | go_num), by omega, (by trivial), HK'⟩
              case measure => simp [intOf]; omega
            | true =>
              as_aux_lemma =>
              rw [hb2] at bk
              have LS := Lib.hid (show LeastK WM i k from ⟨.inr ⟨hb1, hb2⟩, HK.out⟩)
              clear hb1 hb2 hki
              skip
              go_wp2_with (first | ((with_reducible refine gate_dst (N := 44) rfl ?_); refine print_append_cells (w0 := wo) (W := wo) w1.heap.size rfl (.tmp 41) (.tmp 43) 24 3 _ 1 8 rfl Try.underlying24 infoInt rfl (by decide) (by decide) u6 i (L.map iv) [iv k] rfl rfl rfl (by simp [Value.oneCell']) OW.out (Below.refl _ _) Z1.out (by omega) ?_; intro v1 w6 hown hbe hg hat; have OW6 := Lib.hid hown; have B6 := Lib.hid (B1.out.trans hbe); clear hown hbe hg hat))
              go_roundw
              case rel =>
                refine ⟨i + 1, L ++ [k], (by first | trivial | go_num), by omega, Lib.hid (by rw [List.length_append, LL.out]; rfl), Lib.hid (fun j hj => ?_), Lib.hid (by rw [List.map_append]; exact OW6.out), B6⟩
                by_cases e : j < i
                · rw [getD_append_left' (by rw [LL.out]; exact e)]
                  exact LK.out j e
                · have ej : j = i := by omega
                  have : (L ++ [k]).getD i 0 = k := by have := getD_snoc_last' (L := L) (v := k); rw [LL.out] at this; exact this
                  rw [ej, this]
                  exact LS.out
              case measure => simp [intOf]; omega
    · as_aux_lemma =>
      have di := HI'.out i hiN
      obtain rfl : N = i := by omega
      obtain ⟨Al, cl, rfl⟩ : ∃ A c, u6 = .slice A N c := by
        rcases OW.out.2 with ⟨e, h1⟩ | ⟨g', cap', cur, e, _⟩
        · exact ⟨_, _, by rw [e, h1]⟩
        · exact ⟨_, _, e⟩
      go_wp2_with fail
      go_ret
      refine ⟨HB1.out.trans (B1.out.mono HB1.out.size), Al, cl, L, rfl, LL.out, fun k hk => ?_, leastK_knots LL.out (fun j hj => by rw [← HWM.out]; exact LK.out j hj)⟩
      rw [LL.out] at hk
      obtain ⟨g, c, hv, _⟩ := OW.out.form (by omega)
      injection hv with hv
      refine ⟨g, hv, ?_⟩
      have := OW.out
      rw [hv] at this
      exact own_at this hk LL.out
#print axioms refknots_calls
end Go.Proofs.YtgbeigippahbaaaK
