/- Tree: Cut. -/
import Derived.Test.YtkmbkgjfhjjicaaTC
namespace Go.Proofs.YtkmbkgjfhjjicaaT
open Go.RowKit Go.Maps Go.Proofs Go.Proofs.YtkmbkgjfhjjicaaW.PrintWords Go.Proofs.YtkmbkgjfhjjicaaW.PrintLast

theorem least {P : Nat → Prop} (h : ∃ n, P n) : ∃ n, P n ∧ ∀ m, P m → n ≤ m := by
  obtain ⟨n, hn⟩ := h
  induction n using Nat.strongRecOn with
  | _ n ih =>
    by_cases h : ∃ m, m < n ∧ P m
    · obtain ⟨m, hm, hp⟩ := h
      exact ih m hm hp
    · exact ⟨n, hn, fun m hm => Nat.le_of_not_lt (fun hl => h ⟨m, hl, hm⟩)⟩
open Classical in
noncomputable def leastN (P : Nat → Prop) : Nat := if h : ∃ n, P n then Classical.choose (least h) else 0
theorem leastN_spec {P : Nat → Prop} (h : ∃ n, P n) : P (leastN P) := by
  unfold leastN
  rw [dif_pos h]
  exact (Classical.choose_spec (least h)).1
theorem leastN_le {P : Nat → Prop} {n : Nat} (h : P n) : leastN P ≤ n := by
  unfold leastN
  rw [dif_pos ⟨n, h⟩]
  exact (Classical.choose_spec (least ⟨n, h⟩)).2 n h
theorem shrink_cases {k : Nat} {S S' : Pg} {r r' : Nat} (h : shrinkF (k + 1) S r = some (S', r')) :
    ∃ leaf items, S.f r = some (some ⟨leaf, items⟩) ∧ okN ⟨leaf, items⟩ = true ∧ (((leaf = true ∨ (leaf = false ∧ 1 < items.length)) ∧ S' = S ∧ r' = r) ∨ (leaf = false ∧ ∃ x, items = [x] ∧ shrinkF k (S.cut r) x.child = some (S', r'))) := by
  rw [shrinkF] at h
  obtain ⟨⟨leaf, items⟩, hg, h⟩ := Option.bind_eq_some_iff.1 h
  obtain ⟨h1, h2⟩ := get_spec hg
  refine ⟨leaf, items, h1, h2, ?_⟩
  simp only at h
  split at h
  · rename_i hc
    cases h
    refine .inl ⟨?_, rfl, rfl⟩
    cases leaf
    · exact .inr ⟨rfl, by simpa using hc⟩
    · exact .inl rfl
  · rename_i hc
    cases leaf
    · refine .inr ⟨rfl, ?_⟩
      simp only [Bool.false_or, decide_eq_true_eq] at hc
      match items, hc, h with
      | [], _, h => cases h
      | [x], _, h => exact ⟨x, rfl, h⟩
      | x :: y :: l, hc, _ => exact absurd (by simp) hc
    · exact absurd rfl hc
def ShrinkAt (w : World) (pp mb : Nat) (S' : Pg) (r' : Nat) (rv : Value) (wr : World) (n : Nat) : Prop :=
  ∃ (r : Nat) (Sr : Pg), rv = .int .i64 (r : Int) ∧ r < 9000000000 ∧ shrinkF n Sr r = some (S', r') ∧ PgAt wr pp mb Sr.nx Sr.F ∧ Keep w wr (farP pp mb)
theorem cutRoot_cases {S S' : Pg} {root r' : Nat} {key : ByteArray} {fd : Bool} (h : cutRoot S root key = some (S', r', fd)) :
    (root = 0 ∧ S' = S ∧ r' = 0 ∧ fd = false) ∨ (root ≠ 0 ∧ ∃ S1 fd1, ((cutF 100 S root key = some (S1, fd1, true) ∧ S' = S1 ∧ r' = 0 ∧ fd = true) ∨ (cutF 100 S root key = some (S1, fd, false) ∧ shrinkF 100 S1 root = some (S', r')))) := by
  unfold cutRoot at h
  split at h
  · cases h
    exact .inl ⟨by assumption, rfl, rfl, rfl⟩
  · rename_i h0
    refine .inr ⟨h0, ?_⟩
    obtain ⟨⟨S1, fd1, em⟩, h1, h2⟩ := Option.bind_eq_some_iff.1 h
    simp only at h2
    cases em with
    | true =>
      rw [if_pos rfl] at h2
      cases h2
      exact ⟨_, _, .inl ⟨h1, rfl, rfl, rfl⟩⟩
    | false =>
      rw [if_neg Bool.false_ne_true] at h2
      obtain ⟨⟨S2, r2⟩, h3, h4⟩ := Option.map_eq_some_iff.1 h2
      cases h4
      exact ⟨_, false, .inr ⟨h1, h3⟩⟩
set_option maxHeartbeats 4000000 in
set_option maxRecDepth 100000 in
theorem Cut_calls {pp mb : Nat} {w : World} {S S' : Pg} {root r' : Nat} {key : ByteArray} {fd : Bool} (h : cutRoot S root key = some (S', r', fd)) (hp : PgAt w pp mb S.nx S.F) (hpk : root < 9000000000) :
    Calls Try.prog 8 #[pgv pp, .int .i64 (root : Int), .string key] w fun e w' => e = .returned (.tuple #[.int .i64 (r' : Int), .bool fd, .nilIface]) ∧ PgAt w' pp mb S'.nx S'.F ∧ Keep w w' (farP pp mb) := by
  have hm2 := meth_free ⟨pp, 0, none⟩
  have HP := Lib.hid hp
  have HLT := Lib.hid hp.lt
  have hcs := cutRoot_cases h
  clear h hp
  go_enter Try.func8, Try.ntmps8
  rcases hcs with ⟨rfl, rfl, rfl, rfl⟩ | ⟨h0, S1, fd1, ⟨hc, rfl, rfl, rfl⟩ | ⟨hc, hs⟩⟩
  · go_wp2_with fail
    go_ret3
    exact ⟨rfl, HP.out, Keep.refl _ _⟩
  · have HC := Lib.hid hc
    have h0' : ¬ ((root : Int) = 0) := by omega
    clear hc
    go_wp2_with (first | (go_at_call 15; refine ((cut_calls 100).use HC.out HP.out hpk).mono ?_; rintro e w7 ⟨rfl, hp7, hk7⟩; have HP7 := Lib.hid hp7; have HK7 := Lib.hid hk7; clear hp7 hk7))
    go_ret3
    exact ⟨rfl, HP7.out, HK7.out⟩
  · have HC := Lib.hid hc
    have HS := Lib.hid hs
    have h0' : ¬ ((root : Int) = 0) := by omega
    clear hc hs
    go_wp2_with (first | (go_at_call 15; refine ((cut_calls 100).use HC.out HP.out hpk).mono ?_; rintro e w7 ⟨rfl, hp7, hk7⟩; have HP7 := Lib.hid hp7; have HK7 := Lib.hid hk7; clear hp7 hk7))
    clear h0 h0'
    go_loopw [1] (fun rv wr => Hid (∃ n, ShrinkAt w pp mb S' r' rv wr n)) (fun rv wr => leastN (ShrinkAt w pp mb S' r' rv wr))
    case atStart => exact Lib.hid ⟨100, root, S1, rfl, hpk, HS.out, HP7.out, HK7.out⟩
    case round =>
      have hN := leastN_spec hrel.out
      obtain ⟨n, hn⟩ : ∃ n, n = leastN (ShrinkAt w pp mb S' r' u1 wr) := ⟨_, rfl⟩
      rw [← hn] at hN
      obtain ⟨r, Sr, rfl, hr9, hsr, hpr, hkr⟩ := hN
      cases n with
      | zero => cases hsr
      | succ k =>
        obtain ⟨leaf, items, hf, hok, hway⟩ := shrink_cases hsr
        have hne : items ≠ [] := by
          rintro rfl
          simp [okN] at hok
        obtain ⟨ln, hln⟩ : ∃ ln, ln = items.length := ⟨_, rfl⟩
        have HN := Lib.hid hn
        have HF := Lib.hid (And.intro hf hok)
        have HLN := Lib.hid hln
        have HPR := Lib.hid hpr
        have HKR := Lib.hid hkr
        have HWAY := Lib.hid hway
        clear hn hf hok hln hpr hkr hrel hsr hway
        go_upto_region 9 with (first | (go_at_call 16; refine (load_calls HPR.out hr9 ⟨leaf, items⟩ HF.out.2 (Pg.at_F HF.out.1)).mono ?_; rintro e w1 ⟨v, rfl, hr1, hb1⟩; obtain ⟨gi, c, rfl, hlc, hgi⟩ := hr1.some hne; obtain ⟨A, c', hv, _, hit⟩ := hr1.reads; cases hv; simp only; rw [← HLN.out] at hlc hr1 ⊢; have HR1 := Lib.hid hr1; have HB1 := Lib.hid hb1; have HI1 := Lib.hid hit; clear hr1 hb1 hit))
        obtain ⟨g9, hg9⟩ : ∃ g9, g9 = w1.heap.size := ⟨_, rfl⟩
        obtain ⟨w2, hw2⟩ : ∃ w2, w2 = w1.alloc (.cells #[.bool leaf, .slice (some ⟨gi, 0, none⟩) ln c] 56) := ⟨_, rfl⟩
        have hb2 : Below w1.heap.size w1 w2 := by rw [hw2]; exact below_alloc (Below.refl _ _) _
        have BX2 := Lib.hid (show w2.heap[g9]? = some (.cells #[.bool leaf, .slice (some ⟨gi, 0, none⟩) ln c] 56 (0, 0)) by rw [hw2, hg9]; exact blk_new _ _)
        rw [← hw2, ← hg9]
        have HI2 := Lib.hid (HI1.out.below hb2)
        have hbr := HB1.out.trans (hb2.mono HB1.out.size)
        have HP2 := Lib.hid (HPR.out.below hbr)
        have HK2 := Lib.hid (HKR.out.trans (Keep.of_below hbr))
        have hlt := HPR.out.lt
        have hsz := HB1.out.size
        have HFG := Lib.hid (show farP pp mb g9 from ⟨by omega, by omega⟩)
        clear hg9 hw2 hb2 hbr hlt hsz
        have c0 := (blk_cell BX2.out 0).trans rfl
        have c1 := (blk_cell BX2.out 1).trans rfl
        rcases HWAY.out with ⟨hw, rfl, rfl⟩ | ⟨rfl, x, rfl, hs2⟩
        · rcases hw with rfl | ⟨rfl, h1⟩
          · go_wp2_with fail
            go_ret3
            exact ⟨rfl, HP2.out, HK2.out⟩
          · rw [← HLN.out] at h1
            have h1' : (1 : Int) < (ln : Int) := by omega
            go_wp2_with fail
            go_ret3
            exact ⟨rfl, HP2.out, HK2.out⟩
        · obtain rfl : ln = 1 := HLN.out
          have HS2 := Lib.hid hs2
          obtain ⟨-, -, y2⟩ := HI2.out.key (i := 0) (x := x) rfl
          simp only [Nat.zero_mul, Nat.zero_add] at y2
          have hch : x.child < 9000000000 := by have := okN_child HF.out.2 (i := 0) (x := x) rfl; omega
          clear hs2
          go_wp2_with (first | (go_at_call 44; refine (free_calls HP2.out hr9 (Pg.at_F HF.out.1)).mono ?_; rintro e w10 ⟨rfl, hp10, hk10⟩; have HP10 := Lib.hid hp10; have HK10 := Lib.hid hk10; clear hp10 hk10; have BX10 := Lib.hid (HK10.out.heap BX2.out (HFG.out.1)); clear c0 c1; have c1 := (blk_cell BX10.out 1).trans rfl; have y3 := HK10.out.cell y2 (show gi ≠ mb by have := (World.ownsRow.lt HR1.out gi rfl).1; have := HPR.out.lt; omega); clear y2))
          have hnew : ShrinkAt w pp mb S' r' (.int .i64 (x.child : Int)) w10 k := ⟨x.child, Sr.cut r, rfl, hch, HS2.out, by rw [Pg.cut_F]; exact HP10.out, HK2.out.trans (HK10.out.mono (fun _ _ h => And.left h))⟩
          refine ⟨Lib.hid ⟨k, hnew⟩, Nat.lt_of_le_of_lt (leastN_le hnew) ?_⟩
          rw [← HN.out]
          exact Nat.lt_succ_self k
#print axioms Cut_calls
end Go.Proofs.YtkmbkgjfhjjicaaT
