/- Tree: Put. -/
import Derived.Test.YtkmbkgjfhjjicaaTJ
namespace Go.Proofs.YtkmbkgjfhjjicaaT
open Go.RowKit Go.Maps Go.Proofs Go.Proofs.YtkmbkgjfhjjicaaW.PrintWords Go.Proofs.YtkmbkgjfhjjicaaW.PrintLast

theorem grow_cases {k : Nat} {S S' : Pg} {r r' : Nat} {m : List It} (h : growF (k + 1) S r m = some (S', r')) :
    (m = [] ∧ S' = S ∧ r' = r) ∨ (m ≠ [] ∧ S.nx ≤ 60000 ∧ m.length ≤ 200 ∧ ∃ S1 m1, saveF 300 S.new (S.nx + 1) ⟨false, [⟨⟨#[]⟩, ⟨#[]⟩, r⟩] ++ m⟩ = some (S1, m1) ∧ growF k S1 (S.nx + 1) m1 = some (S', r')) := by
  rw [growF] at h
  split at h
  · rename_i he
    cases h
    exact .inl ⟨List.isEmpty_iff.1 he, rfl, rfl⟩
  · rename_i he
    split at h
    · cases h
    · rename_i h2
      obtain ⟨⟨S1, m1⟩, h3, h4⟩ := Option.bind_eq_some_iff.1 h
      exact .inr ⟨fun e => he (by rw [e]; rfl), by omega, by omega, S1, m1, h3, h4⟩
theorem putRoot_cases {S S' : Pg} {root r' : Nat} {key val : ByteArray} (h : putRoot S root key val = some (S', r')) :
    key.size ≠ 0 ∧ key.size ≤ 40 ∧ val.size ≤ 400 ∧ S.nx ≤ 60000 ∧ ((root = 0 ∧ S.new.put (S.nx + 1) ⟨true, [⟨key, val, 0⟩]⟩ = some S' ∧ r' = S.nx + 1) ∨ (root ≠ 0 ∧ ∃ S1 m1, putF 100 S root key val = some (S1, m1) ∧ growF 100 S1 root m1 = some (S', r'))) := by
  unfold putRoot at h
  split at h
  · cases h
  · rename_i h0
    refine ⟨by omega, by omega, by omega, by omega, ?_⟩
    split at h
    · rename_i hr
      obtain ⟨S2, h1, h2⟩ := Option.map_eq_some_iff.1 h
      cases h2
      exact .inl ⟨hr, h1, rfl⟩
    · rename_i hr
      obtain ⟨⟨S1, m1⟩, h1, h2⟩ := Option.bind_eq_some_iff.1 h
      exact .inr ⟨hr, S1, m1, h1, h2⟩
def GrowAt (w : World) (pp mb : Nat) (S' : Pg) (r' : Nat) (rv mv : Value) (wr : World) (n : Nat) : Prop :=
  ∃ (r : Nat) (Sr : Pg) (m : List It), rv = .int .i64 (r : Int) ∧ growF n Sr r m = some (S', r') ∧ RowI wr w.heap.size mv m ∧ PgAt wr pp mb Sr.nx Sr.F ∧ Keep w wr (farP pp mb)
theorem itsat_of {w : World} {B g n c : Nat} {l : List It} (h : RowI w B (.slice (some ⟨g, 0, none⟩) n c) l) : ItsAt w (some ⟨g, 0, none⟩) l := by
  obtain ⟨A, c', hv, _, hit⟩ := h.reads
  cases hv
  exact hit
set_option maxHeartbeats 4000000 in
set_option maxRecDepth 100000 in
theorem Put_calls {pp mb : Nat} {w : World} {S S' : Pg} {root r' : Nat} {key val : ByteArray} (h : putRoot S root key val = some (S', r')) (hp : PgAt w pp mb S.nx S.F) (hpk : root < 9000000000) :
    Calls Try.prog 6 #[pgv pp, .int .i64 (root : Int), .string key, .string val] w fun e w' => e = .returned (.tuple #[.int .i64 (r' : Int), .nilIface]) ∧ PgAt w' pp mb S'.nx S'.F ∧ Keep w w' (farP pp mb) := by
  have hm1 := meth_put ⟨pp, 0, none⟩
  have hm2 := meth_new ⟨pp, 0, none⟩
  have hm3 := nil_put ⟨pp, 0, none⟩
  have HP := Lib.hid hp
  have HLT := Lib.hid hp.lt
  obtain ⟨hk0, hk40, hv400, hnx, hcs⟩ := putRoot_cases h
  have hks : ¬ key.toList = [] := fun e => by
    have h2 : (⟨#[]⟩ : ByteArray).toList = [] := by rw [ByteArray.toList_eq]
    have h := same_iff.1 (show (key.toList == (⟨#[]⟩ : ByteArray).toList) = true by rw [e, h2]; rfl)
    rw [h] at hk0
    exact hk0 rfl
  have hks2 : key.toList.isEmpty = false := by
    cases hl : key.toList with
    | nil => exact absurd hl hks
    | cons a l => rfl
  have d1 : ¬ ((key.size : Int) > 40) := by omega
  have d2 : ¬ ((val.size : Int) > 400) := by omega
  clear h hp
  go_enter Try.func6, Try.ntmps6
  go_upto_region 3 with fail
  clear hks hks2 d1 d2
  rcases hcs with ⟨rfl, hput, rfl⟩ | ⟨h0, S1, m1, hpf, hgr⟩
  · have HALL := Lib.hid (put_all hput).1
    obtain ⟨rfl, hok, hs512, y, hy⟩ := Pg.put_spec hput
    obtain ⟨q, hq⟩ : ∃ q, q = S.nx + 1 := ⟨_, rfl⟩
    rw [← hq] at hy
    have hq9 : q < 9000000000 := by omega
    obtain ⟨s, hs⟩ : ∃ s, s = ba (encN ⟨true, [⟨key, val, 0⟩]⟩) := ⟨_, rfl⟩
    rw [← ba_size, ← hs] at hs512
    have HY := Lib.hid hy
    have HQ := Lib.hid hq
    have HS := Lib.hid hs
    clear hput hok hy hq hs hnx hk0 hk40 hv400
    go_upto_region 6 with (first | (go_at_call 46; refine (newq_calls HP.out HQ.out hq9).mono ?_; rintro e w3 ⟨rfl, hp3, hk3⟩; have HP3 := Lib.hid hp3; have HK3 := Lib.hid hk3; clear hp3 hk3))
    obtain ⟨w4, hw4⟩ : ∃ w4, w4 = w3.drew := ⟨_, rfl⟩
    have hb4 : Below w3.heap.size w3 w4 := by rw [hw4]; exact below_drew (Below.refl _ _)
    have HP4 := Lib.hid (HP3.out.below hb4)
    have HK4 := Lib.hid (HK3.out.trans (Keep.of_below hb4))
    have HW4 := Lib.hid hw4
    clear hw4 hb4
    refine start_ (n := 13) (S := fun w' => True) (ds := []) #[false, false, false, false, false, false, false, false, false, false, false, false, false] (by kernel_rfl) rfl rfl trivial (fun hHeld => ?_)
    rw [← HW4.out]
    refine pure_ (i := 0) (N := some 40) (v := ?_) (a' := ?_) #[true, false, false, false, false, false, false, false, false, false, false, false, false] rfl rfl (by kernel_rfl) (fun _ _ _ h => h) (Or.inl ⟨by rfl, ?_⟩) ?_ ?_
    rotate_left
    · intro w'
      go_simp
      with_reducible rfl
    rotate_left
    · simp only [Act.put, List.setIfInBounds_toArray, List.set_cons_zero, List.set_cons_succ]
      rfl
    refine pure_ (i := 1) (N := some 41) (v := ?_) (a' := ?_) #[true, true, false, false, false, false, false, false, false, false, false, false, false] rfl rfl (by kernel_rfl) (fun _ _ _ h => h) (Or.inl ⟨by rfl, ?_⟩) ?_ ?_
    rotate_left
    · intro w'
      go_simp
      with_reducible rfl
    rotate_left
    · simp only [Act.put, List.setIfInBounds_toArray, List.set_cons_zero, List.set_cons_succ]
      rfl
    refine pure_ (i := 2) (N := some 42) (v := ?_) (a' := ?_) #[true, true, true, false, false, false, false, false, false, false, false, false, false] rfl rfl (by kernel_rfl) (fun _ _ _ h => h) (Or.inl ⟨by rfl, ?_⟩) ?_ ?_
    rotate_left
    · intro w'
      go_simp
      with_reducible rfl
    rotate_left
    · simp only [Act.put, List.setIfInBounds_toArray, List.set_cons_zero, List.set_cons_succ]
      rfl
    refine pure_ (i := 3) (N := some 43) (v := ?_) (a' := ?_) #[true, true, true, true, false, false, false, false, false, false, false, false, false] rfl rfl (by kernel_rfl) (fun _ _ _ h => h) (Or.inl ⟨by rfl, ?_⟩) ?_ ?_
    rotate_left
    · intro w'
      go_simp
      with_reducible rfl
    rotate_left
    · simp only [Act.put, List.setIfInBounds_toArray, List.set_cons_zero, List.set_cons_succ]
      rfl
    refine pure_ (i := 4) (N := some 44) (v := ?_) (a' := ?_) #[true, true, true, true, true, false, false, false, false, false, false, false, false] rfl rfl (by kernel_rfl) (fun _ _ _ h => h) (Or.inl ⟨by rfl, ?_⟩) ?_ ?_
    rotate_left
    · intro w'
      go_simp
      with_reducible rfl
    rotate_left
    · simp only [Act.put, List.setIfInBounds_toArray, List.set_cons_zero, List.set_cons_succ]
      rfl
    refine pure_ (i := 8) (N := some 48) (v := ?_) (a' := ?_) #[true, true, true, true, true, false, false, false, true, false, false, false, false] rfl rfl (by kernel_rfl) (fun _ _ _ h => h) (Or.inl ⟨by rfl, ?_⟩) ?_ ?_
    rotate_left
    · intro w'
      go_simp
      with_reducible rfl
    rotate_left
    · simp only [Act.put, List.setIfInBounds_toArray, List.set_cons_zero, List.set_cons_succ]
      rfl
    refine pure_ (i := 9) (N := some 49) (v := ?_) (a' := ?_) #[true, true, true, true, true, false, false, false, true, true, false, false, false] rfl rfl (by kernel_rfl) (fun _ _ _ h => h) (Or.inl ⟨by rfl, ?_⟩) ?_ ?_
    rotate_left
    · intro w'
      go_simp
      with_reducible rfl
    rotate_left
    · simp only [Act.put, List.setIfInBounds_toArray, List.set_cons_zero, List.set_cons_succ]
      rfl
    refine pure_ (i := 10) (N := some 50) (v := ?_) (a' := ?_) #[true, true, true, true, true, false, false, false, true, true, true, false, false] rfl rfl (by kernel_rfl) (fun _ _ _ h => h) (Or.inl ⟨by rfl, ?_⟩) ?_ ?_
    rotate_left
    · intro w'
      go_simp
      with_reducible rfl
    rotate_left
    · simp only [Act.put, List.setIfInBounds_toArray, List.set_cons_zero, List.set_cons_succ]
      rfl
    refine one_ (i := 5) (N := some 45) #[true, true, true, true, true, true, false, false, true, true, true, false, false] rfl rfl (by kernel_rfl) (by decide) (fun K hK => ?_)
    refine value_ (w1 := ?_) (v := ?_) (by rfl) rfl ?_ ?_
    rotate_left 2
    · go_simp
      constructor
      · rfl
      · rfl
    obtain ⟨w5, hw5⟩ : ∃ w5, w5 = w4.alloc (.cells #[.string key, .string val, .int .i64 0] 53) := ⟨_, rfl⟩
    have hr5 := row_new w4 ⟨key, val, 0⟩ rfl
    have hb5 : Below w4.heap.size w4 w5 := by rw [hw5]; exact below_alloc (Below.refl _ _) _
    simp only at hr5
    rw [← hw5]
    replace hr5 : RowI w5 w4.heap.size (.slice (some ⟨w4.heap.size, 0, none⟩) 1 1) [⟨key, val, 0⟩] := by rw [hw5]; exact hr5
    obtain ⟨g5, hg5⟩ : ∃ g5, g5 = w4.heap.size := ⟨_, rfl⟩
    rw [← hg5]
    rw [← hg5] at hr5
    have HI5 := Lib.hid (itsat_of hr5)
    have HP5 := Lib.hid (HP4.out.below hb5)
    have HB5 := Lib.hid hb5
    clear hw5 hb5 hr5 hg5
    refine hK.out _ _ trivial (fun hHeld => ?_)
    clear hK K
    refine norm_ (a' := ?_) ?_ ?_
    rotate_left
    · show Act.put _ (some 45) _ = _
      simp only [Act.put, List.setIfInBounds_toArray, List.set_cons_zero, List.set_cons_succ]
      rfl
    refine pure_ (i := 6) (N := some 46) (v := ?_) (a' := ?_) #[true, true, true, true, true, true, true, false, true, true, true, false, false] rfl rfl (by kernel_rfl) (fun _ _ _ h => h) (Or.inl ⟨by rfl, ?_⟩) ?_ ?_
    rotate_left
    · intro w'
      go_simp
      with_reducible rfl
    rotate_left
    · simp only [Act.put, List.setIfInBounds_toArray, List.set_cons_zero, List.set_cons_succ]
      rfl
    refine one_ (i := 7) (N := some 47) #[true, true, true, true, true, true, true, true, true, true, true, false, false] rfl rfl (by kernel_rfl) (by decide) (fun K hK => ?_)
    refine goes_ Try.func11 (by kernel_rfl) rfl #[.agg #[.bool true, .slice (some ⟨g5, 0, none⟩) 1 1]] (by rfl) rfl rfl (by simp only [List.map_toArray, List.map_cons, List.map_nil]; rfl) ?_
    with_reducible refine (encW_calls (ln := 1) HI5.out HALL.out rfl (by decide) 1).mono ?_
    rintro e w6 ⟨rfl, hb6⟩
    refine ⟨_, rfl, ?_⟩
    rw [← HS.out]
    have HP6 := Lib.hid (HP5.out.below hb6)
    have HB6 := Lib.hid (HB5.out.trans (hb6.mono HB5.out.size))
    clear hb6
    refine hK.out _ _ trivial (fun hHeld => ?_)
    clear hK K
    refine norm_ (a' := ?_) ?_ ?_
    rotate_left
    · show Act.put _ (some 47) _ = _
      simp only [Act.put, List.setIfInBounds_toArray, List.set_cons_zero, List.set_cons_succ]
      rfl
    refine one_ (i := 11) (N := some 51) #[true, true, true, true, true, true, true, true, true, true, true, true, false] rfl rfl (by kernel_rfl) (by decide) (fun K hK => ?_)
    refine call_ 47 #[.pointer (some ⟨pp, 0, none⟩), .int .i64 (q : Int), .string s] (by rfl) rfl ?_ ?_
    · go_simp
    with_reducible refine (pput_calls HP6.out hq9 (Pg.at_F HY.out) hs512).mono ?_
    rintro e w7 ⟨rfl, hp7, hk7⟩
    refine ⟨_, rfl, ?_⟩
    have HP7 := Lib.hid hp7
    have HK7 := Lib.hid (show Keep w6 w7 (farP pp mb) from hk7.mono (fun _ _ h => And.left h))
    clear hp7 hk7
    refine hK.out _ _ trivial (fun hHeld => ?_)
    clear hK K
    refine norm_ (a' := ?_) ?_ ?_
    rotate_left
    · show Act.put _ (some 51) _ = _
      simp only [Act.put, List.setIfInBounds_toArray, List.set_cons_zero, List.set_cons_succ]
      rfl
    refine pure_ (i := 12) (N := some 11) (v := ?_) (a' := ?_) #[true, true, true, true, true, true, true, true, true, true, true, true, true] rfl rfl (by kernel_rfl) (fun _ _ _ h => h) (Or.inl ⟨by rfl, ?_⟩) ?_ ?_
    rotate_left
    · intro w'
      go_simp
      with_reducible rfl
    rotate_left
    · simp only [Act.put, List.setIfInBounds_toArray, List.set_cons_zero, List.set_cons_succ]
      rfl
    refine done_ (by kernel_rfl) ?_
    clear hHeld
    go_wp2_with fail
    go_ret2
    rw [← HQ.out]
    refine ⟨rfl, ?_, (HK4.out.trans (Keep.of_below HB6.out)).trans HK7.out⟩
    rw [Pg.set_F, show bytesP (some ⟨true, [⟨key, val, 0⟩]⟩) = s from HS.out.symm]
    exact HP7.out
  · have HPF := Lib.hid hpf
    have HGR := Lib.hid hgr
    have h0' : ¬ ((root : Int) = 0) := by omega
    clear hpf hgr hnx hk0 hk40 hv400
    go_wp2_with (first | (go_at_call 12; refine ((put_calls 100).use HPF.out HP.out hpk).mono ?_; rintro e w3 ⟨v3, rfl, hr3, hp3, hk3⟩; have HR3 := Lib.hid hr3; have HP3 := Lib.hid hp3; have HK3 := Lib.hid hk3; clear hr3 hp3 hk3))
    go_loopw [1, 12] (fun rv mv wr => Hid (∃ n, GrowAt w pp mb S' r' rv mv wr n)) (fun rv mv wr => leastN (GrowAt w pp mb S' r' rv mv wr))
    case atStart => exact Lib.hid ⟨100, root, S1, m1, rfl, HGR.out, HR3.out, HP3.out, HK3.out⟩
    case round =>
      have hN := leastN_spec hrel.out
      obtain ⟨n, hn⟩ : ∃ n, n = leastN (GrowAt w pp mb S' r' u1 u12 wr) := ⟨_, rfl⟩
      rw [← hn] at hN
      obtain ⟨r, Sr, m, rfl, hsr, hrr, hpr, hkr⟩ := hN
      cases n with
      | zero => cases hsr
      | succ k =>
        have hway := grow_cases hsr
        obtain ⟨A, c, rfl, hlc, hit⟩ := hrr.reads
        have HN := Lib.hid hn
        have HPR := Lib.hid hpr
        have HKR := Lib.hid hkr
        have HRR := Lib.hid hrr
        clear hn hpr hkr hrr hsr hrel h0 h0'
        rcases hway with ⟨rfl, rfl, rfl⟩ | ⟨hm0, hnx, hm200, S2, m2, hs2, hg2⟩
        · go_wp2_with fail
          go_ret2
          exact ⟨rfl, HPR.out, HKR.out⟩
        · have hpos : 0 < m.length := List.length_pos_iff.2 hm0
          have hpos' : (0 : Int) < (m.length : Int) := by omega
          have hne0 : ¬ m.length = 0 := by omega
          obtain ⟨q, hq⟩ : ∃ q, q = Sr.nx + 1 := ⟨_, rfl⟩
          rw [← hq] at hs2 hg2
          have hq9 : q < 9000000000 := by omega
          have HQ := Lib.hid hq
          have HS2 := Lib.hid hs2
          have HG2 := Lib.hid hg2
          have HM := Lib.hid hm200
          clear hq hs2 hg2 hm0 hnx hm200 hit
          go_upto_region 17 with (first | (go_at_call 46; refine (newq_calls HPR.out HQ.out hq9).mono ?_; rintro e w4 ⟨rfl, hp4, hk4⟩; have HP4 := Lib.hid hp4; have HK4 := Lib.hid hk4; clear hp4 hk4))
          obtain ⟨w5, hw5⟩ : ∃ w5, w5 = w4.alloc (.cells #[.string ⟨#[]⟩, .string ⟨#[]⟩, .int .i64 (r : Int)] 53) := ⟨_, rfl⟩
          have hb5 : Below w4.heap.size w4 w5 := by rw [hw5]; exact below_alloc (Below.refl _ _) _
          have hr5 : RowI w5 w4.heap.size (.slice (some ⟨w4.heap.size, 0, none⟩) 1 1) [⟨⟨#[]⟩, ⟨#[]⟩, r⟩] := by rw [hw5]; exact row_new w4 ⟨⟨#[]⟩, ⟨#[]⟩, r⟩ rfl
          have hlt := HLT.out
          have hsz4 := Nat.le_trans HKR.out.size HK4.out.size
          have hrm5 := (HRR.out.far HK4.out hlt.1 hlt.2).keep hb5
          obtain ⟨v6, w6, hr6, ho6, hg6⟩ := hr5.run_append_row hrm5 (by simp only [List.length_cons, List.length_nil]; have := HM.out; omega) hb5.size 54
          have hb6 : Below w4.heap.size w4 w6 := grown_belowI hr5 hb5 hb5.size hg6
          obtain ⟨A6, n6, c6, rfl⟩ := ho6.val
          have HR6 := Lib.hid ho6
          have HB6 := Lib.hid hb6
          have HP6 := Lib.hid (HP4.out.below hb6)
          have HK6 := Lib.hid ((HKR.out.trans HK4.out).trans (Keep.of_below hb6))
          rw [hw5] at hr6
          clear hw5 hb5 hr5 hrm5 ho6 hg6 hb6
          go_upto_region 18 with (first | (at_builtin; refine wpList_append_run _ rfl _ _ _ _ rfl _ _ rfl rfl hr6 ?_))
          obtain ⟨g7, hg7⟩ : ∃ g7, g7 = w6.heap.size := ⟨_, rfl⟩
          obtain ⟨w7, hw7⟩ : ∃ w7, w7 = w6.alloc (.cells #[.bool false, .slice A6 n6 c6] 56) := ⟨_, rfl⟩
          have hb7 : Below w6.heap.size w6 w7 := by rw [hw7]; exact below_alloc (Below.refl _ _) _
          have BX7 := Lib.hid (show w7.heap[g7]? = some (.cells #[.bool false, .slice A6 n6 c6] 56 (0, 0)) by rw [hw7, hg7]; exact blk_new _ _)
          rw [← hw7, ← hg7]
          obtain ⟨g6, c6', hv, hlc6, _⟩ := HR6.out.some (by simp)
          cases hv
          have HI7 := Lib.hid ((itsat_of HR6.out).below hb7)
          have hc63 := row_cap HR6.out
          obtain ⟨n6, hn6⟩ : ∃ n6, n6 = ([(⟨⟨#[]⟩, ⟨#[]⟩, r⟩ : It)] ++ m).length := ⟨_, rfl⟩
          rw [← hn6] at hlc6 BX7
          have HN6 := Lib.hid hn6
          have HP7 := Lib.hid (HP6.out.below hb7)
          have HK7 := Lib.hid (HK6.out.trans (Keep.of_below hb7))
          have c0 := (blk_cell BX7.out 0).trans rfl
          have c1 := (blk_cell BX7.out 1).trans rfl
          clear hw7 hg7 hb7 hn6 hr6 hlt hsz4
          go_wp2_with (first | (go_at_call 13; refine ((save_calls 300).use HS2.out HP7.out HI7.out HN6.out hlc6 hc63 hq9).mono ?_; rintro e w8 ⟨v8, rfl, hr8, hp8, hk8⟩; have HR8 := Lib.hid hr8; have HP8 := Lib.hid hp8; have HK8 := Lib.hid hk8; clear hr8 hp8 hk8))
          have hnew : GrowAt w pp mb S' r' (.int .i64 (q : Int)) v8 w8 k := ⟨q, S2, m2, rfl, HG2.out, HR8.out.base HK7.out.size, HP8.out, HK7.out.trans HK8.out⟩
          refine ⟨Lib.hid ⟨k, hnew⟩, Nat.lt_of_le_of_lt (leastN_le hnew) ?_⟩
          rw [← HN.out]
          exact Nat.lt_succ_self k
#print axioms Put_calls
end Go.Proofs.YtkmbkgjfhjjicaaT
