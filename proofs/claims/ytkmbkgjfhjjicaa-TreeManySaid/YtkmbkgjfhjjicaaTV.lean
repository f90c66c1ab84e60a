/- Tree: save. -/
import Derived.Test.YtkmbkgjfhjjicaaTQ
import Derived.Deep.DeepCutAuto
namespace Go.Proofs.YtkmbkgjfhjjicaaT
open Go.RowKit Go.Maps Go.Proofs Go.Proofs.YtkmbkgjfhjjicaaW.PrintWords Go.Proofs.YtkmbkgjfhjjicaaW.PrintLast

theorem encT_calls {w : World} {leaf : Bool} {l : List It} {blk off : Nat} (h : ItsAt w (some ⟨blk, off, none⟩) l) (hok : l.all (okI leaf) = true) (hl : l.length ≤ 1000) (i c : Nat) (hi : i ≤ l.length) :
    Calls Try.prog 11 #[.agg #[.bool leaf, .slice (some ⟨blk, off, none⟩) i c]] w fun e w' => e = .returned (.string (ba (encN ⟨leaf, l.take i⟩))) ∧ Below w.heap.size w w' := by
  have h1 := encode_calls ⟨leaf, l.take i⟩ (some ⟨blk, off, none⟩) c (h.take i) (by rw [List.all_eq_true]; exact fun y hy => List.all_eq_true.1 hok y (List.mem_of_mem_take hy)) (by simp only [List.length_take]; omega)
  simp only [List.length_take, Nat.min_eq_left hi] at h1
  exact h1
theorem encD_calls {w : World} {leaf : Bool} {l : List It} {blk off : Nat} (h : ItsAt w (some ⟨blk, off, none⟩) l) (hok : l.all (okI leaf) = true) (hl : l.length ≤ 1000) (i c : Nat) :
    Calls Try.prog 11 #[.agg #[.bool leaf, .slice (some ⟨blk, off + i * 3, none⟩) (l.length - i) c]] w fun e w' => e = .returned (.string (ba (encN ⟨leaf, l.drop i⟩))) ∧ Below w.heap.size w w' := by
  have h1 := encode_calls ⟨leaf, l.drop i⟩ (some ⟨blk, off + i * 3, none⟩) c (h.drop i) (by rw [List.all_eq_true]; exact fun y hy => List.all_eq_true.1 hok y (List.mem_of_mem_drop hy)) (by simp only [List.length_drop]; omega)
  simp only [List.length_drop] at h1
  exact h1
theorem encE_calls {w : World} {leaf : Bool} {l : List It} {blk off ln : Nat} (h : ItsAt w (some ⟨blk, off, none⟩) l) (hok : l.all (okI leaf) = true) (hl : ln ≤ 1000) (hln : ln = l.length) (i c : Nat) :
    Calls Try.prog 11 #[.agg #[.bool leaf, .slice (some ⟨blk, off + i * 3, none⟩) (ln - i) c]] w fun e w' => e = .returned (.string (ba (encN ⟨leaf, l.drop i⟩))) ∧ Below w.heap.size w w' := by
  subst hln
  exact encD_calls h hok hl i c
/-- What save ends with. -/
def SaveEnd (w : World) (pp mb : Nat) (S' : Pg) (m : List It) (e : Ending) (w' : World) : Prop :=
  ∃ v, e = .returned (.tuple #[v, .nilIface]) ∧ RowI w' w.heap.size v m ∧ PgAt w' pp mb S'.nx S'.F ∧ Keep w w' (farP pp mb)
def SaveSpec (pp mb k : Nat) : Prop := ∀ (w : World) (S S' : Pg) (p : Nat) (leaf : Bool) (items m : List It) (blk off ln c : Nat), saveF k S p ⟨leaf, items⟩ = some (S', m) → PgAt w pp mb S.nx S.F → ItsAt w (some ⟨blk, off, none⟩) items → ln = items.length → ln ≤ c → c ≤ 9223372036854775807 → p < 9000000000 →
    Calls Try.prog 13 #[pgv pp, .int .i64 (p : Int), .agg #[.bool leaf, .slice (some ⟨blk, off, none⟩) ln c]] w (SaveEnd w pp mb S' m)
theorem SaveSpec.use {pp mb k : Nat} (H : SaveSpec pp mb k) {w : World} {S S' : Pg} {p : Nat} {leaf : Bool} {items m : List It} {blk off ln c : Nat} (h1 : saveF k S p ⟨leaf, items⟩ = some (S', m)) (h2 : PgAt w pp mb S.nx S.F) (h3 : ItsAt w (some ⟨blk, off, none⟩) items) (h4 : ln = items.length) (h5 : ln ≤ c) (h6 : c ≤ 9223372036854775807) (h7 : p < 9000000000) :
    Calls Try.prog 13 #[pgv pp, .int .i64 (p : Int), .agg #[.bool leaf, .slice (some ⟨blk, off, none⟩) ln c]] w (SaveEnd w pp mb S' m) :=
  H w S S' p leaf items m blk off ln c h1 h2 h3 h4 h5 h6 h7
theorem encW_calls {w : World} {leaf : Bool} {l : List It} {blk off ln : Nat} (h : ItsAt w (some ⟨blk, off, none⟩) l) (hok : l.all (okI leaf) = true) (hln : ln = l.length) (hl : ln ≤ 1000) (c : Nat) :
    Calls Try.prog 11 #[.agg #[.bool leaf, .slice (some ⟨blk, off, none⟩) ln c]] w fun e w' => e = .returned (.string (ba (encN ⟨leaf, l⟩))) ∧ Below w.heap.size w w' := by
  subst hln
  exact encode_calls ⟨leaf, l⟩ (some ⟨blk, off, none⟩) c h hok hl
set_option maxHeartbeats 4000000 in
set_option maxRecDepth 100000 in
theorem save_calls {pp mb : Nat} (k : Nat) : SaveSpec pp mb k := by
  induction k with
  | zero =>
    intro w S S' p leaf items m blk off ln c h
    cases h
  | succ k ih =>
    intro w S S' p leaf items m blk off ln c h hp hit hln hlc hc63 hpk
    have IH := Lib.hid ih
    obtain ⟨hall, hml, hl1⟩ := save_all h
    simp only at hall hml hl1
    have hcs := save_cases h
    simp only at hcs
    have hm1 := meth_put ⟨pp, 0, none⟩
    have hm2 := meth_new ⟨pp, 0, none⟩
    obtain ⟨g5, hg5⟩ : ∃ g5, g5 = w.heap.size := ⟨_, rfl⟩
    rw [← hln] at hml hl1
    have HP := Lib.hid hp
    have HIT := Lib.hid hit
    have HALL := Lib.hid (And.intro hall (And.intro hml hln))
    have HCS := Lib.hid hcs
    have HG5 := Lib.hid hg5
    obtain ⟨s, hs⟩ : ∃ s, s = ba (encN ⟨leaf, items⟩) := ⟨_, rfl⟩
    have HS := Lib.hid hs
    obtain ⟨w1, hw1⟩ : ∃ w1, w1 = w.alloc (.cells #[.bool leaf, .slice (some ⟨blk, off, none⟩) ln c] 56) := ⟨_, rfl⟩
    have hb1 : Below w.heap.size w w1 := by rw [hw1]; exact below_alloc (Below.refl _ _) _
    have BX1 := Lib.hid (show w1.heap[g5]? = some (.cells #[.bool leaf, .slice (some ⟨blk, off, none⟩) ln c] 56 (0, 0)) by rw [hw1, hg5]; exact blk_new _ _)
    have HB1 := Lib.hid hb1
    have HW1 := Lib.hid hw1
    clear h hp hit hall hml hcs hln hg5 hs hw1 hb1 ih
    go_enter Try.func13, Try.ntmps13
    go_upto_region 1 with fail
    rw [← HW1.out, ← HG5.out]
    have c0 := (blk_cell BX1.out 0).trans rfl
    have c1 := (blk_cell BX1.out 1).trans rfl
    go_upto_region 2 with (first | (go_at_call 11; refine (encW_calls (HIT.out.below HB1.out) HALL.out.1 HALL.out.2.2 hl1 c).mono ?_; rintro e w2 ⟨rfl, hb2⟩; rw [← HS.out]; have HB2 := Lib.hid (HB1.out.trans (hb2.mono HB1.out.size)); have BX2 := Lib.hid (blk_below BX1.out hb2); clear hb2))
    clear c0 c1
    have c0 := (blk_cell BX2.out 0).trans rfl
    have c1 := (blk_cell BX2.out 1).trans rfl
    have hsz : s.size = (encN ⟨leaf, items⟩).length := by rw [HS.out, ba_size]
    rcases HCS.out with ⟨hf, hput, rfl⟩ | ⟨hf, h2, h1000, S1, m1, m2, x, hs1, hnx, hs2, hx, hm⟩
    · --DEV{A
      simp only [fitN, Bool.and_eq_true, decide_eq_true_eq, ← hsz, ← HALL.out.2.2] at hf
      have d1 : decide ((s.size : Int) ≤ 512) = true := decide_eq_true (by omega)
      have d2 : decide ((ln : Int) < 256) = true := decide_eq_true (by omega)
      have h512 : s.size ≤ 512 := hf.1
      obtain ⟨rfl, hok, _, y, hy⟩ := Pg.put_spec hput
      have HY := Lib.hid hy
      clear hf hput hsz hy hok
      go_wp2_with (first | (go_at_call 47; refine (pput_calls (HP.out.below HB2.out) hpk (Pg.at_F HY.out) h512).mono ?_; rintro e w3 ⟨rfl, hp3, hk3⟩; have HP3 := Lib.hid hp3; have HK3 := Lib.hid hk3; clear hp3 hk3))
      go_ret2
      refine ⟨_, rfl, World.ownsRow_nil _ _ _ _, ?_, (Keep.of_below HB2.out).trans (HK3.out.mono (fun _ _ h => h.1))⟩
      have h3 := HP3.out
      rw [Pg.set_F, show bytesP (some ⟨leaf, items⟩) = s from HS.out.symm]
      exact h3
      --DEV}
    · have hff : 512 < s.size ∨ (s.size ≤ 512 ∧ 256 ≤ ln) := by
        by_cases h5 : s.size ≤ 512
        · refine .inr ⟨h5, ?_⟩
          by_cases h6 : ln < 256
          · have : fitN ⟨leaf, items⟩ = true := by simp only [fitN, Bool.and_eq_true, decide_eq_true_eq]; exact ⟨by omega, by rw [← HALL.out.2.2]; exact h6⟩
            rw [this] at hf
            cases hf
          · omega
        · exact .inl (by omega)
      have HS1 := Lib.hid hs1
      have HS2 := Lib.hid (And.intro hnx hs2)
      have HX := Lib.hid hx
      have HM := Lib.hid hm
      have HBE := Lib.hid (bestAt_in ⟨leaf, items⟩ h2)
      have HL2 := Lib.hid h2
      clear hs1 hnx hs2 hx hm h2 h1000 hf
      go_cut [28] (fun t wx => t = .bool false ∧ w2 = wx)
      case first =>
        rcases hff with h5 | ⟨h5, h6⟩
        · have d1 : decide ((s.size : Int) ≤ 512) = false := decide_eq_false (by omega)
          clear h5 hsz
          go_wp2_with fail
          go_meet
          exact ⟨rfl, rfl⟩
        · have d1 : decide ((s.size : Int) ≤ 512) = true := decide_eq_true (by omega)
          have d2 : decide ((ln : Int) < 256) = false := decide_eq_false (by omega)
          clear h5 h6 hsz
          go_wp2_with fail
          go_meet
          exact ⟨rfl, rfl⟩
      case rest =>
        obtain ⟨rfl, rfl⟩ := hcut
        clear hff
        have HSZ := Lib.hid hsz
        clear hsz
        have HL1 := Lib.hid hl1
        go_wp2_with fail
        go_loopw [9, 10, 11] (fun av bv iv wr => ∃ i a b : Nat, av = .int .i64 (a : Int) ∧ bv = .int .i64 (b : Int) ∧ iv = .int .i64 (i : Int) ∧ 1 ≤ i ∧ i ≤ ln ∧ Hid (partAt ⟨leaf, items⟩ (List.range' i (items.length - i)) (a, b) = partAt ⟨leaf, items⟩ (List.range' 1 (items.length - 1)) (1, (encN ⟨leaf, items⟩).length)) ∧ Hid (wr.heap[g5]? = some (.cells #[.bool leaf, .slice (some ⟨blk, off, none⟩) ln c] 56 (0, 0))) ∧ Hid (Below w.heap.size w wr)) (fun _ _ iv _ => ln - (intOf iv).toNat)
        case atStart => exact ⟨1, 1, s.size, rfl, rfl, rfl, Nat.le_refl _, by have h2 := HL2.out; rw [HALL.out.2.2]; omega, Lib.hid (by rw [HSZ.out]), BX2, HB2⟩
        case round =>
          obtain ⟨i, at_, b, rfl, rfl, rfl, hi1, hiln, HPA, BXr, HBr⟩ := hrel
          clear c0 c1
          have c0 := (blk_cell BXr.out 0).trans rfl
          have c1 := (blk_cell BXr.out 1).trans rfl
          by_cases hin : i < ln
          · --DEV{C
            have e1 : decide ((i : Int) < (ln : Int)) = true := decide_eq_true (by omega)
            go_upto_region 8 with fail
            obtain ⟨w5, hw5⟩ : ∃ w5, w5 = wr.drew := ⟨_, rfl⟩
            have hb5 : Below wr.heap.size wr w5 := by rw [hw5]; exact below_drew (Below.refl _ _)
            have HB5 := Lib.hid (HBr.out.trans (hb5.mono HBr.out.size))
            have BX5 := Lib.hid (blk_below BXr.out hb5)
            have HI5 := Lib.hid (HIT.out.below HB5.out)
            have HW5 := Lib.hid hw5
            have hil : i ≤ items.length := by rw [← HALL.out.2.2]; exact hiln
            have HIL := Lib.hid hil
            have hci : i ≤ c := by omega
            have hcn : ¬ (c = i) := by omega
            clear hw5 hb5 c0 c1
            refine start_ (n := 10) (S := fun w' => w'.cell? ⟨g5, 0, none⟩ = some (.bool leaf) ∧ w'.cell? ⟨g5, 1, none⟩ = some (.slice (some ⟨blk, off, none⟩) ln c)) (ds := []) #[false, false, false, false, false, false, false, false, false, false] (by kernel_rfl) rfl rfl ⟨(by rw [← HW5.out]; exact (blk_cell BX5.out 0).trans rfl), (by rw [← HW5.out]; exact (blk_cell BX5.out 1).trans rfl)⟩ (fun hHeld => ?_)
            rw [← HW5.out] at hHeld ⊢
            refine pure_ (i := 0) (N := some 42) (v := ?_) (a' := ?_) #[true, false, false, false, false, false, false, false, false, false] rfl rfl (by kernel_rfl) (fun _ _ _ h => h) (Or.inl ⟨by rfl, ?_⟩) ?_ ?_
            rotate_left
            · intro w'
              go_simp
              with_reducible rfl
            rotate_left
            · simp only [Act.put, List.setIfInBounds_toArray, List.set_cons_zero, List.set_cons_succ]
              rfl
            refine pure_ (i := 2) (N := some 44) (v := ?_) (a' := ?_) #[true, false, true, false, false, false, false, false, false, false] rfl rfl (by kernel_rfl) (fun _ _ _ h => h) (Or.inl ⟨by rfl, ?_⟩) ?_ ?_
            rotate_left
            · intro w'
              go_simp
              with_reducible rfl
            rotate_left
            · simp only [Act.put, List.setIfInBounds_toArray, List.set_cons_zero, List.set_cons_succ]
              rfl
            refine pure_ (i := 4) (N := some 46) (v := ?_) (a' := ?_) #[true, false, true, false, true, false, false, false, false, false] rfl rfl (by kernel_rfl) (fun _ _ _ h => h) (Or.inl ⟨by rfl, ?_⟩) ?_ ?_
            rotate_left
            · intro w'
              go_simp
              with_reducible rfl
            rotate_left
            · simp only [Act.put, List.setIfInBounds_toArray, List.set_cons_zero, List.set_cons_succ]
              rfl
            refine take_ (i := 1) (N := some 43) (v := ?_) (a' := ?_) #[true, true, true, false, true, false, false, false, false, false] rfl rfl (by kernel_rfl) (fun _ _ _ h => h) (Or.inl ⟨by rfl, ?_⟩) hHeld ?_ ?_
            rotate_left
            · rintro w' ⟨s0, s1⟩
              go_simp
              with_reducible rfl
            rotate_left
            · simp only [Act.put, List.setIfInBounds_toArray, List.set_cons_zero, List.set_cons_succ]
              rfl
            refine take_ (i := 3) (N := some 45) (v := ?_) (a' := ?_) #[true, true, true, true, true, false, false, false, false, false] rfl rfl (by kernel_rfl) (fun _ _ _ h => h) (Or.inl ⟨by rfl, ?_⟩) hHeld ?_ ?_
            rotate_left
            · rintro w' ⟨s0, s1⟩
              go_simp
              with_reducible rfl
            rotate_left
            · simp only [Act.put, List.setIfInBounds_toArray, List.set_cons_zero, List.set_cons_succ]
              rfl
            refine pure_ (i := 5) (N := some 47) (v := ?_) (a' := ?_) #[true, true, true, true, true, true, false, false, false, false] rfl rfl (by kernel_rfl) (fun _ _ _ h => h) (Or.inl ⟨by rfl, ?_⟩) ?_ ?_
            rotate_left
            · intro w'
              go_simp
              with_reducible rfl
            rotate_left
            · simp only [Act.put, List.setIfInBounds_toArray, List.set_cons_zero, List.set_cons_succ]
              rfl
            refine pure_ (i := 6) (N := some 48) (v := ?_) (a' := ?_) #[true, true, true, true, true, true, true, false, false, false] rfl rfl (by kernel_rfl) (fun _ _ _ h => h) (Or.inl ⟨by rfl, ?_⟩) ?_ ?_
            rotate_left
            · intro w'
              go_simp
              with_reducible rfl
            rotate_left
            · simp only [Act.put, List.setIfInBounds_toArray, List.set_cons_zero, List.set_cons_succ]
              rfl
            refine one_ (i := 7) (N := some 49) #[true, true, true, true, true, true, true, true, false, false] rfl rfl (by kernel_rfl) (by decide) (fun K hK => ?_)
            refine goes_ Try.func11 (by kernel_rfl) rfl #[.agg #[.bool leaf, .slice (some ⟨blk, off, none⟩) i c]] (by rfl) rfl rfl (by simp only [List.map_toArray, List.map_cons, List.map_nil]; rfl) ?_
            with_reducible refine (encT_calls HI5.out HALL.out.1 (by rw [← HALL.out.2.2]; exact HL1.out) i c HIL.out).mono ?_
            rintro e w6 ⟨rfl, hb6⟩
            refine ⟨_, rfl, ?_⟩
            have HB6 := Lib.hid (HB5.out.trans (hb6.mono HB5.out.size))
            have BX6 := Lib.hid (blk_below BX5.out hb6)
            clear hb6
            refine hK.out _ _ ⟨(blk_cell BX6.out 0).trans rfl, (blk_cell BX6.out 1).trans rfl⟩ (fun hHeld => ?_)
            clear hK K
            refine norm_ (a' := ?_) ?_ ?_
            rotate_left
            · show Act.put _ (some 49) _ = _
              simp only [Act.put, List.setIfInBounds_toArray, List.set_cons_zero, List.set_cons_succ]
              rfl
            refine pure_ (i := 8) (N := some 50) (v := ?_) (a' := ?_) #[true, true, true, true, true, true, true, true, true, false] rfl rfl (by kernel_rfl) (fun _ _ _ h => h) (Or.inl ⟨by rfl, ?_⟩) ?_ ?_
            rotate_left
            · intro w'
              go_simp
              with_reducible rfl
            rotate_left
            · simp only [Act.put, List.setIfInBounds_toArray, List.set_cons_zero, List.set_cons_succ]
              rfl
            refine pure_ (i := 9) (N := some 12) (v := ?_) (a' := ?_) #[true, true, true, true, true, true, true, true, true, true] rfl rfl (by kernel_rfl) (fun _ _ _ h => h) (Or.inl ⟨by rfl, ?_⟩) ?_ ?_
            rotate_left
            · intro w'
              go_simp
              with_reducible rfl
            rotate_left
            · simp only [Act.put, List.setIfInBounds_toArray, List.set_cons_zero, List.set_cons_succ]
              rfl
            refine done_ (by kernel_rfl) ?_
            rw [ba_size]
            obtain ⟨xa, hxa⟩ : ∃ xa, xa = (encN ⟨leaf, items.take i⟩).length := ⟨_, rfl⟩
            rw [← hxa]
            have HXA := Lib.hid hxa
            clear hxa hHeld hil
            go_upto_region 9 with fail
            obtain ⟨w7, hw7⟩ : ∃ w7, w7 = w6.drew := ⟨_, rfl⟩
            have hb7 : Below w6.heap.size w6 w7 := by rw [hw7]; exact below_drew (Below.refl _ _)
            have HB7 := Lib.hid (HB6.out.trans (hb7.mono HB6.out.size))
            have BX7 := Lib.hid (blk_below BX6.out hb7)
            have HI7 := Lib.hid (HIT.out.below HB7.out)
            have HW7 := Lib.hid hw7
            clear hw7 hb7
            refine start_ (n := 10) (S := fun w' => w'.cell? ⟨g5, 0, none⟩ = some (.bool leaf) ∧ w'.cell? ⟨g5, 1, none⟩ = some (.slice (some ⟨blk, off, none⟩) ln c)) (ds := []) #[false, false, false, false, false, false, false, false, false, false] (by kernel_rfl) rfl rfl ⟨(by rw [← HW7.out]; exact (blk_cell BX7.out 0).trans rfl), (by rw [← HW7.out]; exact (blk_cell BX7.out 1).trans rfl)⟩ (fun hHeld => ?_)
            rw [← HW7.out] at hHeld ⊢
            refine pure_ (i := 0) (N := some 51) (v := ?_) (a' := ?_) #[true, false, false, false, false, false, false, false, false, false] rfl rfl (by kernel_rfl) (fun _ _ _ h => h) (Or.inl ⟨by rfl, ?_⟩) ?_ ?_
            rotate_left
            · intro w'
              go_simp
              with_reducible rfl
            rotate_left
            · simp only [Act.put, List.setIfInBounds_toArray, List.set_cons_zero, List.set_cons_succ]
              rfl
            refine pure_ (i := 2) (N := some 53) (v := ?_) (a' := ?_) #[true, false, true, false, false, false, false, false, false, false] rfl rfl (by kernel_rfl) (fun _ _ _ h => h) (Or.inl ⟨by rfl, ?_⟩) ?_ ?_
            rotate_left
            · intro w'
              go_simp
              with_reducible rfl
            rotate_left
            · simp only [Act.put, List.setIfInBounds_toArray, List.set_cons_zero, List.set_cons_succ]
              rfl
            refine pure_ (i := 4) (N := some 55) (v := ?_) (a' := ?_) #[true, false, true, false, true, false, false, false, false, false] rfl rfl (by kernel_rfl) (fun _ _ _ h => h) (Or.inl ⟨by rfl, ?_⟩) ?_ ?_
            rotate_left
            · intro w'
              go_simp
              with_reducible rfl
            rotate_left
            · simp only [Act.put, List.setIfInBounds_toArray, List.set_cons_zero, List.set_cons_succ]
              rfl
            refine take_ (i := 1) (N := some 52) (v := ?_) (a' := ?_) #[true, true, true, false, true, false, false, false, false, false] rfl rfl (by kernel_rfl) (fun _ _ _ h => h) (Or.inl ⟨by rfl, ?_⟩) hHeld ?_ ?_
            rotate_left
            · rintro w' ⟨s0, s1⟩
              go_simp
              with_reducible rfl
            rotate_left
            · simp only [Act.put, List.setIfInBounds_toArray, List.set_cons_zero, List.set_cons_succ]
              rfl
            refine take_ (i := 3) (N := some 54) (v := ?_) (a' := ?_) #[true, true, true, true, true, false, false, false, false, false] rfl rfl (by kernel_rfl) (fun _ _ _ h => h) (Or.inl ⟨by rfl, ?_⟩) hHeld ?_ ?_
            rotate_left
            · rintro w' ⟨s0, s1⟩
              go_simp
              with_reducible rfl
            rotate_left
            · simp only [Act.put, List.setIfInBounds_toArray, List.set_cons_zero, List.set_cons_succ]
              rfl
            refine pure_ (i := 5) (N := some 56) (v := ?_) (a' := ?_) #[true, true, true, true, true, true, false, false, false, false] rfl rfl (by kernel_rfl) (fun _ _ _ h => h) (Or.inl ⟨by rfl, ?_⟩) ?_ ?_
            rotate_left
            · intro w'
              go_simp
              with_reducible rfl
            rotate_left
            · simp only [Act.put, List.setIfInBounds_toArray, List.set_cons_zero, List.set_cons_succ]
              rfl
            refine pure_ (i := 6) (N := some 57) (v := ?_) (a' := ?_) #[true, true, true, true, true, true, true, false, false, false] rfl rfl (by kernel_rfl) (fun _ _ _ h => h) (Or.inl ⟨by rfl, ?_⟩) ?_ ?_
            rotate_left
            · intro w'
              go_simp
              with_reducible rfl
            rotate_left
            · simp only [Act.put, List.setIfInBounds_toArray, List.set_cons_zero, List.set_cons_succ]
              rfl
            refine one_ (i := 7) (N := some 58) #[true, true, true, true, true, true, true, true, false, false] rfl rfl (by kernel_rfl) (by decide) (fun K hK => ?_)
            refine goes_ Try.func11 (by kernel_rfl) rfl #[.agg #[.bool leaf, .slice (some ⟨blk, off + i * 3, none⟩) (ln - i) (c - i)]] (by rfl) rfl rfl (by simp only [List.map_toArray, List.map_cons, List.map_nil]; rfl) ?_
            with_reducible refine (encE_calls HI7.out HALL.out.1 HL1.out HALL.out.2.2 i (c - i)).mono ?_
            rintro e w8 ⟨rfl, hb8⟩
            refine ⟨_, rfl, ?_⟩
            have HB8 := Lib.hid (HB7.out.trans (hb8.mono HB7.out.size))
            have BX8 := Lib.hid (blk_below BX7.out hb8)
            clear hb8
            refine hK.out _ _ ⟨(blk_cell BX8.out 0).trans rfl, (blk_cell BX8.out 1).trans rfl⟩ (fun hHeld => ?_)
            clear hK K
            refine norm_ (a' := ?_) ?_ ?_
            rotate_left
            · show Act.put _ (some 58) _ = _
              simp only [Act.put, List.setIfInBounds_toArray, List.set_cons_zero, List.set_cons_succ]
              rfl
            refine pure_ (i := 8) (N := some 59) (v := ?_) (a' := ?_) #[true, true, true, true, true, true, true, true, true, false] rfl rfl (by kernel_rfl) (fun _ _ _ h => h) (Or.inl ⟨by rfl, ?_⟩) ?_ ?_
            rotate_left
            · intro w'
              go_simp
              with_reducible rfl
            rotate_left
            · simp only [Act.put, List.setIfInBounds_toArray, List.set_cons_zero, List.set_cons_succ]
              rfl
            refine pure_ (i := 9) (N := some 13) (v := ?_) (a' := ?_) #[true, true, true, true, true, true, true, true, true, true] rfl rfl (by kernel_rfl) (fun _ _ _ h => h) (Or.inl ⟨by rfl, ?_⟩) ?_ ?_
            rotate_left
            · intro w'
              go_simp
              with_reducible rfl
            rotate_left
            · simp only [Act.put, List.setIfInBounds_toArray, List.set_cons_zero, List.set_cons_succ]
              rfl
            refine done_ (by kernel_rfl) ?_
            rw [ba_size]
            obtain ⟨xb, hxb⟩ : ∃ xb, xb = (encN ⟨leaf, items.drop i⟩).length := ⟨_, rfl⟩
            rw [← hxb]
            have HXB := Lib.hid hxb
            clear hxb hHeld
            go_wp2_with fail
            · rename_i hmx
              refine ⟨⟨i + 1, i, max xa xb, rfl, by congr 1; omega, rfl, by omega, by omega, Lib.hid ?_, BX8, HB8⟩, by simp only [intOf]; omega⟩
              have h := HPA.out
              rw [part_next leaf items (show i < items.length by rw [← HALL.out.2.2]; exact hin), ← HXA.out, ← HXB.out, if_pos (by omega)] at h
              exact h
            · rename_i hmx
              refine ⟨⟨i + 1, at_, b, rfl, rfl, rfl, by omega, by omega, Lib.hid ?_, BX8, HB8⟩, by simp only [intOf]; omega⟩
              have h := HPA.out
              rw [part_next leaf items (show i < items.length by rw [← HALL.out.2.2]; exact hin), ← HXA.out, ← HXB.out, if_neg (by omega)] at h
              exact h
            --DEV}
          · --DEV{D
            have e1 : decide ((i : Int) < (ln : Int)) = false := decide_eq_false (by omega)
            obtain rfl : ln = i := by omega
            have hat : bestAt ⟨leaf, items⟩ = at_ := by
              have h := HPA.out
              rw [← HALL.out.2.2, Nat.sub_self] at h
              unfold bestAt
              rw [← HALL.out.2.2, ← h]
              rfl
            rw [hat] at HS1 HS2 HX
            have hbe := HBE.out
            rw [hat] at hbe
            simp only [← HALL.out.2.2] at hbe
            have hl2 := HL2.out
            rw [← HALL.out.2.2] at hl2
            have hatc : at_ ≤ c := by omega
            have hatn : at_ < ln := by omega
            have hatl : at_ ≤ ln := by omega
            have hati : (at_ : Int) < (ln : Int) := by omega
            have hcn : ¬ (c = at_) := by omega
            have HAT := Lib.hid (show at_ = (items.take at_).length by rw [List.length_take, ← HALL.out.2.2]; omega)
            have HAT2 := Lib.hid (show ln - at_ = (items.drop at_).length by rw [List.length_drop, ← HALL.out.2.2])
            have hatc2 : ln - at_ ≤ c - at_ := by omega
            have hc642 : c - at_ ≤ 9223372036854775807 := by omega
            have hlt := HP.out.lt
            have HFG := Lib.hid (show farP pp mb g5 from ⟨by rw [HG5.out]; omega, by rw [HG5.out]; omega⟩)
            obtain ⟨q, hq⟩ : ∃ q, q = S1.nx + 1 := ⟨_, rfl⟩
            have hpk2 : q < 9000000000 := by have := HS2.out.1; omega
            rw [← hq] at HS2
            have HQ := Lib.hid hq
            have HLT := Lib.hid hlt
            clear hat hbe hl2 hq hlt hi1 hiln hin
            go_upto_region 12 with fail
            obtain ⟨w11, hw11⟩ : ∃ w11, w11 = wr.drew := ⟨_, rfl⟩
            have hb11 : Below wr.heap.size wr w11 := by rw [hw11]; exact below_drew (Below.refl _ _)
            have HB11 := Lib.hid (HBr.out.trans (hb11.mono HBr.out.size))
            have BX11 := Lib.hid (blk_below BXr.out hb11)
            have HI11 := Lib.hid ((HIT.out.below HB11.out).take at_)
            have HW11 := Lib.hid hw11
            clear hw11 hb11 c0 c1
            refine start_ (n := 15) (S := fun w' => w'.cell? ⟨g5, 0, none⟩ = some (.bool leaf) ∧ w'.cell? ⟨g5, 1, none⟩ = some (.slice (some ⟨blk, off, none⟩) ln c)) (ds := []) #[false, false, false, false, false, false, false, false, false, false, false, false, false, false, false] (by kernel_rfl) rfl rfl ⟨(by rw [← HW11.out]; exact (blk_cell BX11.out 0).trans rfl), (by rw [← HW11.out]; exact (blk_cell BX11.out 1).trans rfl)⟩ (fun hHeld => ?_)
            rw [← HW11.out] at hHeld ⊢
            refine pure_ (i := 0) (N := some 70) (v := ?_) (a' := ?_) #[true, false, false, false, false, false, false, false, false, false, false, false, false, false, false] rfl rfl (by kernel_rfl) (fun _ _ _ h => h) (Or.inl ⟨by rfl, ?_⟩) ?_ ?_
            rotate_left
            · intro w'
              go_simp
              with_reducible rfl
            rotate_left
            · simp only [Act.put, List.setIfInBounds_toArray, List.set_cons_zero, List.set_cons_succ]
              rfl
            refine pure_ (i := 1) (N := some 71) (v := ?_) (a' := ?_) #[true, true, false, false, false, false, false, false, false, false, false, false, false, false, false] rfl rfl (by kernel_rfl) (fun _ _ _ h => h) (Or.inl ⟨by rfl, ?_⟩) ?_ ?_
            rotate_left
            · intro w'
              go_simp
              with_reducible rfl
            rotate_left
            · simp only [Act.put, List.setIfInBounds_toArray, List.set_cons_zero, List.set_cons_succ]
              rfl
            refine pure_ (i := 2) (N := some 72) (v := ?_) (a' := ?_) #[true, true, true, false, false, false, false, false, false, false, false, false, false, false, false] rfl rfl (by kernel_rfl) (fun _ _ _ h => h) (Or.inl ⟨by rfl, ?_⟩) ?_ ?_
            rotate_left
            · intro w'
              go_simp
              with_reducible rfl
            rotate_left
            · simp only [Act.put, List.setIfInBounds_toArray, List.set_cons_zero, List.set_cons_succ]
              rfl
            refine pure_ (i := 4) (N := some 74) (v := ?_) (a' := ?_) #[true, true, true, false, true, false, false, false, false, false, false, false, false, false, false] rfl rfl (by kernel_rfl) (fun _ _ _ h => h) (Or.inl ⟨by rfl, ?_⟩) ?_ ?_
            rotate_left
            · intro w'
              go_simp
              with_reducible rfl
            rotate_left
            · simp only [Act.put, List.setIfInBounds_toArray, List.set_cons_zero, List.set_cons_succ]
              rfl
            refine pure_ (i := 6) (N := some 76) (v := ?_) (a' := ?_) #[true, true, true, false, true, false, true, false, false, false, false, false, false, false, false] rfl rfl (by kernel_rfl) (fun _ _ _ h => h) (Or.inl ⟨by rfl, ?_⟩) ?_ ?_
            rotate_left
            · intro w'
              go_simp
              with_reducible rfl
            rotate_left
            · simp only [Act.put, List.setIfInBounds_toArray, List.set_cons_zero, List.set_cons_succ]
              rfl
            refine take_ (i := 3) (N := some 73) (v := ?_) (a' := ?_) #[true, true, true, true, true, false, true, false, false, false, false, false, false, false, false] rfl rfl (by kernel_rfl) (fun _ _ _ h => h) (Or.inl ⟨by rfl, ?_⟩) hHeld ?_ ?_
            rotate_left
            · rintro w' ⟨s0, s1⟩
              go_simp
              with_reducible rfl
            rotate_left
            · simp only [Act.put, List.setIfInBounds_toArray, List.set_cons_zero, List.set_cons_succ]
              rfl
            refine take_ (i := 5) (N := some 75) (v := ?_) (a' := ?_) #[true, true, true, true, true, true, true, false, false, false, false, false, false, false, false] rfl rfl (by kernel_rfl) (fun _ _ _ h => h) (Or.inl ⟨by rfl, ?_⟩) hHeld ?_ ?_
            rotate_left
            · rintro w' ⟨s0, s1⟩
              go_simp
              with_reducible rfl
            rotate_left
            · simp only [Act.put, List.setIfInBounds_toArray, List.set_cons_zero, List.set_cons_succ]
              rfl
            refine pure_ (i := 7) (N := some 77) (v := ?_) (a' := ?_) #[true, true, true, true, true, true, true, true, false, false, false, false, false, false, false] rfl rfl (by kernel_rfl) (fun _ _ _ h => h) (Or.inl ⟨by rfl, ?_⟩) ?_ ?_
            rotate_left
            · intro w'
              go_simp
              with_reducible rfl
            rotate_left
            · simp only [Act.put, List.setIfInBounds_toArray, List.set_cons_zero, List.set_cons_succ]
              rfl
            refine pure_ (i := 8) (N := some 78) (v := ?_) (a' := ?_) #[true, true, true, true, true, true, true, true, true, false, false, false, false, false, false] rfl rfl (by kernel_rfl) (fun _ _ _ h => h) (Or.inl ⟨by rfl, ?_⟩) ?_ ?_
            rotate_left
            · intro w'
              go_simp
              with_reducible rfl
            rotate_left
            · simp only [Act.put, List.setIfInBounds_toArray, List.set_cons_zero, List.set_cons_succ]
              rfl
            refine one_ (i := 9) (N := some 79) #[true, true, true, true, true, true, true, true, true, true, false, false, false, false, false] rfl rfl (by kernel_rfl) (by decide) (fun K hK => ?_)
            refine goes_ Try.func13 (by kernel_rfl) rfl #[pgv pp, .int .i64 (p : Int), .agg #[.bool leaf, .slice (some ⟨blk, off, none⟩) at_ c]] (by rfl) rfl rfl (by simp only [List.map_toArray, List.map_cons, List.map_nil]; rfl) ?_
            with_reducible refine (IH.out.use HS1.out (HP.out.below HB11.out) HI11.out HAT.out hatc hc63 hpk).mono ?_
            rintro e w12 ⟨v12, rfl, hr12, hp12, hk12⟩
            refine ⟨_, rfl, ?_⟩
            have HR12 := Lib.hid hr12
            have HP12 := Lib.hid hp12
            have HK12 := Lib.hid hk12
            clear hr12 hp12 hk12
            obtain ⟨A12, n12, c12, rfl⟩ := HR12.out.val
            have BX12 := Lib.hid (HK12.out.heap BX11.out HFG.out)
            refine hK.out _ _ ⟨(blk_cell BX12.out 0).trans rfl, (blk_cell BX12.out 1).trans rfl⟩ (fun hHeld => ?_)
            clear hK K
            refine norm_ (a' := ?_) ?_ ?_
            rotate_left
            · show Act.put _ (some 79) _ = _
              simp only [Act.put, List.setIfInBounds_toArray, List.set_cons_zero, List.set_cons_succ]
              rfl
            refine pure_ (i := 10) (N := some 69) (v := ?_) (a' := ?_) #[true, true, true, true, true, true, true, true, true, true, true, false, false, false, false] rfl rfl (by kernel_rfl) (fun _ _ _ h => h) (Or.inl ⟨by rfl, ?_⟩) ?_ ?_
            rotate_left
            · intro w'
              go_simp
              with_reducible rfl
            rotate_left
            · simp only [Act.put, List.setIfInBounds_toArray, List.set_cons_zero, List.set_cons_succ]
              rfl
            refine pure_ (i := 11) (N := some 80) (v := ?_) (a' := ?_) #[true, true, true, true, true, true, true, true, true, true, true, true, false, false, false] rfl rfl (by kernel_rfl) (fun _ _ _ h => h) (Or.inl ⟨by rfl, ?_⟩) ?_ ?_
            rotate_left
            · intro w'
              go_simp
              with_reducible rfl
            rotate_left
            · simp only [Act.put, List.setIfInBounds_toArray, List.set_cons_zero, List.set_cons_succ]
              rfl
            refine pure_ (i := 12) (N := some 81) (v := ?_) (a' := ?_) #[true, true, true, true, true, true, true, true, true, true, true, true, true, false, false] rfl rfl (by kernel_rfl) (fun _ _ _ h => h) (Or.inl ⟨by rfl, ?_⟩) ?_ ?_
            rotate_left
            · intro w'
              go_simp
              with_reducible rfl
            rotate_left
            · simp only [Act.put, List.setIfInBounds_toArray, List.set_cons_zero, List.set_cons_succ]
              rfl
            refine pure_ (i := 13) (N := some 14) (v := ?_) (a' := ?_) #[true, true, true, true, true, true, true, true, true, true, true, true, true, true, false] rfl rfl (by kernel_rfl) (fun _ _ _ h => h) (Or.inl ⟨by rfl, ?_⟩) ?_ ?_
            rotate_left
            · intro w'
              go_simp
              with_reducible rfl
            rotate_left
            · simp only [Act.put, List.setIfInBounds_toArray, List.set_cons_zero, List.set_cons_succ]
              rfl
            refine pure_ (i := 14) (N := some 15) (v := ?_) (a' := ?_) #[true, true, true, true, true, true, true, true, true, true, true, true, true, true, true] rfl rfl (by kernel_rfl) (fun _ _ _ h => h) (Or.inl ⟨by rfl, ?_⟩) ?_ ?_
            rotate_left
            · intro w'
              go_simp
              with_reducible rfl
            rotate_left
            · simp only [Act.put, List.setIfInBounds_toArray, List.set_cons_zero, List.set_cons_succ]
              rfl
            refine done_ (by kernel_rfl) ?_
            clear hHeld
            go_upto_region 18 with (first | (go_at_call 46; refine (newq_calls HP12.out HQ.out hpk2).mono ?_; rintro e w13 ⟨rfl, hp13, hk13⟩; have HP13 := Lib.hid hp13; have HK13 := Lib.hid hk13; clear hp13 hk13))
            obtain ⟨w14, hw14⟩ : ∃ w14, w14 = w13.drew := ⟨_, rfl⟩
            have hb14 : Below w13.heap.size w13 w14 := by rw [hw14]; exact below_drew (Below.refl _ _)
            have hk14 : Keep w w14 (farP pp mb) := (((Keep.of_below HB11.out).trans (HK12.out.trans HK13.out))).trans (Keep.of_below hb14)
            have HK14 := Lib.hid hk14
            have HP14 := Lib.hid (HP13.out.below hb14)
            have BX14 := Lib.hid (blk_below (HK13.out.heap BX12.out HFG.out) hb14)
            have HI14 := Lib.hid ((HIT.out.far HP.out hk14).drop at_)
            have HR14 := Lib.hid ((HR12.out.far HK13.out (Nat.lt_of_lt_of_le HLT.out.1 HB11.out.size) (Nat.lt_of_lt_of_le HLT.out.2 HB11.out.size)).keep hb14)
            have HW14 := Lib.hid hw14
            clear hw14 hb14 hk14
            refine start_ (n := 15) (S := fun w' => w'.cell? ⟨g5, 0, none⟩ = some (.bool leaf) ∧ w'.cell? ⟨g5, 1, none⟩ = some (.slice (some ⟨blk, off, none⟩) ln c)) (ds := []) #[false, false, false, false, false, false, false, false, false, false, false, false, false, false, false] (by kernel_rfl) rfl rfl ⟨(by rw [← HW14.out]; exact (blk_cell BX14.out 0).trans rfl), (by rw [← HW14.out]; exact (blk_cell BX14.out 1).trans rfl)⟩ (fun hHeld => ?_)
            rw [← HW14.out] at hHeld ⊢
            refine pure_ (i := 0) (N := some 94) (v := ?_) (a' := ?_) #[true, false, false, false, false, false, false, false, false, false, false, false, false, false, false] rfl rfl (by kernel_rfl) (fun _ _ _ h => h) (Or.inl ⟨by rfl, ?_⟩) ?_ ?_
            rotate_left
            · intro w'
              go_simp
              with_reducible rfl
            rotate_left
            · simp only [Act.put, List.setIfInBounds_toArray, List.set_cons_zero, List.set_cons_succ]
              rfl
            refine pure_ (i := 1) (N := some 95) (v := ?_) (a' := ?_) #[true, true, false, false, false, false, false, false, false, false, false, false, false, false, false] rfl rfl (by kernel_rfl) (fun _ _ _ h => h) (Or.inl ⟨by rfl, ?_⟩) ?_ ?_
            rotate_left
            · intro w'
              go_simp
              with_reducible rfl
            rotate_left
            · simp only [Act.put, List.setIfInBounds_toArray, List.set_cons_zero, List.set_cons_succ]
              rfl
            refine pure_ (i := 2) (N := some 96) (v := ?_) (a' := ?_) #[true, true, true, false, false, false, false, false, false, false, false, false, false, false, false] rfl rfl (by kernel_rfl) (fun _ _ _ h => h) (Or.inl ⟨by rfl, ?_⟩) ?_ ?_
            rotate_left
            · intro w'
              go_simp
              with_reducible rfl
            rotate_left
            · simp only [Act.put, List.setIfInBounds_toArray, List.set_cons_zero, List.set_cons_succ]
              rfl
            refine pure_ (i := 4) (N := some 98) (v := ?_) (a' := ?_) #[true, true, true, false, true, false, false, false, false, false, false, false, false, false, false] rfl rfl (by kernel_rfl) (fun _ _ _ h => h) (Or.inl ⟨by rfl, ?_⟩) ?_ ?_
            rotate_left
            · intro w'
              go_simp
              with_reducible rfl
            rotate_left
            · simp only [Act.put, List.setIfInBounds_toArray, List.set_cons_zero, List.set_cons_succ]
              rfl
            refine pure_ (i := 6) (N := some 100) (v := ?_) (a' := ?_) #[true, true, true, false, true, false, true, false, false, false, false, false, false, false, false] rfl rfl (by kernel_rfl) (fun _ _ _ h => h) (Or.inl ⟨by rfl, ?_⟩) ?_ ?_
            rotate_left
            · intro w'
              go_simp
              with_reducible rfl
            rotate_left
            · simp only [Act.put, List.setIfInBounds_toArray, List.set_cons_zero, List.set_cons_succ]
              rfl
            refine take_ (i := 3) (N := some 97) (v := ?_) (a' := ?_) #[true, true, true, true, true, false, true, false, false, false, false, false, false, false, false] rfl rfl (by kernel_rfl) (fun _ _ _ h => h) (Or.inl ⟨by rfl, ?_⟩) hHeld ?_ ?_
            rotate_left
            · rintro w' ⟨s0, s1⟩
              go_simp
              with_reducible rfl
            rotate_left
            · simp only [Act.put, List.setIfInBounds_toArray, List.set_cons_zero, List.set_cons_succ]
              rfl
            refine take_ (i := 5) (N := some 99) (v := ?_) (a' := ?_) #[true, true, true, true, true, true, true, false, false, false, false, false, false, false, false] rfl rfl (by kernel_rfl) (fun _ _ _ h => h) (Or.inl ⟨by rfl, ?_⟩) hHeld ?_ ?_
            rotate_left
            · rintro w' ⟨s0, s1⟩
              go_simp
              with_reducible rfl
            rotate_left
            · simp only [Act.put, List.setIfInBounds_toArray, List.set_cons_zero, List.set_cons_succ]
              rfl
            refine pure_ (i := 7) (N := some 101) (v := ?_) (a' := ?_) #[true, true, true, true, true, true, true, true, false, false, false, false, false, false, false] rfl rfl (by kernel_rfl) (fun _ _ _ h => h) (Or.inl ⟨by rfl, ?_⟩) ?_ ?_
            rotate_left
            · intro w'
              go_simp
              with_reducible rfl
            rotate_left
            · simp only [Act.put, List.setIfInBounds_toArray, List.set_cons_zero, List.set_cons_succ]
              rfl
            refine pure_ (i := 8) (N := some 102) (v := ?_) (a' := ?_) #[true, true, true, true, true, true, true, true, true, false, false, false, false, false, false] rfl rfl (by kernel_rfl) (fun _ _ _ h => h) (Or.inl ⟨by rfl, ?_⟩) ?_ ?_
            rotate_left
            · intro w'
              go_simp
              with_reducible rfl
            rotate_left
            · simp only [Act.put, List.setIfInBounds_toArray, List.set_cons_zero, List.set_cons_succ]
              rfl
            refine one_ (i := 9) (N := some 103) #[true, true, true, true, true, true, true, true, true, true, false, false, false, false, false] rfl rfl (by kernel_rfl) (by decide) (fun K hK => ?_)
            refine goes_ Try.func13 (by kernel_rfl) rfl #[pgv pp, .int .i64 (q : Int), .agg #[.bool leaf, .slice (some ⟨blk, off + at_ * 3, none⟩) (ln - at_) (c - at_)]] (by rfl) rfl rfl (by simp only [List.map_toArray, List.map_cons, List.map_nil]; rfl) ?_
            with_reducible refine (IH.out.use HS2.out.2 HP14.out HI14.out HAT2.out hatc2 hc642 hpk2).mono ?_
            rintro e w15 ⟨v15, rfl, hr15, hp15, hk15⟩
            refine ⟨_, rfl, ?_⟩
            have HR15 := Lib.hid hr15
            have HP15 := Lib.hid hp15
            have HK15 := Lib.hid hk15
            clear hr15 hp15 hk15
            obtain ⟨A15, n15, c15, rfl⟩ := HR15.out.val
            have BX15 := Lib.hid (HK15.out.heap BX14.out HFG.out)
            refine hK.out _ _ ⟨(blk_cell BX15.out 0).trans rfl, (blk_cell BX15.out 1).trans rfl⟩ (fun hHeld => ?_)
            clear hK K
            refine norm_ (a' := ?_) ?_ ?_
            rotate_left
            · show Act.put _ (some 103) _ = _
              simp only [Act.put, List.setIfInBounds_toArray, List.set_cons_zero, List.set_cons_succ]
              rfl
            refine pure_ (i := 10) (N := some 93) (v := ?_) (a' := ?_) #[true, true, true, true, true, true, true, true, true, true, true, false, false, false, false] rfl rfl (by kernel_rfl) (fun _ _ _ h => h) (Or.inl ⟨by rfl, ?_⟩) ?_ ?_
            rotate_left
            · intro w'
              go_simp
              with_reducible rfl
            rotate_left
            · simp only [Act.put, List.setIfInBounds_toArray, List.set_cons_zero, List.set_cons_succ]
              rfl
            refine pure_ (i := 11) (N := some 104) (v := ?_) (a' := ?_) #[true, true, true, true, true, true, true, true, true, true, true, true, false, false, false] rfl rfl (by kernel_rfl) (fun _ _ _ h => h) (Or.inl ⟨by rfl, ?_⟩) ?_ ?_
            rotate_left
            · intro w'
              go_simp
              with_reducible rfl
            rotate_left
            · simp only [Act.put, List.setIfInBounds_toArray, List.set_cons_zero, List.set_cons_succ]
              rfl
            refine pure_ (i := 12) (N := some 105) (v := ?_) (a' := ?_) #[true, true, true, true, true, true, true, true, true, true, true, true, true, false, false] rfl rfl (by kernel_rfl) (fun _ _ _ h => h) (Or.inl ⟨by rfl, ?_⟩) ?_ ?_
            rotate_left
            · intro w'
              go_simp
              with_reducible rfl
            rotate_left
            · simp only [Act.put, List.setIfInBounds_toArray, List.set_cons_zero, List.set_cons_succ]
              rfl
            refine pure_ (i := 13) (N := some 17) (v := ?_) (a' := ?_) #[true, true, true, true, true, true, true, true, true, true, true, true, true, true, false] rfl rfl (by kernel_rfl) (fun _ _ _ h => h) (Or.inl ⟨by rfl, ?_⟩) ?_ ?_
            rotate_left
            · intro w'
              go_simp
              with_reducible rfl
            rotate_left
            · simp only [Act.put, List.setIfInBounds_toArray, List.set_cons_zero, List.set_cons_succ]
              rfl
            refine pure_ (i := 14) (N := some 15) (v := ?_) (a' := ?_) #[true, true, true, true, true, true, true, true, true, true, true, true, true, true, true] rfl rfl (by kernel_rfl) (fun _ _ _ h => h) (Or.inl ⟨by rfl, ?_⟩) ?_ ?_
            rotate_left
            · intro w'
              go_simp
              with_reducible rfl
            rotate_left
            · simp only [Act.put, List.setIfInBounds_toArray, List.set_cons_zero, List.set_cons_succ]
              rfl
            refine done_ (by kernel_rfl) ?_
            clear hHeld
            obtain ⟨y0, -, -⟩ := (HIT.out.far HP.out (HK14.out.trans HK15.out)).key HX.out
            have c1 := (blk_cell BX15.out 1).trans rfl
            have hB1 : pp < w11.heap.size ∧ mb < w11.heap.size := ⟨Nat.lt_of_lt_of_le HLT.out.1 HB11.out.size, Nat.lt_of_lt_of_le HLT.out.2 HB11.out.size⟩
            have hr15 := HR14.out.far HK15.out hB1.1 hB1.2
            have ha16 : Below w15.heap.size w15 (w15.alloc (.cells #[.string x.key, .string ⟨#[]⟩, .int .i64 (q : Int)] 53)) := below_alloc (Below.refl _ _) _
            have hn16 := blk_new w15 (.cells #[.string x.key, .string ⟨#[]⟩, .int .i64 (q : Int)] 53)
            have hmm : m1.length + 1 + m2.length + 1 ≤ ln := by have h := HALL.out.2.1; rw [HM.out] at h; simp only [List.length_append, List.length_cons, List.length_nil] at h; omega
            have hs11 : w11.heap.size ≤ w15.heap.size := Nat.le_trans (Nat.le_trans HK12.out.size (by have := World.block_lt_of_cell? w15 _ c1; exact Nat.le_trans HK13.out.size (by rw [HW14.out] at HK15; exact HK15.out.size))) (Nat.le_refl _)
            obtain ⟨v17, w17, hr17, ho17, hg17⟩ := (hr15.keep ha16).run_append [⟨x.key, ⟨#[]⟩, q⟩] ⟨w15.heap.size, 0, none⟩ 1 (fun j u hu => by
              rw [Addr.add_lit, Nat.zero_add]
              refine (blk_cell hn16 j).trans ?_
              rw [← hu, show flat [⟨x.key, ⟨#[]⟩, q⟩] = [.string x.key, .string ⟨#[]⟩, .int .i64 (q : Int)] from rfl]
              simp) (by simp only [List.length_cons, List.length_nil]; omega) (Nat.le_trans hs11 ha16.size) 54
            have h2 : RowI w17 w14.heap.size (.slice A15 n15 c15) m2 := row_keep (HR15.out.keep ha16) (fun k hv => by
              have h3 := World.ownsRow.lt (HR15.out.keep ha16) k hv
              refine hg17.block k h3.2 (fun e => ?_)
              have h4 := World.ownsRow.lt HR14.out k e.symm
              omega)
            obtain ⟨v18, w18, hr18, ho18, hg18⟩ := ho17.run_append_row h2 (by simp only [List.length_append, List.length_cons, List.length_nil]; omega) (Nat.le_trans (Nat.le_trans hs11 ha16.size) hg17.size) 54
            have hb18 : Below w11.heap.size w15 w18 := (grown_belowI (hr15.keep ha16) (ha16.mono hs11) (Nat.le_trans hs11 ha16.size) hg17).trans (grown_belowI ho17 (Below.refl _ _) (Nat.le_trans (Nat.le_trans hs11 ha16.size) hg17.size) hg18)
            have HO18 := Lib.hid ho18
            have HB18 := Lib.hid hb18
            clear hr15 ha16 hn16 hmm hs11 ho17 hg17 h2 ho18 hg18 hb18 hB1
            go_wp2_with (first | (at_builtin; refine wpList_append_run _ rfl _ _ _ _ rfl _ _ rfl rfl hr17 ?_) | (at_builtin; refine wpList_append_run _ rfl _ _ _ _ rfl _ _ rfl rfl hr18 ?_))
            go_ret2
            refine ⟨_, rfl, ?_, ?_, (HK14.out.trans HK15.out).trans_below (HB18.out.mono HB11.out.size)⟩
            · have h := HO18.out.base HB11.out.size
              rw [HM.out, ← HQ.out]
              exact h
            · exact HP15.out.keep (HB18.out.block _ (Nat.lt_of_lt_of_le HLT.out.1 HB11.out.size)) (HB18.out.block _ (Nat.lt_of_lt_of_le HLT.out.2 HB11.out.size))
            --DEV}
#print axioms save_calls
end Go.Proofs.YtkmbkgjfhjjicaaT
