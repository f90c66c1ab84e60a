/- KnotsRings walked. (Printed by mkKC.py.) -/
import Derived.Test.YtgbeigippahbaaaKG
import Derived.Test.YtgbeigippahbaaaKA
namespace Go.Proofs.YtgbeigippahbaaaK
open Go.RowKit Go.Proofs Go.Proofs.YtgbeigippahbaaaW.PrintWords Go.Proofs.YtgbeigippahbaaaW.PrintLast

section
variable {P : Program} {ops : Array Oper} {o : Oper} {a : Act} {Q : Exit → Act → World → Prop} {K : Act → World → Prop}
/-- append of what lies somewhere. -/
theorem step_append_from {w0 W : World} (m cap : Nat) (ad : Addr) (base : Nat) (hw : Region.wanted o (yielded ops a.tmps) = true) (s x : Operand) (t e : TypeId) (z : Value) (size bytes : Nat)
    (ho : o.op = .call { callee := .builtin .append, args := #[s, x], argTypes := #[t, t] })
    (ht : P.underlying t = some (.slice e)) (hinfo : (P.info? e).map (fun i => (i.zero, i.size, i.bytes)) = some (some z, size, bytes)) (hz : z.cells.size = size) (hs0 : 0 < size) (hb0 : 0 < bytes)
    (v : Value) (n : Nat) (xs ys : List Value) (hs : a.eval s = v) (hx : a.eval x = .slice (some ad) m cap) (hys : ys.length = m * size) (hnews : ∀ j u, ys[j]? = some u → W.cell? (ad.add j) = some u) (h1 : ∀ u ∈ ys, u.oneCell' = true)
    (HO : W.ownsRow base e size v n xs) (HB : Below base w0 W) (hbase : base ≤ W.heap.size) (hl : (n + m) * bytes ≤ 140737488355328)
    (h : ∀ v1 w1, w1.ownsRow base e size v1 (n + m) (xs ++ ys) → Below base w0 w1 → W.grownBy w1 v.ownBlock → (v1.ownBlock = v.ownBlock ∨ v1.ownBlock = some W.heap.size) → K (a.put o.dst v1) w1) :
    if Region.wanted o (yielded ops a.tmps) = true then Oper.wp P o a W K Q else K (a.put o.dst undef) W := by
  obtain ⟨i0, hi, hzz⟩ := Option.map_eq_some_iff.1 hinfo
  simp only [Prod.mk.injEq] at hzz
  obtain ⟨hz0, hz1, hz2⟩ := hzz
  have hlen : n + m ≤ 140737488355328 := Nat.le_trans (Nat.le_mul_of_pos_right _ hb0) hl
  rw [if_pos hw]
  obtain ⟨v1, w1, hr, hown, hg, _, hat⟩ := run_append_own_at (P := P) W base t o.type e i0 z size bytes ht hi hz0 hz1 hz2 hz hs0 v n xs HO ad m cap ys hys hnews h1 (by simp only [maxLen]; omega) hl hbase
  unfold Oper.wp execOp
  simp only [ho, resolve, invoke, builtin, Sem.run_bind, Sem.run_pure, Result.andThen_ok, List.map_toArray, List.map_cons, List.map_nil, hs, hx, hr]
  exact h v1 w1 hown (HB.grown hg hbase (own_base HO)) hg hat
end
theorem slice_pair0 (W : World) : (Instr.buildSlice 22 0 #[]).run Try.prog W = .ok (.slice (some ⟨W.heap.size, 0, none⟩) 0 0) (W.alloc (.cells #[] 30)) := by
  obtain ⟨i0, hi, hz⟩ := Option.map_eq_some_iff.1 infoPair3
  simp [Instr.buildSlice, run_underlying Try.underlying22, sizeOf, typeInfo, hi, newRow, Instr.fill]
  refine congrArg (fun x => W.alloc (Obj.cells x 30)) ?_
  apply Array.ext <;> simp
theorem edsC_drop : ∀ (es : List Edge) (k : Nat), edsC (es.drop k) = (edsC es).drop (k * 2)
  | [], k => by simp [edsC]
  | e :: es, 0 => by simp
  | e :: es, k + 1 => by
    rw [List.drop_succ_cons, edsC_drop es k, edsC, show (k + 1) * 2 = (edC e).length + k * 2 by simp [edC]; omega, List.drop_append]
    simp
theorem edsC_take : ∀ (es : List Edge) (k : Nat), edsC (es.take k) = (edsC es).take (k * 2)
  | [], k => by simp [edsC]
  | e :: es, 0 => by simp [edsC]
  | e :: es, k + 1 => by
    rw [List.take_succ_cons, edsC, edsC_take es k, edsC, show (k + 1) * 2 = (edC e).length + k * 2 by simp [edC]; omega, List.take_length_add_append]
theorem cut_len {n s c : Nat} (hc : c < n) : (cutR n s c).length = c + (n - (c + 1)) := by
  unfold cutR
  rw [List.length_append, List.length_take, List.length_drop, ring_len]
  omega
def GcdEnd (w : World) (g : Nat) (e : Ending) (w' : World) : Prop := e = .returned (.int .i64 (g : Int)) ∧ ∃ k, w' = w.drewN k
theorem gcd_turn (x y : Nat) : Nat.gcd x y = Nat.gcd y (x % y) := by rw [Nat.gcd_comm x y, Nat.gcd_rec, Nat.gcd_comm]
theorem gcd_calls {w : World} {a b : Nat} (ha : a ≤ 1000000) (hb : b ≤ 1000000) : Calls Try.prog 13 #[.int .i64 (a : Int), .int .i64 (b : Int)] w (GcdEnd w (Nat.gcd a b)) := by
  go_enter Try.func13, Try.ntmps13
  go_wp2
  go_loopw [0, 1] (fun av bv wr => ∃ (x y q : Nat), av = .int .i64 (x : Int) ∧ bv = .int .i64 (y : Int) ∧ x ≤ 1000000 ∧ y ≤ 1000000 ∧ Hid (Nat.gcd x y = Nat.gcd a b) ∧ wr = w.drewN q) (fun _ bv _ => (intOf bv).toNat)
  case atStart => exact ⟨a, b, 0, rfl, rfl, ha, hb, Lib.hid rfl, rfl⟩
  case round =>
    obtain ⟨x, y, q, rfl, rfl, hx, hy, HG, rfl⟩ := hrel
    by_cases hy0 : y = 0
    · subst hy0
      go_wp2
      go_ret
      exact ⟨by rw [← HG.out, Nat.gcd_zero_right]; rfl, q, rfl⟩
    · have dy : decide ((y : Int) > 0) = true := decide_eq_true (by omega)
      have dy0 : ¬ (y : Int) = 0 := by omega
      obtain ⟨z, hz⟩ : ∃ z, z = x % y := ⟨_, rfl⟩
      have hzy : z < y := by rw [hz]; exact Nat.mod_lt _ (by omega)
      have hm : (x : Int) % (y : Int) = (z : Int) := by rw [hz]; rfl
      have HG' := Lib.hid (show Nat.gcd y z = Nat.gcd a b by rw [hz, ← gcd_turn]; exact HG.out)
      clear hz HG
      go_wp2
      go_quiet (fail)
      go_wp2
      refine ⟨⟨y, z, q + nq, rfl, by rw [hm], hy, by omega, HG', by simp⟩, ?_⟩
      rw [hm]
      simp [intOf]
      omega
/-- A whole number taken into the numbers below N, as the law does. -/
theorem into {N : Nat} (hN : 2 ≤ N) (hN' : N ≤ 2000) (t : Int) : ∃ (t1 : Int) (m0 s0 : Nat), t.tmod (N : Int) = t1 ∧ IntKind.i64.wrap (t1 + (N : Int)) = (m0 : Int) ∧ (m0 : Int).tmod (N : Int) = (s0 : Int) ∧ (m0 : Int) % (N : Int) = (s0 : Int) ∧ s0 < N ∧ m0 ≤ 4000 ∧ wrap64 (t1 + (N : Int)) = (m0 : Int) := by
  have h1 := Int.tmod_lt_of_pos t (show (0 : Int) < N by omega)
  have h2 := Int.lt_tmod_of_pos t (show (0 : Int) < N by omega)
  obtain ⟨t1, ht1⟩ : ∃ t1, t1 = t.tmod (N : Int) := ⟨_, rfl⟩
  rw [← ht1] at h1 h2
  obtain ⟨m0, hm0⟩ := Int.eq_ofNat_of_zero_le (show 0 ≤ t1 + N by omega)
  have hw : IntKind.i64.wrap (t1 + (N : Int)) = (m0 : Int) := by rw [IntWalk.i64_in _ (by omega)]; exact hm0
  refine ⟨t1, m0, m0 % N, ht1.symm, hw, ?_, rfl, Nat.mod_lt _ (by omega), by omega, ?_⟩
  · rw [Int.tmod_eq_emod_of_nonneg (by omega)]
    rfl
  · unfold wrap64
    omega
set_option maxRecDepth 100000 in
set_option maxHeartbeats 4000000 in
theorem rings_calls {w : World} (n turn cut : Int) (ht : -9223372036854775808 ≤ turn) (ht' : turn ≤ 9223372036854775807) (hc : -9223372036854775808 ≤ cut) (hc' : cut ≤ 9223372036854775807) :
    Calls Try.prog 5 #[.int .i64 n, .int .i64 turn, .int .i64 cut] w (LawEnd w) := by
  by_cases hg : n < 2 ∨ 2000 < n
  · have hd : (decide (n < 2) = true) ∨ (decide (n < 2) = false ∧ decide (n > 2000) = true) := by
      simp only [decide_eq_true_eq, decide_eq_false_iff_not]
      omega
    clear hg
    rcases hd with d1 | ⟨d1, d2⟩
    all_goals
      go_enter Try.func5, Try.ntmps5
      go_wp2_with (first | (go_at_call 7; refine (awake_calls _).mono ?_; rintro e w1 ⟨rfl, hb⟩))
      go_ret
      exact ⟨rfl, by first | assumption | exact hb⟩
  · have d1 : decide (n < 2) = false := decide_eq_false (by omega)
    have d2 : decide (n > 2000) = false := decide_eq_false (by omega)
    obtain ⟨N, rfl⟩ := Int.eq_ofNat_of_zero_le (show 0 ≤ n by omega)
    have hN2 : 2 ≤ N := by omega
    have hN : N ≤ 2000 := by omega
    have hn0 : ¬ (N : Int) = 0 := by omega
    have hn0' : ¬ N = 0 := by omega
    obtain ⟨t1, m0, s0, ha1, ha2, ha3, ha4, ha5, ha6, ha7⟩ := into hN2 hN turn
    obtain ⟨t2, m2, c0, hb1, hb2, hb3, hb4, hb5, hb6, hb7⟩ := into hN2 hN cut
    have HB := Lib.hid (And.intro hb1 (And.intro hb2 (And.intro hb3 (And.intro hb4 hb7))))
    have HNb := Lib.hid (show N ≤ 100000 by omega)
    have HNc := Lib.hid (show N ≤ 1000000 by omega)
    clear hg ht ht' hc hc' hb1 hb2 hb3 hb4 hb7
    go_enter Try.func5, Try.ntmps5
    go_wp2_with (first | (go_at_call 7; refine (awake_calls _).mono ?_; rintro e w1 ⟨rfl, hb⟩; have HB1 := Lib.hid hb; clear hb))
    clear ha1 ha2 ha3 ha4 ha7
    go_loopw [7] (fun a wr => ∃ s : Nat, a = .int .i64 (s : Int) ∧ s ≤ N + 1 ∧ Hid (Below w1.heap.size w1 wr)) (fun a _ => N + 1 - (intOf a).toNat)
    case atStart => exact ⟨s0, rfl, by omega, Lib.hid (Below.refl _ _)⟩
    case round =>
      obtain ⟨s, rfl, hs, B1⟩ := hrel
      have hs6 : s ≤ 1000000 := by omega
      by_cases hg : Nat.gcd s N = 1
      · as_aux_lemma =>
        have HG := Lib.hid (show Nat.Coprime N s from (Nat.gcd_comm N s).trans hg)
        go_wp2_with (first | (go_at_call 13; refine (gcd_calls hs6 HNc.out).mono ?_; rintro e w2 ⟨rfl, q, hq⟩; have B2 := Lib.hid (show Below w1.heap.size w1 w2 by rw [hq]; exact B1.out.trans (below_drewN _)); clear hq))
        have R0 := Lib.hid (show w2.ownsRow w1.heap.size 30 2 (.slice none 0 0) (ring N s 0).length (edsC (ring N s 0)) from World.ownsRow_nil _ _ _ _)
        have HLT := Lib.hid (show w.heap.size ≤ w1.heap.size from HB1.out.size)
        go_loopw [8, 37] (fun v a wr => ∃ i : Nat, a = .int .i64 (i : Int) ∧ i ≤ N ∧ Hid (wr.ownsRow w1.heap.size 30 2 v (ring N s i).length (edsC (ring N s i))) ∧ Hid (Below w1.heap.size w1 wr)) (fun _ a _ => N - (intOf a).toNat)
        case atStart => exact ⟨0, rfl, by omega, R0, B2⟩
        case round =>
          clear R0 B2 B1
          obtain ⟨i, rfl, hi, RI, BI⟩ := hrel
          by_cases hin : i < N
          · as_aux_lemma =>
            have di : decide ((i : Int) < (N : Int)) = true := decide_eq_true (by omega)
            obtain ⟨i1, hi1⟩ : ∃ i1, i1 = i + 1 := ⟨_, rfl⟩
            have hwi : IntKind.i64.wrap ((i : Int) + 1) = (i1 : Int) := by rw [IntWalk.i64_in _ (by omega)]; omega
            obtain ⟨p, hp⟩ : ∃ p, p = i * s := ⟨_, rfl⟩
            obtain ⟨q, hq⟩ : ∃ q, q = i1 * s := ⟨_, rfl⟩
            have hpb : p ≤ 5000000 := by rw [hp]; exact Nat.le_trans (Nat.mul_le_mul (show i ≤ 2000 by omega) (show s ≤ 2001 by omega)) (by decide)
            have hqb : q ≤ 5000000 := by rw [hq]; exact Nat.le_trans (Nat.mul_le_mul (show i1 ≤ 2000 by omega) (show s ≤ 2001 by omega)) (by decide)
            have hwp : IntKind.i64.wrap ((i : Int) * (s : Int)) = (p : Int) := by rw [← Int.natCast_mul, ← hp, IntWalk.i64_in _ (by omega)]
            have hwq : IntKind.i64.wrap ((i1 : Int) * (s : Int)) = (q : Int) := by rw [← Int.natCast_mul, ← hq, IntWalk.i64_in _ (by omega)]
            obtain ⟨x, hx⟩ : ∃ x, x = rg N s i := ⟨_, rfl⟩
            obtain ⟨y, hy⟩ : ∃ y, y = rg N s (i + 1) := ⟨_, rfl⟩
            have hmx : (p : Int) % (N : Int) = (x : Int) := by rw [hx, hp]; rfl
            have hmy : (q : Int) % (N : Int) = (y : Int) := by rw [hy, hq, hi1]; rfl
            have htx : (p : Int).tmod (N : Int) = (x : Int) := by rw [Int.tmod_eq_emod_of_nonneg (by omega)]; exact hmx
            have hty : (q : Int).tmod (N : Int) = (y : Int) := by rw [Int.tmod_eq_emod_of_nonneg (by omega)]; exact hmy
            have HE := Lib.hid (show ring N s (i + 1) = ring N s i ++ [((x : Int), (y : Int))] by rw [ring_succ, ringE, ← hx, ← hy])
            have RL := Lib.hid (show (ring N s i).length ≤ 2000 by rw [ring_len]; omega)
            have HI1 := Lib.hid hi1
            clear hp hq hx hy hi1
            go_upto_region 12 with fail
            obtain ⟨w5, hw5⟩ : ∃ w5, w5 = wr.drew := ⟨_, rfl⟩
            have R5 := Lib.hid (show w5.ownsRow w1.heap.size 30 2 u8 (ring N s i).length (edsC (ring N s i)) by rw [hw5]; exact RI.out)
            have B5 := Lib.hid (show Below w1.heap.size w1 w5 by rw [hw5]; exact bdrew BI.out)
            have Z5 := Lib.hid (show w1.heap.size ≤ w5.heap.size from B5.out.size)
            have HW5 := Lib.hid hw5
            clear hw5 RI BI
            refine start_ (n := 16) (S := fun w' => True) (ds := []) #[false, false, false, false, false, false, false, false, false, false, false, false, false, false, false, false] (by kernel_rfl) rfl rfl trivial (fun hHeld => ?_)
            rw [← HW5.out]
            refine pure_ (i := 0) (N := some 40) (v := ?_) (a' := ?_) #[true, false, false, false, false, false, false, false, false, false, false, false, false, false, false, false] rfl rfl (by kernel_rfl) (fun _ _ _ h => h) (Or.inl ⟨by rfl, ?_⟩) ?_ ?_
            rotate_left
            · intro w'
              go_simp
              with_reducible rfl
            rotate_left
            · simp only [Act.put, List.setIfInBounds_toArray, List.set_cons_zero, List.set_cons_succ]
              rfl
            refine pure_ (i := 1) (N := some 41) (v := ?_) (a' := ?_) #[true, true, false, false, false, false, false, false, false, false, false, false, false, false, false, false] rfl rfl (by kernel_rfl) (fun _ _ _ h => h) (Or.inl ⟨by rfl, ?_⟩) ?_ ?_
            rotate_left
            · intro w'
              go_simp
              with_reducible rfl
            rotate_left
            · simp only [Act.put, List.setIfInBounds_toArray, List.set_cons_zero, List.set_cons_succ]
              rfl
            refine pure_ (i := 2) (N := some 42) (v := ?_) (a' := ?_) #[true, true, true, false, false, false, false, false, false, false, false, false, false, false, false, false] rfl rfl (by kernel_rfl) (fun _ _ _ h => h) (Or.inl ⟨by rfl, ?_⟩) ?_ ?_
            rotate_left
            · intro w'
              go_simp
              with_reducible rfl
            rotate_left
            · simp only [Act.put, List.setIfInBounds_toArray, List.set_cons_zero, List.set_cons_succ]
              rfl
            refine pure_ (i := 3) (N := some 43) (v := ?_) (a' := ?_) #[true, true, true, true, false, false, false, false, false, false, false, false, false, false, false, false] rfl rfl (by kernel_rfl) (fun _ _ _ h => h) (Or.inl ⟨by rfl, ?_⟩) ?_ ?_
            rotate_left
            · intro w'
              go_simp
              with_reducible rfl
            rotate_left
            · simp only [Act.put, List.setIfInBounds_toArray, List.set_cons_zero, List.set_cons_succ]
              rfl
            refine pure_ (i := 4) (N := some 44) (v := ?_) (a' := ?_) #[true, true, true, true, true, false, false, false, false, false, false, false, false, false, false, false] rfl rfl (by kernel_rfl) (fun _ _ _ h => h) (Or.inl ⟨by rfl, ?_⟩) ?_ ?_
            rotate_left
            · intro w'
              go_simp
              with_reducible rfl
            rotate_left
            · simp only [Act.put, List.setIfInBounds_toArray, List.set_cons_zero, List.set_cons_succ]
              rfl
            refine pure_ (i := 5) (N := some 45) (v := ?_) (a' := ?_) #[true, true, true, true, true, true, false, false, false, false, false, false, false, false, false, false] rfl rfl (by kernel_rfl) (fun _ _ _ h => h) (Or.inl ⟨by rfl, ?_⟩) ?_ ?_
            rotate_left
            · intro w'
              go_simp
              with_reducible rfl
            rotate_left
            · simp only [Act.put, List.setIfInBounds_toArray, List.set_cons_zero, List.set_cons_succ]
              rfl
            refine pure_ (i := 6) (N := some 46) (v := ?_) (a' := ?_) #[true, true, true, true, true, true, true, false, false, false, false, false, false, false, false, false] rfl rfl (by kernel_rfl) (fun _ _ _ h => h) (Or.inl ⟨by rfl, ?_⟩) ?_ ?_
            rotate_left
            · intro w'
              go_simp
              with_reducible rfl
            rotate_left
            · simp only [Act.put, List.setIfInBounds_toArray, List.set_cons_zero, List.set_cons_succ]
              rfl
            refine pure_ (i := 7) (N := some 47) (v := ?_) (a' := ?_) #[true, true, true, true, true, true, true, true, false, false, false, false, false, false, false, false] rfl rfl (by kernel_rfl) (fun _ _ _ h => h) (Or.inl ⟨by rfl, ?_⟩) ?_ ?_
            rotate_left
            · intro w'
              go_simp
              with_reducible rfl
            rotate_left
            · simp only [Act.put, List.setIfInBounds_toArray, List.set_cons_zero, List.set_cons_succ]
              rfl
            refine pure_ (i := 8) (N := some 48) (v := ?_) (a' := ?_) #[true, true, true, true, true, true, true, true, true, false, false, false, false, false, false, false] rfl rfl (by kernel_rfl) (fun _ _ _ h => h) (Or.inl ⟨by rfl, ?_⟩) ?_ ?_
            rotate_left
            · intro w'
              go_simp
              with_reducible rfl
            rotate_left
            · simp only [Act.put, List.setIfInBounds_toArray, List.set_cons_zero, List.set_cons_succ]
              rfl
            refine pure_ (i := 9) (N := some 49) (v := ?_) (a' := ?_) #[true, true, true, true, true, true, true, true, true, true, false, false, false, false, false, false] rfl rfl (by kernel_rfl) (fun _ _ _ h => h) (Or.inl ⟨by rfl, ?_⟩) ?_ ?_
            rotate_left
            · intro w'
              go_simp
              with_reducible rfl
            rotate_left
            · simp only [Act.put, List.setIfInBounds_toArray, List.set_cons_zero, List.set_cons_succ]
              rfl
            refine pure_ (i := 10) (N := some 50) (v := ?_) (a' := ?_) #[true, true, true, true, true, true, true, true, true, true, true, false, false, false, false, false] rfl rfl (by kernel_rfl) (fun _ _ _ h => h) (Or.inl ⟨by rfl, ?_⟩) ?_ ?_
            rotate_left
            · intro w'
              go_simp
              with_reducible rfl
            rotate_left
            · simp only [Act.put, List.setIfInBounds_toArray, List.set_cons_zero, List.set_cons_succ]
              rfl
            refine pure_ (i := 11) (N := some 51) (v := ?_) (a' := ?_) #[true, true, true, true, true, true, true, true, true, true, true, true, false, false, false, false] rfl rfl (by kernel_rfl) (fun _ _ _ h => h) (Or.inl ⟨by rfl, ?_⟩) ?_ ?_
            rotate_left
            · intro w'
              go_simp
              with_reducible rfl
            rotate_left
            · simp only [Act.put, List.setIfInBounds_toArray, List.set_cons_zero, List.set_cons_succ]
              rfl
            refine pure_ (i := 12) (N := some 52) (v := ?_) (a' := ?_) #[true, true, true, true, true, true, true, true, true, true, true, true, true, false, false, false] rfl rfl (by kernel_rfl) (fun _ _ _ h => h) (Or.inl ⟨by rfl, ?_⟩) ?_ ?_
            rotate_left
            · intro w'
              go_simp
              with_reducible rfl
            rotate_left
            · simp only [Act.put, List.setIfInBounds_toArray, List.set_cons_zero, List.set_cons_succ]
              rfl
            refine one_ (i := 13) (N := some 53) #[true, true, true, true, true, true, true, true, true, true, true, true, true, true, false, false] rfl rfl (by kernel_rfl) (by decide) (fun K hK => ?_)
            refine value_ (v := .slice (some ⟨w5.heap.size, 0, none⟩) 1 1) (w1 := w5.alloc (.cells (edsC [((x : Int), (y : Int))]).toArray 30)) (by rfl) rfl (exec_bs rfl [(0, .agg (edC ((x : Int), (y : Int))).toArray)] (by simp only [List.map_toArray, List.map_cons, List.map_nil]; rfl) (slice_pair1 ((x : Int), (y : Int)) w5)) ?_
            refine hK.out _ _ trivial (fun hHeld => ?_)
            clear hK K
            refine norm_ (a' := ?_) ?_ ?_
            rotate_left
            · show Act.put _ (some 53) _ = _
              simp only [Act.put, List.setIfInBounds_toArray, List.set_cons_zero, List.set_cons_succ]
              rfl
            refine one_ (i := 14) (N := some 54) #[true, true, true, true, true, true, true, true, true, true, true, true, true, true, true, false] rfl rfl (by kernel_rfl) (by decide) (fun K hK => ?_)
            refine step_append_more (w0 := w5) 1 (by omega) w1.heap.size (by rfl) (.tmp 40) (.tmp 53) 22 30 _ 2 16 rfl Try.underlying22 infoPair3 rfl (by omega) (by omega) u8 (ring N s i).length (edsC (ring N s i)) (edsC [((x : Int), (y : Int))]) rfl rfl rfl (edsC_one _) R5.out (Below.refl _ _) Z5.out (by have := RL.out; omega) ?_
            intro v1 w6 hown hbe hg hat
            have HOWN := Lib.hid hown; have B6 := Lib.hid (B5.out.trans hbe)
            clear hown hbe hg hat
            refine hK.out _ _ trivial (fun hHeld => ?_)
            clear hK K
            refine norm_ (a' := ?_) ?_ ?_
            rotate_left
            · show Act.put _ (some 54) _ = _
              simp only [Act.put, List.setIfInBounds_toArray, List.set_cons_zero, List.set_cons_succ]
              rfl
            refine pure_ (i := 15) (N := some 8) (v := ?_) (a' := ?_) #[true, true, true, true, true, true, true, true, true, true, true, true, true, true, true, true] rfl rfl (by kernel_rfl) (fun _ _ _ h => h) (Or.inl ⟨by rfl, ?_⟩) ?_ ?_
            rotate_left
            · intro w'
              go_simp
              with_reducible rfl
            rotate_left
            · simp only [Act.put, List.setIfInBounds_toArray, List.set_cons_zero, List.set_cons_succ]
              rfl
            refine done_ (by kernel_rfl) ?_

            go_wp2_with fail
            go_roundw
            case rel => exact ⟨i + 1, (by rw [HI1.out]), by omega, Lib.hid (by rw [HE.out, List.length_append, edsC_append]; exact HOWN.out), B6⟩
            case measure => simp [intOf]; have := HI1.out; omega
          · as_aux_lemma =>
            have di : decide ((i : Int) < (N : Int)) = false := decide_eq_false (by omega)
            obtain rfl : N = i := by omega
            obtain ⟨A8, c8, rfl, hE8⟩ := own_edges RI.out
            obtain ⟨g8, hA8, hg8⟩ : ∃ g8, A8 = some ⟨g8, 0, none⟩ ∧ w1.heap.size ≤ g8 := by
              obtain ⟨g, c, hv, hb, _⟩ := RI.out.form (by rw [ring_len]; omega)
              injection hv with hv
              exact ⟨g, hv, hb⟩
            subst hA8
            have hcap := (own_cap RI.out).1
            have hcm := (own_cap RI.out).2.1
            unfold maxLen at hcm
            rw [ring_len] at hcap RI ⊢
            have RL := Lib.hid (ring_len N s N).symm
            have E8 := Lib.hid hE8
            have HN0 := Lib.hid (show 0 < N by omega)
            clear hE8
            go_wp2_with fail
            refine (knots_at E8.out HNb.out RL.out HNc.out).mono ?_
            rintro e w3 ⟨hb, A3, c3, K, rfl, hKl, hKat, hK⟩
            obtain ⟨g3, rfl, hKc⟩ := hKat.form (by omega)
            rw [hKl] at hKc
            have B3 := Lib.hid (BI.out.trans (hb.mono BI.out.size))
            have KZ := Lib.hid (show ∀ k, k < N → w3.cell? ⟨g3, k, none⟩ = some (.int .i64 0) from fun k hk => by rw [hKc k hk, ring_knot HN0.out HG.out hK hk]; rfl)
            have R3 := Lib.hid (show w3.ownsRow w1.heap.size 30 2 (.slice (some ⟨g8, 0, none⟩) N c8) N (edsC (ring N s N)) from own_keep RI.out (fun k hk => hb.block k (own_lt' RI.out hk)))
            clear hb hKl hKat hK hKc RI BI E8
            go_wp2_with fail
            go_loopw [60] (fun a wr => ∃ i : Nat, a = .int .i64 (i : Int) ∧ i ≤ N ∧ w3 = wr) (fun a _ => N - (intOf a).toNat)
            case atStart => exact ⟨0, rfl, by omega, rfl⟩
            case round =>
              obtain ⟨i, rfl, hi, rfl⟩ := hrel
              by_cases hin : i < N
              · have di : decide ((i : Int) < (N : Int)) = true := decide_eq_true (by omega)
                have hwi : IntKind.i64.wrap ((i : Int) + 1) = ((i + 1 : Nat) : Int) := by rw [IntWalk.i64_in _ (by omega)]; rfl
                have cp := KZ.out i hin
                go_wp2_with fail
                go_roundw
                case rel => exact ⟨i + 1, (by first | trivial | go_num), by omega, by trivial⟩
                case measure => simp [intOf]; omega
              · as_aux_lemma =>
                have di : decide ((i : Int) < (N : Int)) = false := decide_eq_false (by omega)
                obtain ⟨hb1, hb2, hb3, hb4, hb7⟩ := HB.out
                clear KZ
                go_upto_region 21 with fail
                clear hb1 hb2 hb3 hb4 hb7
                obtain ⟨c1, hc1⟩ : ∃ c1, c1 = c0 + 1 := ⟨_, rfl⟩
                have hwc : IntKind.i64.wrap ((c0 : Int) + 1) = (c1 : Int) := by rw [IntWalk.i64_in _ (by omega)]; omega
                have i0 : (0 : Int) ≤ (c0 : Int) := by omega
                have i1 : (c0 : Int) ≤ (c8 : Int) := by omega
                have i2 : (0 : Int) ≤ (c1 : Int) := by omega
                have i3 : (c1 : Int) ≤ (N : Int) := by omega
                have i4 : (N : Int) ≤ (c8 : Int) := by omega
                have n0 : c0 ≤ c8 := by omega
                have n1 : c1 ≤ N := by omega
                have n2 : c0 ≤ c1 := by omega
                have i5 : (c0 : Int) ≤ (c1 : Int) := by omega
                have HC1 := Lib.hid hc1
                obtain ⟨w5, hw5⟩ : ∃ w5, w5 = w3.drew := ⟨_, rfl⟩
                have R5 := Lib.hid (show w5.ownsRow w1.heap.size 30 2 (.slice (some ⟨g8, 0, none⟩) N c8) N (edsC (ring N s N)) by rw [hw5]; exact R3.out)
                have B5 := Lib.hid (show Below w1.heap.size w1 w5 by rw [hw5]; exact bdrew B3.out)
                have Z5 := Lib.hid (show w1.heap.size ≤ w5.heap.size from B5.out.size)
                have G5 := Lib.hid (show g8 < w5.heap.size from own_lt' R5.out rfl)
                have RC := Lib.hid (show ∀ j u, (edsC (ring N s N))[j]? = some u → w5.cell? ⟨g8, j, none⟩ = some u from fun j u hu => by rw [R5.out.cellAt j (by have := (List.getElem?_eq_some_iff.1 hu).1; rw [edsC_len, ring_len] at this; exact this)]; exact hu)
                have RL2 := Lib.hid (edsC_len (ring N s N))
                have HW5 := Lib.hid hw5
                clear hw5 R3 hc1
                by_cases hcc : c8 = c1
                · as_aux_lemma =>
                  refine start_ (n := 14) (S := fun w' => True) (ds := []) #[false, false, false, false, false, false, false, false, false, false, false, false, false, false] (by kernel_rfl) rfl rfl trivial (fun hHeld => ?_)
                  rw [← HW5.out]
                  refine pure_ (i := 0) (N := some 74) (v := ?_) (a' := ?_) #[true, false, false, false, false, false, false, false, false, false, false, false, false, false] rfl rfl (by kernel_rfl) (fun _ _ _ h => h) (Or.inl ⟨by rfl, ?_⟩) ?_ ?_
                  rotate_left
                  · intro w'
                    go_simp
                    with_reducible rfl
                  rotate_left
                  · simp only [Act.put, List.setIfInBounds_toArray, List.set_cons_zero, List.set_cons_succ]
                    rfl
                  refine pure_ (i := 2) (N := some 76) (v := ?_) (a' := ?_) #[true, false, true, false, false, false, false, false, false, false, false, false, false, false] rfl rfl (by kernel_rfl) (fun _ _ _ h => h) (Or.inl ⟨by rfl, ?_⟩) ?_ ?_
                  rotate_left
                  · intro w'
                    go_simp
                    with_reducible rfl
                  rotate_left
                  · simp only [Act.put, List.setIfInBounds_toArray, List.set_cons_zero, List.set_cons_succ]
                    rfl
                  refine pure_ (i := 3) (N := some 77) (v := ?_) (a' := ?_) #[true, false, true, true, false, false, false, false, false, false, false, false, false, false] rfl rfl (by kernel_rfl) (fun _ _ _ h => h) (Or.inl ⟨by rfl, ?_⟩) ?_ ?_
                  rotate_left
                  · intro w'
                    go_simp
                    with_reducible rfl
                  rotate_left
                  · simp only [Act.put, List.setIfInBounds_toArray, List.set_cons_zero, List.set_cons_succ]
                    rfl
                  refine pure_ (i := 4) (N := some 78) (v := ?_) (a' := ?_) #[true, false, true, true, true, false, false, false, false, false, false, false, false, false] rfl rfl (by kernel_rfl) (fun _ _ _ h => h) (Or.inl ⟨by rfl, ?_⟩) ?_ ?_
                  rotate_left
                  · intro w'
                    go_simp
                    with_reducible rfl
                  rotate_left
                  · simp only [Act.put, List.setIfInBounds_toArray, List.set_cons_zero, List.set_cons_succ]
                    rfl
                  refine pure_ (i := 6) (N := some 80) (v := ?_) (a' := ?_) #[true, false, true, true, true, false, true, false, false, false, false, false, false, false] rfl rfl (by kernel_rfl) (fun _ _ _ h => h) (Or.inl ⟨by rfl, ?_⟩) ?_ ?_
                  rotate_left
                  · intro w'
                    go_simp
                    with_reducible rfl
                  rotate_left
                  · simp only [Act.put, List.setIfInBounds_toArray, List.set_cons_zero, List.set_cons_succ]
                    rfl
                  refine pure_ (i := 7) (N := some 81) (v := ?_) (a' := ?_) #[true, false, true, true, true, false, true, true, false, false, false, false, false, false] rfl rfl (by kernel_rfl) (fun _ _ _ h => h) (Or.inl ⟨by rfl, ?_⟩) ?_ ?_
                  rotate_left
                  · intro w'
                    go_simp
                    with_reducible rfl
                  rotate_left
                  · simp only [Act.put, List.setIfInBounds_toArray, List.set_cons_zero, List.set_cons_succ]
                    rfl
                  refine pure_ (i := 8) (N := some 82) (v := ?_) (a' := ?_) #[true, false, true, true, true, false, true, true, true, false, false, false, false, false] rfl rfl (by kernel_rfl) (fun _ _ _ h => h) (Or.inl ⟨by rfl, ?_⟩) ?_ ?_
                  rotate_left
                  · intro w'
                    go_simp
                    with_reducible rfl
                  rotate_left
                  · simp only [Act.put, List.setIfInBounds_toArray, List.set_cons_zero, List.set_cons_succ]
                    rfl
                  refine pure_ (i := 9) (N := some 83) (v := ?_) (a' := ?_) #[true, false, true, true, true, false, true, true, true, true, false, false, false, false] rfl rfl (by kernel_rfl) (fun _ _ _ h => h) (Or.inl ⟨by rfl, ?_⟩) ?_ ?_
                  rotate_left
                  · intro w'
                    go_simp
                    with_reducible rfl
                  rotate_left
                  · simp only [Act.put, List.setIfInBounds_toArray, List.set_cons_zero, List.set_cons_succ]
                    rfl
                  refine pure_ (i := 13) (N := some 87) (v := ?_) (a' := ?_) #[true, false, true, true, true, false, true, true, true, true, false, false, false, true] rfl rfl (by kernel_rfl) (fun _ _ _ h => h) (Or.inl ⟨by rfl, ?_⟩) ?_ ?_
                  rotate_left
                  · intro w'
                    go_simp
                    with_reducible rfl
                  rotate_left
                  · simp only [Act.put, List.setIfInBounds_toArray, List.set_cons_zero, List.set_cons_succ]
                    rfl
                  refine one_ (i := 1) (N := some 75) #[true, true, true, true, true, false, true, true, true, true, false, false, false, true] rfl rfl (by kernel_rfl) (by decide) (fun K hK => ?_)
                  refine value_ (v := .slice (some ⟨w5.heap.size, 0, none⟩) 0 0) (w1 := w5.alloc (.cells #[] 30)) (by rfl) rfl (exec_bs rfl [] (by simp) (slice_pair0 w5)) ?_
                  refine hK.out _ _ trivial (fun hHeld => ?_)
                  clear hK K
                  refine norm_ (a' := ?_) ?_ ?_
                  rotate_left
                  · show Act.put _ (some 75) _ = _
                    simp only [Act.put, List.setIfInBounds_toArray, List.set_cons_zero, List.set_cons_succ]
                    rfl
                  refine one_ (i := 5) (N := some 79) #[true, true, true, true, true, true, true, true, true, true, false, false, false, true] rfl rfl (by kernel_rfl) (by decide) (fun K hK => ?_)
                  refine step_append_from (w0 := w5) c0 c1 ⟨g8, 0, none⟩ w1.heap.size (by rfl) (.tmp 75) (.tmp 78) 22 30 _ 2 16 rfl Try.underlying22 infoPair3 rfl (by omega) (by omega) (.slice (some ⟨w5.heap.size, 0, none⟩) 0 0) 0 [] (edsC ((ring N s N).take c0)) rfl rfl (by rw [edsC_len, List.length_take, ring_len]; omega) (fun j u hu => by rw [add_plain, Below.cell (below_alloc (Below.refl _ _) _) (p := ⟨g8, j, none⟩) G5.out]; refine RC.out j u ?_; rw [edsC_take, List.getElem?_take] at hu; split at hu; exact hu; cases hu) (edsC_one _) (World.ownsRow_lit (base := w1.heap.size) (e := 30) (size := 2) w5 #[] 0 Z5.out (by decide) rfl) (below_alloc (Below.refl _ _) _ |>.mono Z5.out) (Nat.le_trans Z5.out (by simp only [World.alloc, Array.size_push]; omega)) (by omega) ?_
                  intro v1 w6 hown hbe hg hat
                  have GC := Lib.hid (show ∀ j u, (edsC (ring N s N))[j]? = some u → w6.cell? ⟨g8, j, none⟩ = some u from fun j u hu => hg.cell_keep (((below_alloc (Below.refl _ _) _).cell (p := ⟨g8, j, none⟩) G5.out).trans (RC.out j u hu)) (fun e => by have e' : w5.heap.size = g8 := (by simpa [Value.ownBlock] using e); have := G5.out; omega))
                  rw [Nat.zero_add, List.nil_append] at hown
                  have HOWN := Lib.hid hown; have B6 := Lib.hid (B5.out.trans hbe); have Z6 := Lib.hid B6.out.size
                  clear hown hbe hg hat
                  refine hK.out _ _ trivial (fun hHeld => ?_)
                  clear hK K
                  refine norm_ (a' := ?_) ?_ ?_
                  rotate_left
                  · show Act.put _ (some 79) _ = _
                    simp only [Act.put, List.setIfInBounds_toArray, List.set_cons_zero, List.set_cons_succ]
                    rfl
                  refine one_ (i := 10) (N := some 84) #[true, true, true, true, true, true, true, true, true, true, true, false, false, true] rfl rfl (by kernel_rfl) (by decide) (fun K hK => ?_)
                  refine step_append_from (w0 := w6) (N - c1) 0 ⟨g8, 0, none⟩ w1.heap.size (by rfl) (.tmp 79) (.tmp 83) 22 30 _ 2 16 rfl Try.underlying22 infoPair3 rfl (by omega) (by omega) v1 c0 (edsC ((ring N s N).take c0)) (edsC ((ring N s N).drop c1)) rfl rfl (by rw [edsC_len, List.length_drop, ring_len]) (fun j u hu => absurd (List.getElem?_eq_some_iff.1 hu).1 (by rw [edsC_len, List.length_drop, ring_len]; omega)) (edsC_one _) HOWN.out (Below.refl _ _) Z6.out (by omega) ?_
                  intro v2 w7 hown hbe hg hat
                  have hown' : w7.ownsRow w1.heap.size 30 2 v2 (cutR N s c0).length (edsC (cutR N s c0)) := (by rw [cut_len hb5, cutR, edsC_append, ← HC1.out]; exact hown)
                  obtain ⟨A2, cc, rfl, hE2⟩ := own_edges hown'
                  have HE2 := Lib.hid hE2; have B7 := Lib.hid (B6.out.trans hbe); have L2b := Lib.hid (show (cutR N s c0).length ≤ 1000000 by rw [cut_len hb5]; omega)
                  clear hown hown' hbe hg hat hE2
                  refine hK.out _ _ trivial (fun hHeld => ?_)
                  clear hK K
                  refine norm_ (a' := ?_) ?_ ?_
                  rotate_left
                  · show Act.put _ (some 84) _ = _
                    simp only [Act.put, List.setIfInBounds_toArray, List.set_cons_zero, List.set_cons_succ]
                    rfl
                  refine one_ (i := 11) (N := some 85) #[true, true, true, true, true, true, true, true, true, true, true, true, false, true] rfl rfl (by kernel_rfl) (by decide) (fun K hK => ?_)
                  refine goes_ Try.func11 (by kernel_rfl) rfl #[.int .i64 (N : Int), .slice A2 (cutR N s c0).length cc] (by rfl) rfl rfl (by simp only [List.map_toArray, List.map_cons, List.map_nil]; rfl) ?_
                  with_reducible refine (knots_at HE2.out HNb.out rfl L2b.out).mono ?_
                  rintro e w8 ⟨hb, A9, c9, K9, rfl, hKl, hKat, hK⟩
                  refine ⟨_, rfl, ?_⟩
                  obtain ⟨g9, rfl, hKc⟩ := hKat.form (by omega)
                  rw [hKl] at hKc
                  have HK9 := Lib.hid (And.intro hK hKc)
                  have B9 := Lib.hid (show Below w.heap.size w w8 from HB1.out.trans ((B7.out.trans (hb.mono B7.out.size)).mono HLT.out))
                  clear hb hKl hKat hK hKc
                  refine hK.out _ _ trivial (fun hHeld => ?_)
                  clear hK K
                  refine norm_ (a' := ?_) ?_ ?_
                  rotate_left
                  · show Act.put _ (some 85) _ = _
                    simp only [Act.put, List.setIfInBounds_toArray, List.set_cons_zero, List.set_cons_succ]
                    rfl
                  refine pure_ (i := 12) (N := some 86) (v := ?_) (a' := ?_) #[true, true, true, true, true, true, true, true, true, true, true, true, true, true] rfl rfl (by kernel_rfl) (fun _ _ _ h => h) (Or.inl ⟨by rfl, ?_⟩) ?_ ?_
                  rotate_left
                  · intro w'
                    go_simp
                    with_reducible rfl
                  rotate_left
                  · simp only [Act.put, List.setIfInBounds_toArray, List.set_cons_zero, List.set_cons_succ]
                    rfl
                  refine done_ (by kernel_rfl) ?_

                  have KI := Lib.hid (show ∀ k, k < N → w8.cell? ⟨g9, k, none⟩ = some (.int .i64 (k : Int)) from fun k hk => by rw [HK9.out.2 k hk, cut_knot HN0.out HG.out hb5 HK9.out.1 hk])
                  clear HK9
                  go_wp2_with fail
                  go_loopw [87] (fun a wr => ∃ i : Nat, a = .int .i64 (i : Int) ∧ i ≤ N ∧ w8 = wr) (fun a _ => N - (intOf a).toNat)
                  case atStart => exact ⟨0, rfl, by omega, rfl⟩
                  case round =>
                    obtain ⟨i, rfl, hi, rfl⟩ := hrel
                    by_cases hin : i < N
                    · have di : decide ((i : Int) < (N : Int)) = true := decide_eq_true (by omega)
                      have hwi : IntKind.i64.wrap ((i : Int) + 1) = ((i + 1 : Nat) : Int) := by rw [IntWalk.i64_in _ (by omega)]; rfl
                      have cp := KI.out i hin
                      go_wp2_with fail
                      go_roundw
                      case rel => exact ⟨i + 1, (by first | trivial | go_num), by omega, by trivial⟩
                      case measure => simp [intOf]; omega
                    · have di : decide ((i : Int) < (N : Int)) = false := decide_eq_false (by omega)
                      go_wp2_with fail
                      go_ret
                      exact ⟨rfl, B9.out⟩
                · as_aux_lemma =>
                  refine start_ (n := 14) (S := fun w' => True) (ds := []) #[false, false, false, false, false, false, false, false, false, false, false, false, false, false] (by kernel_rfl) rfl rfl trivial (fun hHeld => ?_)
                  rw [← HW5.out]
                  refine pure_ (i := 0) (N := some 74) (v := ?_) (a' := ?_) #[true, false, false, false, false, false, false, false, false, false, false, false, false, false] rfl rfl (by kernel_rfl) (fun _ _ _ h => h) (Or.inl ⟨by rfl, ?_⟩) ?_ ?_
                  rotate_left
                  · intro w'
                    go_simp
                    with_reducible rfl
                  rotate_left
                  · simp only [Act.put, List.setIfInBounds_toArray, List.set_cons_zero, List.set_cons_succ]
                    rfl
                  refine pure_ (i := 2) (N := some 76) (v := ?_) (a' := ?_) #[true, false, true, false, false, false, false, false, false, false, false, false, false, false] rfl rfl (by kernel_rfl) (fun _ _ _ h => h) (Or.inl ⟨by rfl, ?_⟩) ?_ ?_
                  rotate_left
                  · intro w'
                    go_simp
                    with_reducible rfl
                  rotate_left
                  · simp only [Act.put, List.setIfInBounds_toArray, List.set_cons_zero, List.set_cons_succ]
                    rfl
                  refine pure_ (i := 3) (N := some 77) (v := ?_) (a' := ?_) #[true, false, true, true, false, false, false, false, false, false, false, false, false, false] rfl rfl (by kernel_rfl) (fun _ _ _ h => h) (Or.inl ⟨by rfl, ?_⟩) ?_ ?_
                  rotate_left
                  · intro w'
                    go_simp
                    with_reducible rfl
                  rotate_left
                  · simp only [Act.put, List.setIfInBounds_toArray, List.set_cons_zero, List.set_cons_succ]
                    rfl
                  refine pure_ (i := 4) (N := some 78) (v := ?_) (a' := ?_) #[true, false, true, true, true, false, false, false, false, false, false, false, false, false] rfl rfl (by kernel_rfl) (fun _ _ _ h => h) (Or.inl ⟨by rfl, ?_⟩) ?_ ?_
                  rotate_left
                  · intro w'
                    go_simp
                    with_reducible rfl
                  rotate_left
                  · simp only [Act.put, List.setIfInBounds_toArray, List.set_cons_zero, List.set_cons_succ]
                    rfl
                  refine pure_ (i := 6) (N := some 80) (v := ?_) (a' := ?_) #[true, false, true, true, true, false, true, false, false, false, false, false, false, false] rfl rfl (by kernel_rfl) (fun _ _ _ h => h) (Or.inl ⟨by rfl, ?_⟩) ?_ ?_
                  rotate_left
                  · intro w'
                    go_simp
                    with_reducible rfl
                  rotate_left
                  · simp only [Act.put, List.setIfInBounds_toArray, List.set_cons_zero, List.set_cons_succ]
                    rfl
                  refine pure_ (i := 7) (N := some 81) (v := ?_) (a' := ?_) #[true, false, true, true, true, false, true, true, false, false, false, false, false, false] rfl rfl (by kernel_rfl) (fun _ _ _ h => h) (Or.inl ⟨by rfl, ?_⟩) ?_ ?_
                  rotate_left
                  · intro w'
                    go_simp
                    with_reducible rfl
                  rotate_left
                  · simp only [Act.put, List.setIfInBounds_toArray, List.set_cons_zero, List.set_cons_succ]
                    rfl
                  refine pure_ (i := 8) (N := some 82) (v := ?_) (a' := ?_) #[true, false, true, true, true, false, true, true, true, false, false, false, false, false] rfl rfl (by kernel_rfl) (fun _ _ _ h => h) (Or.inl ⟨by rfl, ?_⟩) ?_ ?_
                  rotate_left
                  · intro w'
                    go_simp
                    with_reducible rfl
                  rotate_left
                  · simp only [Act.put, List.setIfInBounds_toArray, List.set_cons_zero, List.set_cons_succ]
                    rfl
                  refine pure_ (i := 9) (N := some 83) (v := ?_) (a' := ?_) #[true, false, true, true, true, false, true, true, true, true, false, false, false, false] rfl rfl (by kernel_rfl) (fun _ _ _ h => h) (Or.inl ⟨by rfl, ?_⟩) ?_ ?_
                  rotate_left
                  · intro w'
                    go_simp
                    with_reducible rfl
                  rotate_left
                  · simp only [Act.put, List.setIfInBounds_toArray, List.set_cons_zero, List.set_cons_succ]
                    rfl
                  refine pure_ (i := 13) (N := some 87) (v := ?_) (a' := ?_) #[true, false, true, true, true, false, true, true, true, true, false, false, false, true] rfl rfl (by kernel_rfl) (fun _ _ _ h => h) (Or.inl ⟨by rfl, ?_⟩) ?_ ?_
                  rotate_left
                  · intro w'
                    go_simp
                    with_reducible rfl
                  rotate_left
                  · simp only [Act.put, List.setIfInBounds_toArray, List.set_cons_zero, List.set_cons_succ]
                    rfl
                  refine one_ (i := 1) (N := some 75) #[true, true, true, true, true, false, true, true, true, true, false, false, false, true] rfl rfl (by kernel_rfl) (by decide) (fun K hK => ?_)
                  refine value_ (v := .slice (some ⟨w5.heap.size, 0, none⟩) 0 0) (w1 := w5.alloc (.cells #[] 30)) (by rfl) rfl (exec_bs rfl [] (by simp) (slice_pair0 w5)) ?_
                  refine hK.out _ _ trivial (fun hHeld => ?_)
                  clear hK K
                  refine norm_ (a' := ?_) ?_ ?_
                  rotate_left
                  · show Act.put _ (some 75) _ = _
                    simp only [Act.put, List.setIfInBounds_toArray, List.set_cons_zero, List.set_cons_succ]
                    rfl
                  refine one_ (i := 5) (N := some 79) #[true, true, true, true, true, true, true, true, true, true, false, false, false, true] rfl rfl (by kernel_rfl) (by decide) (fun K hK => ?_)
                  refine step_append_from (w0 := w5) c0 c8 ⟨g8, 0, none⟩ w1.heap.size (by rfl) (.tmp 75) (.tmp 78) 22 30 _ 2 16 rfl Try.underlying22 infoPair3 rfl (by omega) (by omega) (.slice (some ⟨w5.heap.size, 0, none⟩) 0 0) 0 [] (edsC ((ring N s N).take c0)) rfl rfl (by rw [edsC_len, List.length_take, ring_len]; omega) (fun j u hu => by rw [add_plain, Below.cell (below_alloc (Below.refl _ _) _) (p := ⟨g8, j, none⟩) G5.out]; refine RC.out j u ?_; rw [edsC_take, List.getElem?_take] at hu; split at hu; exact hu; cases hu) (edsC_one _) (World.ownsRow_lit (base := w1.heap.size) (e := 30) (size := 2) w5 #[] 0 Z5.out (by decide) rfl) (below_alloc (Below.refl _ _) _ |>.mono Z5.out) (Nat.le_trans Z5.out (by simp only [World.alloc, Array.size_push]; omega)) (by omega) ?_
                  intro v1 w6 hown hbe hg hat
                  have GC := Lib.hid (show ∀ j u, (edsC (ring N s N))[j]? = some u → w6.cell? ⟨g8, j, none⟩ = some u from fun j u hu => hg.cell_keep (((below_alloc (Below.refl _ _) _).cell (p := ⟨g8, j, none⟩) G5.out).trans (RC.out j u hu)) (fun e => by have e' : w5.heap.size = g8 := (by simpa [Value.ownBlock] using e); have := G5.out; omega))
                  rw [Nat.zero_add, List.nil_append] at hown
                  have HOWN := Lib.hid hown; have B6 := Lib.hid (B5.out.trans hbe); have Z6 := Lib.hid B6.out.size
                  clear hown hbe hg hat
                  refine hK.out _ _ trivial (fun hHeld => ?_)
                  clear hK K
                  refine norm_ (a' := ?_) ?_ ?_
                  rotate_left
                  · show Act.put _ (some 79) _ = _
                    simp only [Act.put, List.setIfInBounds_toArray, List.set_cons_zero, List.set_cons_succ]
                    rfl
                  refine one_ (i := 10) (N := some 84) #[true, true, true, true, true, true, true, true, true, true, true, false, false, true] rfl rfl (by kernel_rfl) (by decide) (fun K hK => ?_)
                  refine step_append_from (w0 := w6) (N - c1) (c8 - c1) ⟨g8, c1 * 2, none⟩ w1.heap.size (by rfl) (.tmp 79) (.tmp 83) 22 30 _ 2 16 rfl Try.underlying22 infoPair3 rfl (by omega) (by omega) v1 c0 (edsC ((ring N s N).take c0)) (edsC ((ring N s N).drop c1)) rfl rfl (by rw [edsC_len, List.length_drop, ring_len]) (fun j u hu => by rw [add_at]; refine GC.out _ _ ?_; rw [edsC_drop, List.getElem?_drop] at hu; exact hu) (edsC_one _) HOWN.out (Below.refl _ _) Z6.out (by omega) ?_
                  intro v2 w7 hown hbe hg hat
                  have hown' : w7.ownsRow w1.heap.size 30 2 v2 (cutR N s c0).length (edsC (cutR N s c0)) := (by rw [cut_len hb5, cutR, edsC_append, ← HC1.out]; exact hown)
                  obtain ⟨A2, cc, rfl, hE2⟩ := own_edges hown'
                  have HE2 := Lib.hid hE2; have B7 := Lib.hid (B6.out.trans hbe); have L2b := Lib.hid (show (cutR N s c0).length ≤ 1000000 by rw [cut_len hb5]; omega)
                  clear hown hown' hbe hg hat hE2
                  refine hK.out _ _ trivial (fun hHeld => ?_)
                  clear hK K
                  refine norm_ (a' := ?_) ?_ ?_
                  rotate_left
                  · show Act.put _ (some 84) _ = _
                    simp only [Act.put, List.setIfInBounds_toArray, List.set_cons_zero, List.set_cons_succ]
                    rfl
                  refine one_ (i := 11) (N := some 85) #[true, true, true, true, true, true, true, true, true, true, true, true, false, true] rfl rfl (by kernel_rfl) (by decide) (fun K hK => ?_)
                  refine goes_ Try.func11 (by kernel_rfl) rfl #[.int .i64 (N : Int), .slice A2 (cutR N s c0).length cc] (by rfl) rfl rfl (by simp only [List.map_toArray, List.map_cons, List.map_nil]; rfl) ?_
                  with_reducible refine (knots_at HE2.out HNb.out rfl L2b.out).mono ?_
                  rintro e w8 ⟨hb, A9, c9, K9, rfl, hKl, hKat, hK⟩
                  refine ⟨_, rfl, ?_⟩
                  obtain ⟨g9, rfl, hKc⟩ := hKat.form (by omega)
                  rw [hKl] at hKc
                  have HK9 := Lib.hid (And.intro hK hKc)
                  have B9 := Lib.hid (show Below w.heap.size w w8 from HB1.out.trans ((B7.out.trans (hb.mono B7.out.size)).mono HLT.out))
                  clear hb hKl hKat hK hKc
                  refine hK.out _ _ trivial (fun hHeld => ?_)
                  clear hK K
                  refine norm_ (a' := ?_) ?_ ?_
                  rotate_left
                  · show Act.put _ (some 85) _ = _
                    simp only [Act.put, List.setIfInBounds_toArray, List.set_cons_zero, List.set_cons_succ]
                    rfl
                  refine pure_ (i := 12) (N := some 86) (v := ?_) (a' := ?_) #[true, true, true, true, true, true, true, true, true, true, true, true, true, true] rfl rfl (by kernel_rfl) (fun _ _ _ h => h) (Or.inl ⟨by rfl, ?_⟩) ?_ ?_
                  rotate_left
                  · intro w'
                    go_simp
                    with_reducible rfl
                  rotate_left
                  · simp only [Act.put, List.setIfInBounds_toArray, List.set_cons_zero, List.set_cons_succ]
                    rfl
                  refine done_ (by kernel_rfl) ?_

                  have KI := Lib.hid (show ∀ k, k < N → w8.cell? ⟨g9, k, none⟩ = some (.int .i64 (k : Int)) from fun k hk => by rw [HK9.out.2 k hk, cut_knot HN0.out HG.out hb5 HK9.out.1 hk])
                  clear HK9
                  go_wp2_with fail
                  go_loopw [87] (fun a wr => ∃ i : Nat, a = .int .i64 (i : Int) ∧ i ≤ N ∧ w8 = wr) (fun a _ => N - (intOf a).toNat)
                  case atStart => exact ⟨0, rfl, by omega, rfl⟩
                  case round =>
                    obtain ⟨i, rfl, hi, rfl⟩ := hrel
                    by_cases hin : i < N
                    · have di : decide ((i : Int) < (N : Int)) = true := decide_eq_true (by omega)
                      have hwi : IntKind.i64.wrap ((i : Int) + 1) = ((i + 1 : Nat) : Int) := by rw [IntWalk.i64_in _ (by omega)]; rfl
                      have cp := KI.out i hin
                      go_wp2_with fail
                      go_roundw
                      case rel => exact ⟨i + 1, (by first | trivial | go_num), by omega, by trivial⟩
                      case measure => simp [intOf]; omega
                    · have di : decide ((i : Int) < (N : Int)) = false := decide_eq_false (by omega)
                      go_wp2_with fail
                      go_ret
                      exact ⟨rfl, B9.out⟩
      · have hsN : s ≠ N + 1 := fun e => hg (by rw [e]; simp)
        obtain ⟨g, hge⟩ : ∃ g, g = Nat.gcd s N := ⟨_, rfl⟩
        have hg1 : ¬ (g : Int) = 1 := by omega
        have hws : IntKind.i64.wrap ((s : Int) + 1) = ((s + 1 : Nat) : Int) := by rw [IntWalk.i64_in _ (by omega)]; rfl
        have HGE := Lib.hid hge
        clear hg hge
        go_wp2_with (first | (go_at_call 13; refine (gcd_calls hs6 HNc.out).mono ?_; rintro e w2 ⟨rfl, q, hq⟩; rw [← HGE.out]; have B2 := Lib.hid (show Below w1.heap.size w1 w2 by rw [hq]; exact B1.out.trans (below_drewN _)); clear hq))
        go_roundw
        case rel => exact ⟨s + 1, (by first | trivial | go_num), by omega, B2⟩
        case measure => simp [intOf]; omega
#print axioms rings_calls
end Go.Proofs.YtgbeigippahbaaaK
