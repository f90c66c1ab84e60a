/- The reference's disk (tambourref12), further: Flush, Fall, Read, New. (Printed by mkSQ.py.) -/
import Derived.Test.YtpdnfaggdheneaaDoorSQ
namespace Go.Proofs.YtpdnfaggdheneaaDoorS
open Go.RowKit Go.Maps Go.Proofs Go.Proofs.YtpdnfaggdheneaaDoorW.PrintWords Go.Proofs.YtpdnfaggdheneaaDoorW.PrintLast

theorem rwrite_off {w : World} {DR : Nat} (i : Int) (s : ByteArray) (k2 : w.cell? ⟨DR, 2, none⟩ = some (.bool true)) :
    Calls Tryd.prog 17 #[.pointer (some ⟨DR, 0, none⟩), .int .i64 i, .string s] w fun e w' => e = .returned (.int .i64 20) ∧ w' = w := by
  go_enter Tryd.func17, Tryd.ntmps17
  go_wp2
  go_ret
  exact ⟨rfl, rfl⟩
theorem rwrite_out {w : World} {DR n : Nat} (i : Int) (s : ByteArray) (k0 : w.cell? ⟨DR, 0, none⟩ = some (.int .i64 (n : Int))) (k2 : w.cell? ⟨DR, 2, none⟩ = some (.bool false)) (h : ¬ (0 ≤ i ∧ i < n ∧ s.size ≤ 512)) :
    Calls Tryd.prog 17 #[.pointer (some ⟨DR, 0, none⟩), .int .i64 i, .string s] w fun e w' => e = .returned (.int .i64 1) ∧ w' = w := by
  have hor : i < 0 ∨ (¬ i < 0 ∧ (n : Int) ≤ i) ∨ (¬ i < 0 ∧ ¬ (n : Int) ≤ i ∧ (512 : Int) < (s.size : Int)) := by omega
  have fin : ∀ (b1 b2 b3 : Bool), decide (i < 0) = b1 → decide ((n : Int) ≤ i) = b2 → decide ((512 : Int) < (s.size : Int)) = b3 → (b1 || (b2 || b3)) = true → Calls Tryd.prog 17 #[.pointer (some ⟨DR, 0, none⟩), .int .i64 i, .string s] w fun e w' => e = .returned (.int .i64 1) ∧ w' = w := by
    clear h hor
    intro b1 b2 b3 e1 e2 e3 hb
    cases b1 <;> cases b2 <;> cases b3 <;> first
      | (cases hb; done)
      | (clear hb
         go_enter Tryd.func17, Tryd.ntmps17
         go_wp2
         go_ret
         exact ⟨rfl, rfl⟩)
  refine fin _ _ _ rfl rfl rfl ?_
  rcases hor with h | ⟨_, h⟩ | ⟨_, _, h⟩ <;> simp [h]
theorem rwrite_dry {w : World} {B DR BM n cnt : Nat} {vw : Value} {wait : List Wr} {G : Int → Option ByteArray} (i : Int) (s : ByteArray) (h : Rk w B DR BM vw n wait 0 false G cnt) (h0 : 0 ≤ i) (h1 : i < n) (h2 : s.size ≤ 512) :
    Calls Tryd.prog 17 #[.pointer (some ⟨DR, 0, none⟩), .int .i64 i, .string s] w fun e w' => e = .returned (.int .i64 20) ∧ Rk w' B DR BM vw n wait 0 true G cnt ∧ Keep w w' (fun k => k ≠ DR) := by
  have k0 := h.c0
  have k2 := h.c2
  have d0 : decide (i < 0) = false := decide_eq_false (by omega)
  have d1 : decide ((n : Int) ≤ i) = false := decide_eq_false (by omega)
  have d2 : decide ((512 : Int) < (s.size : Int)) = false := decide_eq_false (by omega)
  have ST := Lib.hid (rstep_calls h (by omega) (by omega))
  clear h h0 h1 h2
  go_enter Tryd.func17, Tryd.ntmps17
  go_wp2_with (go_at_call 26; refine ST.out.mono ?_; rintro e w4 ⟨rfl, hr4, hk4⟩; have HR4 := Lib.hid hr4; have HK4 := Lib.hid hk4; clear hr4 hk4)
  go_ret
  exact ⟨rfl, HR4.out, HK4.out⟩

/-! ### Flush, Fall -/
def gk1 (b : Bool) (x : Wr) (G : Int → Option ByteArray) : Int → Option ByteArray := if b then gput x G else G
def madeG (keep : List Bool) (all : Bool) : List Wr → Nat → (Int → Option ByteArray) → Int → Option ByteArray
  | [], _, G => G
  | x :: r, k, G => madeG keep all r (k + 1) (gk1 (all || keep.getD k false) x G)
theorem madeG_snoc (keep : List Bool) (all : Bool) (x : Wr) : ∀ (l : List Wr) (k : Nat) (G : Int → Option ByteArray), madeG keep all (l ++ [x]) k G = gk1 (all || keep.getD (k + l.length) false) x (madeG keep all l k G)
  | [], _, _ => rfl
  | y :: l, k, G => by
    rw [List.cons_append, madeG, madeG_snoc keep all x l (k + 1), madeG, List.length_cons]
    rw [show k + 1 + l.length = k + (l.length + 1) by omega]
theorem madeG_step (keep : List Bool) (all : Bool) (l : List Wr) (G : Int → Option ByteArray) {j : Nat} (hj : j < l.length) : madeG keep all (l.take (j + 1)) 0 G = gk1 (all || keep.getD j false) (l.getD j (0, ByteArray.empty)) (madeG keep all (l.take j) 0 G) := by
  rw [List.take_succ_eq_append_getElem hj, madeG_snoc, List.length_take, List.getD_eq_getElem?_getD (l := l), List.getElem?_eq_getElem hj, Nat.min_eq_left (Nat.le_of_lt hj), Nat.zero_add]
  rfl
theorem wr2_get : ∀ (l : List Wr) (i : Nat), i < l.length → (wr2 l)[i * 2]? = some (.int .i64 (l.getD i (0, ByteArray.empty)).1) ∧ (wr2 l)[i * 2 + 1]? = some (.string (l.getD i (0, ByteArray.empty)).2)
  | [], _, h => by cases h
  | x :: l, 0, _ => ⟨rfl, rfl⟩
  | x :: l, i + 1, h => by
    have := wr2_get l i (by simpa using h)
    rw [show wr2 (x :: l) = [.int .i64 x.1, .string x.2] ++ wr2 l from rfl]
    rw [List.getElem?_append_right (by simp; omega), List.getElem?_append_right (by simp; omega)]
    rw [show (i + 1) * 2 - [Value.int .i64 x.1, Value.string x.2].length = i * 2 by simp; omega, show (i + 1) * 2 + 1 - [Value.int .i64 x.1, Value.string x.2].length = i * 2 + 1 by simp; omega]
    exact this
theorem Rk.form {w : World} {B DR BM n cnt : Nat} {vw : Value} {wait : List Wr} {left : Int} {off : Bool} {G : Int → Option ByteArray} (h : Rk w B DR BM vw n wait left off G cnt) : ∃ AV cv, vw = .slice AV wait.length cv ∧ wait.length ≤ cv ∧ wait.length ≤ 9223372036854775807 := by
  have hl := own_len h.row
  rcases h.row.2 with ⟨rfl, hn⟩ | ⟨g, cap, cur, rfl, _, _, hr⟩
  · have hw0 : wait.length = 0 := by omega
    exact ⟨none, 0, by rw [hw0], by omega, hl⟩
  · exact ⟨_, _, rfl, by omega, hl⟩
/-- A pending write's two cells. -/
theorem Rk.pend {w : World} {B DR BM n cnt cv : Nat} {AV : Option Addr} {wait : List Wr} {left : Int} {off : Bool} {G : Int → Option ByteArray} (h : Rk w B DR BM (.slice AV wait.length cv) n wait left off G cnt) {j : Nat} (hj : j < wait.length) :
    ∃ g, AV = some ⟨g, 0, none⟩ ∧ g ≠ DR ∧ g ≠ BM ∧ w.cell? ⟨g, j * 2, none⟩ = some (.int .i64 (wait.getD j (0, ByteArray.empty)).1) ∧ w.cell? ⟨g, j * 2 + 1, none⟩ = some (.string (wait.getD j (0, ByteArray.empty)).2) := by
  obtain ⟨g, cap, hv, _, _⟩ := h.row.form (by omega)
  injection hv with h1 _ h3
  subst h1
  subst h3
  have hb : (j + 1) * 2 ≤ wait.length * 2 := Nat.mul_le_mul_right _ hj
  obtain ⟨w1, w2⟩ := wr2_get wait j hj
  exact ⟨g, rfl, fun e => h.neD (by rw [e]; rfl), fun e => h.neM (by rw [e]; rfl), (h.row.cellAt _ (by omega)).trans w1, (h.row.cellAt _ (by omega)).trans w2⟩
def RMakeEnd (w : World) (B DR BM n : Nat) (wait : List Wr) (left : Int) (off : Bool) (G : Int → Option ByteArray) (cnt : Nat) (keep : List Bool) (all : Bool) (w' : World) : Prop :=
  Rk w' B DR BM (.slice none 0 0) n [] left off (madeG keep all wait 0 G) (cnt + wait.length) ∧ Keep w w' (fun k => k ≠ DR ∧ k ≠ BM)
set_option maxRecDepth 100000 in
set_option maxHeartbeats 4000000 in
theorem rflush_on {w : World} {B DR BM n cnt : Nat} {vw : Value} {wait : List Wr} {left : Int} {G : Int → Option ByteArray} (h : Rk w B DR BM vw n wait left false G cnt) (hl0 : -1 ≤ left) (hl1 : left < 9223372036854775808) (hl : left ≠ 0) (hc : cnt + wait.length ≤ 1000000) (hat : ∀ x, x ∈ wait → 0 ≤ x.1 ∧ x.1 < 9223372036854775807) (hsz : ∀ x, x ∈ wait → x.2.size ≤ 512) :
    Calls Tryd.prog 18 #[.pointer (some ⟨DR, 0, none⟩)] w fun e w' => e = .returned (.int .i64 0) ∧ RMakeEnd w B DR BM n wait (stepLeft left false) false G cnt [] true w' := by
  obtain ⟨AV, cv, rfl, hcv, hwl⟩ := h.form
  have k2 := h.c2
  have st := rstep_calls h hl0 hl1
  rw [show stepB left false = true by simp [stepB, hl], show stepOff left false = false by simp [stepOff, hl]] at st
  have ST := Lib.hid st
  have HAT := Lib.hid hat
  have HSZ := Lib.hid hsz
  have DM := Lib.hid h.neDM
  clear h st hat hsz
  go_enter Tryd.func18, Tryd.ntmps18
  go_wp2_with (go_at_call 26; refine ST.out.mono ?_; rintro e w4 ⟨rfl, hr4, hk4⟩; have HR4 := Lib.hid hr4; have HK4 := Lib.hid hk4; clear hr4 hk4)
  go_loopw [3] (fun v wr => ∃ (j : Nat) (Gj : Int → Option ByteArray), v = .int .i64 j ∧ j ≤ wait.length ∧ Hid (Gj = madeG [] true (wait.take j) 0 G) ∧ Hid (MapS wr BM (cnt + j) Gj) ∧ Hid (Keep w4 wr (fun k => k ≠ BM)))
    (fun v _ => wait.length - (intOf v).toNat)
  case atStart => exact ⟨0, G, rfl, by omega, Lib.hid rfl, Lib.hid HR4.out.map, Lib.hid (Keep.refl _ _)⟩
  case round =>
    obtain ⟨j, Gj, rfl, hj, J1, J2, J3⟩ := hrel
    have e4 : wr.cell? ⟨DR, 4, none⟩ = some (.slice AV wait.length cv) := J3.out.cell HR4.out.c4 DM.out
    by_cases hjl : j < wait.length
    · have dj : decide ((j : Int) < (wait.length : Int)) = true := decide_eq_true (by omega)
      have hwj : IntKind.i64.wrap ((j : Int) + 1) = ((j + 1 : Nat) : Int) := by rw [IntWalk.i64_in _ (by omega)]; rfl
      obtain ⟨g, rfl, gD, gM, p0, p1⟩ := HR4.out.pend hjl
      obtain ⟨x, hx⟩ : ∃ x, x = wait.getD j (0, ByteArray.empty) := ⟨_, rfl⟩
      have hxm : x ∈ wait := by
        rw [hx, List.getD_eq_getElem?_getD, List.getElem?_eq_getElem hjl]
        exact List.getElem_mem _
      rw [← hx] at p0 p1
      have HX := Lib.hid hx
      have XWF := Lib.hid (show (Lit.int .i64 x.1).wf = true from WalkArith.wf_i64 (by have := HAT.out x hxm; omega))
      have XWS := Lib.hid (show x.2.size ≤ maxLen by have := HSZ.out x hxm; unfold maxLen; omega)
      have HC := Lib.hid (show cnt + j < 1000000 by omega)
      obtain ⟨w5, hw5⟩ : ∃ w5, w5 = wr.drew := ⟨_, rfl⟩
      have K5 : Keep w4 w5 (fun k => k ≠ BM) := by rw [hw5]; exact J3.out.trans (Keep.drew _ _)
      have A0 := Lib.hid (show w5.cell? ⟨DR, 3, none⟩ = some (.map (some BM)) from K5.cell HR4.out.c3 DM.out)
      have A1 := Lib.hid (show w5.cell? ⟨DR, 4, none⟩ = some (.slice (some ⟨g, 0, none⟩) wait.length cv) from K5.cell HR4.out.c4 DM.out)
      have A2 := Lib.hid (show w5.cell? ⟨g, j * 2, none⟩ = some (.int .i64 x.1) from K5.cell p0 gM)
      have A3 := Lib.hid (show w5.cell? ⟨g, j * 2 + 1, none⟩ = some (.string x.2) from K5.cell p1 gM)
      have HM5 := Lib.hid (show MapS w5 BM (cnt + j) Gj by rw [hw5]; exact J2.out.heap rfl)
      have HK5 := Lib.hid K5
      have HW5 := Lib.hid hw5
      clear hx hxm p0 p1 K5 hw5
      go_wp2
      refine start_ (n := 21) (S := fun w' => w'.cell? ⟨DR, 3, none⟩ = some (.map (some BM)) ∧ w'.cell? ⟨DR, 4, none⟩ = some (.slice (some ⟨g, 0, none⟩) wait.length cv) ∧ w'.cell? ⟨g, j * 2, none⟩ = some (.int .i64 x.1) ∧ w'.cell? ⟨g, j * 2 + 1, none⟩ = some (.string x.2)) (ds := [20]) #[false, false, false, false, false, false, false, false, false, false, false, false, false, false, false, false, false, false, false, false, false] (by kernel_rfl) rfl rfl ⟨(by rw [← HW5.out]; exact A0.out), (by rw [← HW5.out]; exact A1.out), (by rw [← HW5.out]; exact A2.out), (by rw [← HW5.out]; exact A3.out)⟩ (fun hHeld => ?_)
      rw [← HW5.out] at hHeld ⊢
      refine pure_ (i := 0) (N := some 22) (v := ?_) (a' := ?_) #[true, false, false, false, false, false, false, false, false, false, false, false, false, false, false, false, false, false, false, false, false] rfl rfl (by kernel_rfl) (fun _ _ _ h => h) (Or.inl ⟨by rfl, ?_⟩) ?_ ?_
      rotate_left
      · intro w'
        go_simp
        with_reducible rfl
      rotate_left
      · simp only [Act.put, List.setIfInBounds_toArray, List.set_cons_zero, List.set_cons_succ]
        rfl
      refine pure_ (i := 1) (N := some 23) (v := ?_) (a' := ?_) #[true, true, false, false, false, false, false, false, false, false, false, false, false, false, false, false, false, false, false, false, false] rfl rfl (by kernel_rfl) (fun _ _ _ h => h) (Or.inl ⟨by rfl, ?_⟩) ?_ ?_
      rotate_left
      · intro w'
        go_simp
        with_reducible rfl
      rotate_left
      · simp only [Act.put, List.setIfInBounds_toArray, List.set_cons_zero, List.set_cons_succ]
        rfl
      refine pure_ (i := 2) (N := some 24) (v := ?_) (a' := ?_) #[true, true, true, false, false, false, false, false, false, false, false, false, false, false, false, false, false, false, false, false, false] rfl rfl (by kernel_rfl) (fun _ _ _ h => h) (Or.inl ⟨by rfl, ?_⟩) ?_ ?_
      rotate_left
      · intro w'
        go_simp
        with_reducible rfl
      rotate_left
      · simp only [Act.put, List.setIfInBounds_toArray, List.set_cons_zero, List.set_cons_succ]
        rfl
      refine pure_ (i := 4) (N := some 26) (v := ?_) (a' := ?_) #[true, true, true, false, true, false, false, false, false, false, false, false, false, false, false, false, false, false, false, false, false] rfl rfl (by kernel_rfl) (fun _ _ _ h => h) (Or.inl ⟨by rfl, ?_⟩) ?_ ?_
      rotate_left
      · intro w'
        go_simp
        with_reducible rfl
      rotate_left
      · simp only [Act.put, List.setIfInBounds_toArray, List.set_cons_zero, List.set_cons_succ]
        rfl
      refine pure_ (i := 5) (N := some 27) (v := ?_) (a' := ?_) #[true, true, true, false, true, true, false, false, false, false, false, false, false, false, false, false, false, false, false, false, false] rfl rfl (by kernel_rfl) (fun _ _ _ h => h) (Or.inl ⟨by rfl, ?_⟩) ?_ ?_
      rotate_left
      · intro w'
        go_simp
        with_reducible rfl
      rotate_left
      · simp only [Act.put, List.setIfInBounds_toArray, List.set_cons_zero, List.set_cons_succ]
        rfl
      refine pure_ (i := 6) (N := some 28) (v := ?_) (a' := ?_) #[true, true, true, false, true, true, true, false, false, false, false, false, false, false, false, false, false, false, false, false, false] rfl rfl (by kernel_rfl) (fun _ _ _ h => h) (Or.inl ⟨by rfl, ?_⟩) ?_ ?_
      rotate_left
      · intro w'
        go_simp
        with_reducible rfl
      rotate_left
      · simp only [Act.put, List.setIfInBounds_toArray, List.set_cons_zero, List.set_cons_succ]
        rfl
      refine pure_ (i := 8) (N := some 30) (v := ?_) (a' := ?_) #[true, true, true, false, true, true, true, false, true, false, false, false, false, false, false, false, false, false, false, false, false] rfl rfl (by kernel_rfl) (fun _ _ _ h => h) (Or.inl ⟨by rfl, ?_⟩) ?_ ?_
      rotate_left
      · intro w'
        go_simp
        with_reducible rfl
      rotate_left
      · simp only [Act.put, List.setIfInBounds_toArray, List.set_cons_zero, List.set_cons_succ]
        rfl
      refine pure_ (i := 12) (N := some 34) (v := ?_) (a' := ?_) #[true, true, true, false, true, true, true, false, true, false, false, false, true, false, false, false, false, false, false, false, false] rfl rfl (by kernel_rfl) (fun _ _ _ h => h) (Or.inl ⟨by rfl, ?_⟩) ?_ ?_
      rotate_left
      · intro w'
        go_simp
        with_reducible rfl
      rotate_left
      · simp only [Act.put, List.setIfInBounds_toArray, List.set_cons_zero, List.set_cons_succ]
        rfl
      refine pure_ (i := 13) (N := some 35) (v := ?_) (a' := ?_) #[true, true, true, false, true, true, true, false, true, false, false, false, true, true, false, false, false, false, false, false, false] rfl rfl (by kernel_rfl) (fun _ _ _ h => h) (Or.inl ⟨by rfl, ?_⟩) ?_ ?_
      rotate_left
      · intro w'
        go_simp
        with_reducible rfl
      rotate_left
      · simp only [Act.put, List.setIfInBounds_toArray, List.set_cons_zero, List.set_cons_succ]
        rfl
      refine pure_ (i := 14) (N := some 36) (v := ?_) (a' := ?_) #[true, true, true, false, true, true, true, false, true, false, false, false, true, true, true, false, false, false, false, false, false] rfl rfl (by kernel_rfl) (fun _ _ _ h => h) (Or.inl ⟨by rfl, ?_⟩) ?_ ?_
      rotate_left
      · intro w'
        go_simp
        with_reducible rfl
      rotate_left
      · simp only [Act.put, List.setIfInBounds_toArray, List.set_cons_zero, List.set_cons_succ]
        rfl
      refine pure_ (i := 16) (N := some 38) (v := ?_) (a' := ?_) #[true, true, true, false, true, true, true, false, true, false, false, false, true, true, true, false, true, false, false, false, false] rfl rfl (by kernel_rfl) (fun _ _ _ h => h) (Or.inl ⟨by rfl, ?_⟩) ?_ ?_
      rotate_left
      · intro w'
        go_simp
        with_reducible rfl
      rotate_left
      · simp only [Act.put, List.setIfInBounds_toArray, List.set_cons_zero, List.set_cons_succ]
        rfl
      refine take_ (i := 3) (N := some 25) (v := ?_) (a' := ?_) #[true, true, true, true, true, true, true, false, true, false, false, false, true, true, true, false, true, false, false, false, false] rfl rfl (by kernel_rfl) (fun _ _ _ h => h) (Or.inl ⟨by rfl, ?_⟩) hHeld ?_ ?_
      rotate_left
      · rintro w' ⟨s0, s1, s2, s3⟩
        go_simp
        with_reducible rfl
      rotate_left
      · simp only [Act.put, List.setIfInBounds_toArray, List.set_cons_zero, List.set_cons_succ]
        rfl
      refine take_ (i := 7) (N := some 29) (v := ?_) (a' := ?_) #[true, true, true, true, true, true, true, true, true, false, false, false, true, true, true, false, true, false, false, false, false] rfl rfl (by kernel_rfl) (fun _ _ _ h => h) (Or.inl ⟨by rfl, ?_⟩) hHeld ?_ ?_
      rotate_left
      · rintro w' ⟨s0, s1, s2, s3⟩
        go_simp
        with_reducible rfl
      rotate_left
      · simp only [Act.put, List.setIfInBounds_toArray, List.set_cons_zero, List.set_cons_succ]
        rfl
      refine pure_ (i := 9) (N := some 31) (v := ?_) (a' := ?_) #[true, true, true, true, true, true, true, true, true, true, false, false, true, true, true, false, true, false, false, false, false] rfl rfl (by kernel_rfl) (fun _ _ _ h => h) (Or.inl ⟨by rfl, ?_⟩) ?_ ?_
      rotate_left
      · intro w'
        go_simp
        with_reducible rfl
      rotate_left
      · simp only [Act.put, List.setIfInBounds_toArray, List.set_cons_zero, List.set_cons_succ]
        rfl
      refine pure_ (i := 10) (N := some 32) (v := ?_) (a' := ?_) #[true, true, true, true, true, true, true, true, true, true, true, false, true, true, true, false, true, false, false, false, false] rfl rfl (by kernel_rfl) (fun _ _ _ h => h) (Or.inl ⟨by rfl, ?_⟩) ?_ ?_
      rotate_left
      · intro w'
        go_simp
        with_reducible rfl
      rotate_left
      · simp only [Act.put, List.setIfInBounds_toArray, List.set_cons_zero, List.set_cons_succ]
        rfl
      refine take_ (i := 11) (N := some 33) (v := ?_) (a' := ?_) #[true, true, true, true, true, true, true, true, true, true, true, true, true, true, true, false, true, false, false, false, false] rfl rfl (by kernel_rfl) (fun _ _ _ h => h) (Or.inl ⟨by rfl, ?_⟩) hHeld ?_ ?_
      rotate_left
      · rintro w' ⟨s0, s1, s2, s3⟩
        go_simp
        with_reducible rfl
      rotate_left
      · simp only [Act.put, List.setIfInBounds_toArray, List.set_cons_zero, List.set_cons_succ]
        rfl
      refine take_ (i := 15) (N := some 37) (v := ?_) (a' := ?_) #[true, true, true, true, true, true, true, true, true, true, true, true, true, true, true, true, true, false, false, false, false] rfl rfl (by kernel_rfl) (fun _ _ _ h => h) (Or.inl ⟨by rfl, ?_⟩) hHeld ?_ ?_
      rotate_left
      · rintro w' ⟨s0, s1, s2, s3⟩
        go_simp
        with_reducible rfl
      rotate_left
      · simp only [Act.put, List.setIfInBounds_toArray, List.set_cons_zero, List.set_cons_succ]
        rfl
      refine pure_ (i := 17) (N := some 39) (v := ?_) (a' := ?_) #[true, true, true, true, true, true, true, true, true, true, true, true, true, true, true, true, true, true, false, false, false] rfl rfl (by kernel_rfl) (fun _ _ _ h => h) (Or.inl ⟨by rfl, ?_⟩) ?_ ?_
      rotate_left
      · intro w'
        go_simp
        with_reducible rfl
      rotate_left
      · simp only [Act.put, List.setIfInBounds_toArray, List.set_cons_zero, List.set_cons_succ]
        rfl
      refine pure_ (i := 18) (N := some 40) (v := ?_) (a' := ?_) #[true, true, true, true, true, true, true, true, true, true, true, true, true, true, true, true, true, true, true, false, false] rfl rfl (by kernel_rfl) (fun _ _ _ h => h) (Or.inl ⟨by rfl, ?_⟩) ?_ ?_
      rotate_left
      · intro w'
        go_simp
        with_reducible rfl
      rotate_left
      · simp only [Act.put, List.setIfInBounds_toArray, List.set_cons_zero, List.set_cons_succ]
        rfl
      refine take_ (i := 19) (N := some 41) (v := ?_) (a' := ?_) #[true, true, true, true, true, true, true, true, true, true, true, true, true, true, true, true, true, true, true, true, false] rfl rfl (by kernel_rfl) (fun _ _ _ h => h) (Or.inl ⟨by rfl, ?_⟩) hHeld ?_ ?_
      rotate_left
      · rintro w' ⟨s0, s1, s2, s3⟩
        go_simp
        with_reducible rfl
      rotate_left
      · simp only [Act.put, List.setIfInBounds_toArray, List.set_cons_zero, List.set_cons_succ]
        rfl
      refine last_ (i := 20) (N := none) #[true, true, true, true, true, true, true, true, true, true, true, true, true, true, true, true, true, true, true, true, true] rfl rfl (by kernel_rfl) (by decide) (fun K hK => ?_)
      obtain ⟨w7, hrun, hm7, hg7⟩ := HM5.out.put (by have := HC.out; unfold maxLen; omega) x.1 x.2 XWF.out XWS.out
      refine skip_ (w1 := w7) (by rfl) rfl (exec_mapUpdate rfl rfl rfl rfl hrun) ?_
      have HM7 := Lib.hid hm7
      have HG7 := Lib.hid hg7
      clear hrun hm7 hg7
      refine hK.out _ _ ?_
      clear hK K
      refine done_ (by kernel_rfl) ?_

      go_wp2
      exact ⟨⟨j + 1, gput x Gj, by simp, by omega, Lib.hid (by rw [madeG_step _ _ _ _ hjl, ← HX.out, ← J1.out]; rfl), HM7, Lib.hid (HK5.out.trans ((Keep.of_grown HG7.out).mono (fun k _ h e => h (by injection e with e; exact e.symm))))⟩, by simp [intOf]; omega⟩
    · have dj : decide ((j : Int) < (wait.length : Int)) = false := decide_eq_false (by omega)
      obtain rfl : j = wait.length := by omega
      have hdr := J3.out.heap HR4.out.disk DM.out
      have f4 : wr.frozen? ⟨DR, 4, none⟩ = false := by simp [World.frozen?, hdr]
      have HDR := Lib.hid hdr
      clear hdr
      go_wp2
      go_ret
      have e := J1.out
      rw [List.take_length] at e
      refine ⟨rfl, ?_, ((HK4.out.mono (fun k _ h => h.1)).trans (J3.out.mono (fun k _ h => h.2))).trans (Keep.setCell _ _ _ (fun h => h.1 rfl))⟩
      rw [← e]
      exact Rk.setWait HDR.out J2.out HR4.out.bD HR4.out.bM HR4.out.neDM ⟨by simp [wr2], .inl ⟨rfl, rfl⟩⟩ (by simp [Value.ownBlock]) (by simp [Value.ownBlock])
theorem rflush_off {w : World} {DR : Nat} (k2 : w.cell? ⟨DR, 2, none⟩ = some (.bool true)) :
    Calls Tryd.prog 18 #[.pointer (some ⟨DR, 0, none⟩)] w fun e w' => e = .returned (.int .i64 20) ∧ w' = w := by
  go_enter Tryd.func18, Tryd.ntmps18
  go_wp2
  go_ret
  exact ⟨rfl, rfl⟩
theorem rflush_dry {w : World} {B DR BM n cnt : Nat} {vw : Value} {wait : List Wr} {G : Int → Option ByteArray} (h : Rk w B DR BM vw n wait 0 false G cnt) :
    Calls Tryd.prog 18 #[.pointer (some ⟨DR, 0, none⟩)] w fun e w' => e = .returned (.int .i64 20) ∧ Rk w' B DR BM vw n wait 0 true G cnt ∧ Keep w w' (fun k => k ≠ DR) := by
  have k2 := h.c2
  have ST := Lib.hid (rstep_calls h (by omega) (by omega))
  clear h
  go_enter Tryd.func18, Tryd.ntmps18
  go_wp2_with (go_at_call 26; refine ST.out.mono ?_; rintro e w4 ⟨rfl, hr4, hk4⟩; have HR4 := Lib.hid hr4; have HK4 := Lib.hid hk4; clear hr4 hk4)
  go_ret
  exact ⟨rfl, HR4.out, HK4.out⟩
set_option maxRecDepth 100000 in
set_option maxHeartbeats 4000000 in
theorem rfall_calls {w : World} {B DR BM n cnt c : Nat} {vw : Value} {wait : List Wr} {left : Int} {off : Bool} {G : Int → Option ByteArray} {A : Option Addr} (keep : List Bool) (h : Rk w B DR BM vw n wait left off G cnt) (hc : cnt + wait.length ≤ 1000000) (hat : ∀ x, x ∈ wait → 0 ≤ x.1 ∧ x.1 < 9223372036854775807) (hsz : ∀ x, x ∈ wait → x.2.size ≤ 512) (hk : KeepAt w A keep BM) :
    Calls Tryd.prog 19 #[.pointer (some ⟨DR, 0, none⟩), .slice A keep.length c] w fun e w' => e = .returned (.tuple #[]) ∧ RMakeEnd w B DR BM n wait (-1) false G cnt keep false w' := by
  obtain ⟨AV, cv, rfl, hcv, hwl⟩ := h.form
  have HR4 := Lib.hid h
  have HAT := Lib.hid hat
  have HSZ := Lib.hid hsz
  have HKA := Lib.hid hk
  have hkl := hk.1
  have DM := Lib.hid h.neDM
  clear h hat hsz hk
  go_enter Tryd.func19, Tryd.ntmps19
  go_wp2
  go_loopw [4] (fun v wr => ∃ (j cj : Nat) (Gj : Int → Option ByteArray), v = .int .i64 j ∧ j ≤ wait.length ∧ cj ≤ cnt + j ∧ Hid (Gj = madeG keep false (wait.take j) 0 G) ∧ Hid (MapS wr BM cj Gj) ∧ Hid (Keep w wr (fun k => k ≠ BM)))
    (fun v _ => wait.length - (intOf v).toNat)
  case atStart => exact ⟨0, cnt, G, rfl, by omega, by omega, Lib.hid rfl, Lib.hid HR4.out.map, Lib.hid (Keep.refl _ _)⟩
  case round =>
    obtain ⟨j, cj, Gj, rfl, hj, hcj, J1, J2, J3⟩ := hrel
    have e4 : wr.cell? ⟨DR, 4, none⟩ = some (.slice AV wait.length cv) := J3.out.cell HR4.out.c4 DM.out
    by_cases hjl : j < wait.length
    · have dj : decide ((j : Int) < (wait.length : Int)) = true := decide_eq_true (by omega)
      have hwj : IntKind.i64.wrap ((j : Int) + 1) = ((j + 1 : Nat) : Int) := by rw [IntWalk.i64_in _ (by omega)]; rfl
      obtain ⟨x, hx⟩ : ∃ x, x = wait.getD j (0, ByteArray.empty) := ⟨_, rfl⟩
      have HX := Lib.hid hx
      have three : (∃ ad, A = some ad ∧ j < keep.length ∧ Hid (keep.getD j false = true) ∧ Hid (wr.cell? (ad.add j) = some (.bool true))) ∨ (∃ ad, A = some ad ∧ j < keep.length ∧ Hid (keep.getD j false = false) ∧ Hid (wr.cell? (ad.add j) = some (.bool false))) ∨ (¬ j < keep.length ∧ Hid (keep.getD j false = false)) := by
        by_cases hk : j < keep.length
        · obtain ⟨ad, h1, h2, h3⟩ := HKA.out.2 j hk
          have h4 := J3.out.cell h3 (by rw [add_blk]; exact h2)
          cases hb : keep.getD j false with
          | true => exact .inl ⟨ad, h1, hk, Lib.hid rfl, Lib.hid (by rw [hb] at h4; exact h4)⟩
          | false => exact .inr (.inl ⟨ad, h1, hk, Lib.hid rfl, Lib.hid (by rw [hb] at h4; exact h4)⟩)
        · exact .inr (.inr ⟨hk, Lib.hid (by rw [List.getD_eq_getElem?_getD, List.getElem?_eq_none (by omega)]; rfl)⟩)
      rcases three with ⟨ad, rfl, hkj, HKT, HKC⟩ | ⟨ad, rfl, hkj, HKT, HKC⟩ | ⟨hkj, HKT⟩
      · have kc := HKC.out
        have dk : decide ((j : Int) < (keep.length : Int)) = true := decide_eq_true (by omega)
        obtain ⟨g, rfl, gD, gM, p0, p1⟩ := HR4.out.pend hjl
        have hxm : x ∈ wait := by
          rw [hx, List.getD_eq_getElem?_getD, List.getElem?_eq_getElem hjl]
          exact List.getElem_mem _
        rw [← hx] at p0 p1
        have XWF := Lib.hid (show (Lit.int .i64 x.1).wf = true from WalkArith.wf_i64 (by have := HAT.out x hxm; omega))
        have XWS := Lib.hid (show x.2.size ≤ maxLen by have := HSZ.out x hxm; unfold maxLen; omega)
        have HC := Lib.hid (show cj < 1000000 by omega)
        obtain ⟨w5, hw5⟩ : ∃ w5, w5 = wr.drew := ⟨_, rfl⟩
        have K5 : Keep w w5 (fun k => k ≠ BM) := by rw [hw5]; exact J3.out.trans (Keep.drew _ _)
        have A0 := Lib.hid (show w5.cell? ⟨DR, 3, none⟩ = some (.map (some BM)) from K5.cell HR4.out.c3 DM.out)
        have A1 := Lib.hid (show w5.cell? ⟨DR, 4, none⟩ = some (.slice (some ⟨g, 0, none⟩) wait.length cv) from K5.cell HR4.out.c4 DM.out)
        have A2 := Lib.hid (show w5.cell? ⟨g, j * 2, none⟩ = some (.int .i64 x.1) from K5.cell p0 gM)
        have A3 := Lib.hid (show w5.cell? ⟨g, j * 2 + 1, none⟩ = some (.string x.2) from K5.cell p1 gM)
        have HM5 := Lib.hid (show MapS w5 BM cj Gj by rw [hw5]; exact J2.out.heap rfl)
        have HK5 := Lib.hid K5
        have HW5 := Lib.hid hw5
        clear hx hxm p0 p1 K5 hw5
        go_wp2
        refine start_ (n := 21) (S := fun w' => w'.cell? ⟨DR, 3, none⟩ = some (.map (some BM)) ∧ w'.cell? ⟨DR, 4, none⟩ = some (.slice (some ⟨g, 0, none⟩) wait.length cv) ∧ w'.cell? ⟨g, j * 2, none⟩ = some (.int .i64 x.1) ∧ w'.cell? ⟨g, j * 2 + 1, none⟩ = some (.string x.2)) (ds := [20]) #[false, false, false, false, false, false, false, false, false, false, false, false, false, false, false, false, false, false, false, false, false] (by kernel_rfl) rfl rfl ⟨(by rw [← HW5.out]; exact A0.out), (by rw [← HW5.out]; exact A1.out), (by rw [← HW5.out]; exact A2.out), (by rw [← HW5.out]; exact A3.out)⟩ (fun hHeld => ?_)
        rw [← HW5.out] at hHeld ⊢
        refine pure_ (i := 0) (N := some 24) (v := ?_) (a' := ?_) #[true, false, false, false, false, false, false, false, false, false, false, false, false, false, false, false, false, false, false, false, false] rfl rfl (by kernel_rfl) (fun _ _ _ h => h) (Or.inl ⟨by rfl, ?_⟩) ?_ ?_
        rotate_left
        · intro w'
          go_simp
          with_reducible rfl
        rotate_left
        · simp only [Act.put, List.setIfInBounds_toArray, List.set_cons_zero, List.set_cons_succ]
          rfl
        refine pure_ (i := 1) (N := some 25) (v := ?_) (a' := ?_) #[true, true, false, false, false, false, false, false, false, false, false, false, false, false, false, false, false, false, false, false, false] rfl rfl (by kernel_rfl) (fun _ _ _ h => h) (Or.inl ⟨by rfl, ?_⟩) ?_ ?_
        rotate_left
        · intro w'
          go_simp
          with_reducible rfl
        rotate_left
        · simp only [Act.put, List.setIfInBounds_toArray, List.set_cons_zero, List.set_cons_succ]
          rfl
        refine pure_ (i := 2) (N := some 26) (v := ?_) (a' := ?_) #[true, true, true, false, false, false, false, false, false, false, false, false, false, false, false, false, false, false, false, false, false] rfl rfl (by kernel_rfl) (fun _ _ _ h => h) (Or.inl ⟨by rfl, ?_⟩) ?_ ?_
        rotate_left
        · intro w'
          go_simp
          with_reducible rfl
        rotate_left
        · simp only [Act.put, List.setIfInBounds_toArray, List.set_cons_zero, List.set_cons_succ]
          rfl
        refine pure_ (i := 4) (N := some 28) (v := ?_) (a' := ?_) #[true, true, true, false, true, false, false, false, false, false, false, false, false, false, false, false, false, false, false, false, false] rfl rfl (by kernel_rfl) (fun _ _ _ h => h) (Or.inl ⟨by rfl, ?_⟩) ?_ ?_
        rotate_left
        · intro w'
          go_simp
          with_reducible rfl
        rotate_left
        · simp only [Act.put, List.setIfInBounds_toArray, List.set_cons_zero, List.set_cons_succ]
          rfl
        refine pure_ (i := 5) (N := some 29) (v := ?_) (a' := ?_) #[true, true, true, false, true, true, false, false, false, false, false, false, false, false, false, false, false, false, false, false, false] rfl rfl (by kernel_rfl) (fun _ _ _ h => h) (Or.inl ⟨by rfl, ?_⟩) ?_ ?_
        rotate_left
        · intro w'
          go_simp
          with_reducible rfl
        rotate_left
        · simp only [Act.put, List.setIfInBounds_toArray, List.set_cons_zero, List.set_cons_succ]
          rfl
        refine pure_ (i := 6) (N := some 30) (v := ?_) (a' := ?_) #[true, true, true, false, true, true, true, false, false, false, false, false, false, false, false, false, false, false, false, false, false] rfl rfl (by kernel_rfl) (fun _ _ _ h => h) (Or.inl ⟨by rfl, ?_⟩) ?_ ?_
        rotate_left
        · intro w'
          go_simp
          with_reducible rfl
        rotate_left
        · simp only [Act.put, List.setIfInBounds_toArray, List.set_cons_zero, List.set_cons_succ]
          rfl
        refine pure_ (i := 8) (N := some 32) (v := ?_) (a' := ?_) #[true, true, true, false, true, true, true, false, true, false, false, false, false, false, false, false, false, false, false, false, false] rfl rfl (by kernel_rfl) (fun _ _ _ h => h) (Or.inl ⟨by rfl, ?_⟩) ?_ ?_
        rotate_left
        · intro w'
          go_simp
          with_reducible rfl
        rotate_left
        · simp only [Act.put, List.setIfInBounds_toArray, List.set_cons_zero, List.set_cons_succ]
          rfl
        refine pure_ (i := 12) (N := some 36) (v := ?_) (a' := ?_) #[true, true, true, false, true, true, true, false, true, false, false, false, true, false, false, false, false, false, false, false, false] rfl rfl (by kernel_rfl) (fun _ _ _ h => h) (Or.inl ⟨by rfl, ?_⟩) ?_ ?_
        rotate_left
        · intro w'
          go_simp
          with_reducible rfl
        rotate_left
        · simp only [Act.put, List.setIfInBounds_toArray, List.set_cons_zero, List.set_cons_succ]
          rfl
        refine pure_ (i := 13) (N := some 37) (v := ?_) (a' := ?_) #[true, true, true, false, true, true, true, false, true, false, false, false, true, true, false, false, false, false, false, false, false] rfl rfl (by kernel_rfl) (fun _ _ _ h => h) (Or.inl ⟨by rfl, ?_⟩) ?_ ?_
        rotate_left
        · intro w'
          go_simp
          with_reducible rfl
        rotate_left
        · simp only [Act.put, List.setIfInBounds_toArray, List.set_cons_zero, List.set_cons_succ]
          rfl
        refine pure_ (i := 14) (N := some 38) (v := ?_) (a' := ?_) #[true, true, true, false, true, true, true, false, true, false, false, false, true, true, true, false, false, false, false, false, false] rfl rfl (by kernel_rfl) (fun _ _ _ h => h) (Or.inl ⟨by rfl, ?_⟩) ?_ ?_
        rotate_left
        · intro w'
          go_simp
          with_reducible rfl
        rotate_left
        · simp only [Act.put, List.setIfInBounds_toArray, List.set_cons_zero, List.set_cons_succ]
          rfl
        refine pure_ (i := 16) (N := some 40) (v := ?_) (a' := ?_) #[true, true, true, false, true, true, true, false, true, false, false, false, true, true, true, false, true, false, false, false, false] rfl rfl (by kernel_rfl) (fun _ _ _ h => h) (Or.inl ⟨by rfl, ?_⟩) ?_ ?_
        rotate_left
        · intro w'
          go_simp
          with_reducible rfl
        rotate_left
        · simp only [Act.put, List.setIfInBounds_toArray, List.set_cons_zero, List.set_cons_succ]
          rfl
        refine take_ (i := 3) (N := some 27) (v := ?_) (a' := ?_) #[true, true, true, true, true, true, true, false, true, false, false, false, true, true, true, false, true, false, false, false, false] rfl rfl (by kernel_rfl) (fun _ _ _ h => h) (Or.inl ⟨by rfl, ?_⟩) hHeld ?_ ?_
        rotate_left
        · rintro w' ⟨s0, s1, s2, s3⟩
          go_simp
          with_reducible rfl
        rotate_left
        · simp only [Act.put, List.setIfInBounds_toArray, List.set_cons_zero, List.set_cons_succ]
          rfl
        refine take_ (i := 7) (N := some 31) (v := ?_) (a' := ?_) #[true, true, true, true, true, true, true, true, true, false, false, false, true, true, true, false, true, false, false, false, false] rfl rfl (by kernel_rfl) (fun _ _ _ h => h) (Or.inl ⟨by rfl, ?_⟩) hHeld ?_ ?_
        rotate_left
        · rintro w' ⟨s0, s1, s2, s3⟩
          go_simp
          with_reducible rfl
        rotate_left
        · simp only [Act.put, List.setIfInBounds_toArray, List.set_cons_zero, List.set_cons_succ]
          rfl
        refine pure_ (i := 9) (N := some 33) (v := ?_) (a' := ?_) #[true, true, true, true, true, true, true, true, true, true, false, false, true, true, true, false, true, false, false, false, false] rfl rfl (by kernel_rfl) (fun _ _ _ h => h) (Or.inl ⟨by rfl, ?_⟩) ?_ ?_
        rotate_left
        · intro w'
          go_simp
          with_reducible rfl
        rotate_left
        · simp only [Act.put, List.setIfInBounds_toArray, List.set_cons_zero, List.set_cons_succ]
          rfl
        refine pure_ (i := 10) (N := some 34) (v := ?_) (a' := ?_) #[true, true, true, true, true, true, true, true, true, true, true, false, true, true, true, false, true, false, false, false, false] rfl rfl (by kernel_rfl) (fun _ _ _ h => h) (Or.inl ⟨by rfl, ?_⟩) ?_ ?_
        rotate_left
        · intro w'
          go_simp
          with_reducible rfl
        rotate_left
        · simp only [Act.put, List.setIfInBounds_toArray, List.set_cons_zero, List.set_cons_succ]
          rfl
        refine take_ (i := 11) (N := some 35) (v := ?_) (a' := ?_) #[true, true, true, true, true, true, true, true, true, true, true, true, true, true, true, false, true, false, false, false, false] rfl rfl (by kernel_rfl) (fun _ _ _ h => h) (Or.inl ⟨by rfl, ?_⟩) hHeld ?_ ?_
        rotate_left
        · rintro w' ⟨s0, s1, s2, s3⟩
          go_simp
          with_reducible rfl
        rotate_left
        · simp only [Act.put, List.setIfInBounds_toArray, List.set_cons_zero, List.set_cons_succ]
          rfl
        refine take_ (i := 15) (N := some 39) (v := ?_) (a' := ?_) #[true, true, true, true, true, true, true, true, true, true, true, true, true, true, true, true, true, false, false, false, false] rfl rfl (by kernel_rfl) (fun _ _ _ h => h) (Or.inl ⟨by rfl, ?_⟩) hHeld ?_ ?_
        rotate_left
        · rintro w' ⟨s0, s1, s2, s3⟩
          go_simp
          with_reducible rfl
        rotate_left
        · simp only [Act.put, List.setIfInBounds_toArray, List.set_cons_zero, List.set_cons_succ]
          rfl
        refine pure_ (i := 17) (N := some 41) (v := ?_) (a' := ?_) #[true, true, true, true, true, true, true, true, true, true, true, true, true, true, true, true, true, true, false, false, false] rfl rfl (by kernel_rfl) (fun _ _ _ h => h) (Or.inl ⟨by rfl, ?_⟩) ?_ ?_
        rotate_left
        · intro w'
          go_simp
          with_reducible rfl
        rotate_left
        · simp only [Act.put, List.setIfInBounds_toArray, List.set_cons_zero, List.set_cons_succ]
          rfl
        refine pure_ (i := 18) (N := some 42) (v := ?_) (a' := ?_) #[true, true, true, true, true, true, true, true, true, true, true, true, true, true, true, true, true, true, true, false, false] rfl rfl (by kernel_rfl) (fun _ _ _ h => h) (Or.inl ⟨by rfl, ?_⟩) ?_ ?_
        rotate_left
        · intro w'
          go_simp
          with_reducible rfl
        rotate_left
        · simp only [Act.put, List.setIfInBounds_toArray, List.set_cons_zero, List.set_cons_succ]
          rfl
        refine take_ (i := 19) (N := some 43) (v := ?_) (a' := ?_) #[true, true, true, true, true, true, true, true, true, true, true, true, true, true, true, true, true, true, true, true, false] rfl rfl (by kernel_rfl) (fun _ _ _ h => h) (Or.inl ⟨by rfl, ?_⟩) hHeld ?_ ?_
        rotate_left
        · rintro w' ⟨s0, s1, s2, s3⟩
          go_simp
          with_reducible rfl
        rotate_left
        · simp only [Act.put, List.setIfInBounds_toArray, List.set_cons_zero, List.set_cons_succ]
          rfl
        refine last_ (i := 20) (N := none) #[true, true, true, true, true, true, true, true, true, true, true, true, true, true, true, true, true, true, true, true, true] rfl rfl (by kernel_rfl) (by decide) (fun K hK => ?_)
        obtain ⟨w7, hrun, hm7, hg7⟩ := HM5.out.put (by have := HC.out; unfold maxLen; omega) x.1 x.2 XWF.out XWS.out
        refine skip_ (w1 := w7) (by rfl) rfl (exec_mapUpdate rfl rfl rfl rfl hrun) ?_
        have HM7 := Lib.hid hm7
        have HG7 := Lib.hid hg7
        clear hrun hm7 hg7
        refine hK.out _ _ ?_
        clear hK K
        refine done_ (by kernel_rfl) ?_

        go_wp2
        exact ⟨⟨j + 1, cj + 1, gput x Gj, by simp, by omega, by omega, Lib.hid (by rw [madeG_step _ _ _ _ hjl, ← HX.out, ← J1.out, HKT.out]; rfl), HM7, Lib.hid (HK5.out.trans ((Keep.of_grown HG7.out).mono (fun k _ h e => h (by injection e with e; exact e.symm))))⟩, by simp [intOf]; omega⟩
      · have kc := HKC.out
        have dk : decide ((j : Int) < (keep.length : Int)) = true := decide_eq_true (by omega)
        clear hx
        go_wp2
        exact ⟨⟨j + 1, cj, Gj, by simp, by omega, by omega, Lib.hid (by rw [madeG_step _ _ _ _ hjl, ← HX.out, ← J1.out, HKT.out]; rfl), J2, J3⟩, by simp [intOf]; omega⟩
      · have dk : decide ((j : Int) < (keep.length : Int)) = false := decide_eq_false (by omega)
        clear hx
        go_wp2
        exact ⟨⟨j + 1, cj, Gj, by simp, by omega, by omega, Lib.hid (by rw [madeG_step _ _ _ _ hjl, ← HX.out, ← J1.out, HKT.out]; rfl), J2, J3⟩, by simp [intOf]; omega⟩
    · have dj : decide ((j : Int) < (wait.length : Int)) = false := decide_eq_false (by omega)
      obtain rfl : j = wait.length := by omega
      have hdr := J3.out.heap HR4.out.disk DM.out
      have HDR := Lib.hid hdr
      have cc : ∀ q, wr.frozen? ⟨DR, q, none⟩ = false := fun q => by simp [World.frozen?, hdr]
      have f1 := cc 1
      have f2 := cc 2
      have f4 := cc 4
      have c1 : wr.cell? ⟨DR, 1, none⟩ = some (.int .i64 left) := (cell_of_row wr DR 1 _ _ (0, 0) hdr).trans rfl
      have c2 : wr.cell? ⟨DR, 2, none⟩ = some (.bool off) := (cell_of_row wr DR 2 _ _ (0, 0) hdr).trans rfl
      clear hdr cc
      go_wp2
      go_end0
      have e := J1.out
      rw [List.take_length] at e
      refine ⟨rfl, ?_, (((J3.out.mono (fun k _ h => h.2)).trans (Keep.setCell _ _ _ (fun h => h.1 rfl))).trans (Keep.setCell _ _ _ (fun h => h.1 rfl))).trans (Keep.setCell _ _ _ (fun h => h.1 rfl))⟩
      rw [← e]
      have r1 := Rk.setWait (v' := .slice none 0 0) (wait' := []) HDR.out J2.out HR4.out.bD HR4.out.bM HR4.out.neDM ⟨by simp [wr2], .inl ⟨rfl, rfl⟩⟩ (by simp [Value.ownBlock]) (by simp [Value.ownBlock])
      have r2 := (r1.set (j := 2) (u := .bool false) (left' := left) (off' := false) rfl).set (j := 1) (u := .int .i64 (-1)) (left' := -1) (off' := false) rfl
      exact ⟨r2.disk, (by obtain ⟨D, ⟨es, cl, a1, a2, a3, a4⟩, a5⟩ := r2.map.out; exact ⟨⟨D, ⟨es, cl, a1, a2, Nat.le_trans a3 hcj, a4⟩, a5⟩⟩), r2.row, r2.bD, r2.bM, r2.neDM, r2.neD, r2.neM⟩

/-! ### Read -/
theorem full_nil : full ⟨#[]⟩ = sec0 := by
  apply ByteArray.ext
  show #[] ++ Array.replicate (512 - 0) (0 : UInt8) = Array.replicate 512 0
  rw [Array.empty_append]
set_option maxHeartbeats 1000000 in
theorem rread_on {w : World} {B DR BM n cnt : Nat} {vw : Value} {wait : List Wr} {left : Int} {G : Int → Option ByteArray} (i : Int) (h : Rk w B DR BM vw n wait left false G cnt) (h0 : 0 ≤ i) (h1 : i < n) (hi : i < 9223372036854775807) :
    Calls Tryd.prog 20 #[.pointer (some ⟨DR, 0, none⟩), .int .i64 i] w fun e w' => e = .returned (.tuple #[.string (readL wait i ((G i).getD sec0)), .int .i64 0]) ∧ Below w.heap.size w w' := by
  obtain ⟨AV, cv, rfl, hcv, hwl⟩ := h.form
  have k0 := h.c0
  have k2 := h.c2
  have k3 := h.c3
  have k4 := h.c4
  have d0 : decide (i < 0) = false := decide_eq_false (by omega)
  have d1 : decide ((n : Int) ≤ i) = false := decide_eq_false (by omega)
  have hlk := h.map.get i (WalkArith.wf_i64 (by omega))
  have H := Lib.hid h
  clear h
  obtain ⟨s0, hs0⟩ : ∃ s0, s0 = (G i).getD sec0 := ⟨_, rfl⟩
  have fe : full ⟨#[]⟩ = sec0 := full_nil
  have FU := Lib.hid (fun W => full_calls ⟨#[]⟩ W (by decide))
  have tail : ∀ (g : Option ByteArray), G i = g → Calls Tryd.prog 20 #[.pointer (some ⟨DR, 0, none⟩), .int .i64 i] w fun e w' => e = .returned (.tuple #[.string (readL wait i s0), .int .i64 0]) ∧ Below w.heap.size w w' := by
    intro g hg
    rw [hg] at hlk hs0
    clear hg
    cases g with
    | none =>
      simp only [Option.getD_none, Option.isSome_none] at hlk hs0
      rw [fe] at FU
      rw [← hs0] at FU
      clear hs0 fe
      go_enter Tryd.func20, Tryd.ntmps20
      go_wp2_with (go_at_call 27; refine (FU.out _).mono ?_; rintro e w4 ⟨rfl, hb4⟩; have HB4 := Lib.hid hb4; clear hb4)
      go_loopw [6, 8] (fun u v wr => ∃ (j : Nat), v = .int .i64 j ∧ u = .string (readL (wait.take j) i s0) ∧ j ≤ wait.length ∧ Hid (Below w.heap.size w wr))
        (fun _ v _ => wait.length - (intOf v).toNat)
      case atStart => exact ⟨0, rfl, rfl, by omega, HB4⟩
      case round =>
        clear HB4
        obtain ⟨j, rfl, rfl, hj, J1⟩ := hrel
        have R := Lib.hid (H.out.keep' (Keep.of_below (ok := fun _ => True) J1.out (Nat.le_refl _)) (fun _ _ => trivial))
        have e4 := R.out.c4
        by_cases hjl : j < wait.length
        · have dj : decide ((j : Int) < (wait.length : Int)) = true := decide_eq_true (by omega)
          have hwj : IntKind.i64.wrap ((j : Int) + 1) = ((j + 1 : Nat) : Int) := by rw [IntWalk.i64_in _ (by omega)]; rfl
          obtain ⟨g, rfl, gD, gM, p0, p1⟩ := R.out.pend hjl
          have RS := Lib.hid (readL_step hjl i s0)
          obtain ⟨x, hx⟩ : ∃ x, x = wait.getD j (0, ByteArray.empty) := ⟨_, rfl⟩
          rw [← hx] at p0 p1 RS
          clear hx
          obtain ⟨r, hr⟩ : ∃ r, r = readL (wait.take j) i s0 := ⟨_, rfl⟩
          rw [← hr] at RS ⊢
          clear hr
          by_cases e : x.1 = i
          · have e' : (x.1 == i) = true := by simpa using e
            have EE := Lib.hid e
            clear e
            go_wp2
            exact ⟨⟨j + 1, by simp, by rw [RS.out, if_pos EE.out], by omega, J1⟩, by simp [intOf]; omega⟩
          · have e' : (x.1 == i) = false := by simpa using e
            have EE := Lib.hid e
            clear e
            go_wp2
            exact ⟨⟨j + 1, by simp, by rw [RS.out, if_neg EE.out], by omega, J1⟩, by simp [intOf]; omega⟩
        · have dj : decide ((j : Int) < (wait.length : Int)) = false := decide_eq_false (by omega)
          obtain rfl : j = wait.length := by omega
          rw [List.take_length]
          go_wp2
          go_ret2
          exact ⟨rfl, J1.out⟩
    | some t =>
      simp only [Option.getD_some, Option.isSome_some] at hlk hs0
      subst hs0
      clear fe FU
      have HB4 := Lib.hid (Below.refl w.heap.size w)
      go_enter Tryd.func20, Tryd.ntmps20
      go_wp2_with fail
      go_loopw [6, 8] (fun u v wr => ∃ (j : Nat), v = .int .i64 j ∧ u = .string (readL (wait.take j) i s0) ∧ j ≤ wait.length ∧ Hid (Below w.heap.size w wr))
        (fun _ v _ => wait.length - (intOf v).toNat)
      case atStart => exact ⟨0, rfl, rfl, by omega, HB4⟩
      case round =>
        clear HB4
        obtain ⟨j, rfl, rfl, hj, J1⟩ := hrel
        have R := Lib.hid (H.out.keep' (Keep.of_below (ok := fun _ => True) J1.out (Nat.le_refl _)) (fun _ _ => trivial))
        have e4 := R.out.c4
        by_cases hjl : j < wait.length
        · have dj : decide ((j : Int) < (wait.length : Int)) = true := decide_eq_true (by omega)
          have hwj : IntKind.i64.wrap ((j : Int) + 1) = ((j + 1 : Nat) : Int) := by rw [IntWalk.i64_in _ (by omega)]; rfl
          obtain ⟨g, rfl, gD, gM, p0, p1⟩ := R.out.pend hjl
          have RS := Lib.hid (readL_step hjl i s0)
          obtain ⟨x, hx⟩ : ∃ x, x = wait.getD j (0, ByteArray.empty) := ⟨_, rfl⟩
          rw [← hx] at p0 p1 RS
          clear hx
          obtain ⟨r, hr⟩ : ∃ r, r = readL (wait.take j) i s0 := ⟨_, rfl⟩
          rw [← hr] at RS ⊢
          clear hr
          by_cases e : x.1 = i
          · have e' : (x.1 == i) = true := by simpa using e
            have EE := Lib.hid e
            clear e
            go_wp2
            exact ⟨⟨j + 1, by simp, by rw [RS.out, if_pos EE.out], by omega, J1⟩, by simp [intOf]; omega⟩
          · have e' : (x.1 == i) = false := by simpa using e
            have EE := Lib.hid e
            clear e
            go_wp2
            exact ⟨⟨j + 1, by simp, by rw [RS.out, if_neg EE.out], by omega, J1⟩, by simp [intOf]; omega⟩
        · have dj : decide ((j : Int) < (wait.length : Int)) = false := decide_eq_false (by omega)
          obtain rfl : j = wait.length := by omega
          rw [List.take_length]
          go_wp2
          go_ret2
          exact ⟨rfl, J1.out⟩
  rw [← hs0]
  exact tail _ rfl
#print axioms rread_on
end Go.Proofs.YtpdnfaggdheneaaDoorS
