/- SectorFuel walked. -/
import Derived.Test.YtpdnfaggdheneaaDoorSA1
import Derived.Test.YtpdnfaggdheneaaDoorCd
namespace Go.Proofs.YtpdnfaggdheneaaDoorS
open Go.RowKit Go.Proofs Go.Proofs.YtpdnfaggdheneaaDoorW.PrintWords Go.Proofs.YtpdnfaggdheneaaDoorC

theorem a_write_no {w : World} {B D S : Nat} {ok : Nat → Prop} {d : Dsk} (i : Int) (s : ByteArray) (h : At w B D S ok d) (hc : d.can = false) (hi : d.here i) (hs : s.size ≤ 512) :
    Calls Tryd.prog 8 #[.pointer (some ⟨D, 0, none⟩), .int .i64 i, .string s] w fun e w' => e = .returned (.iface 53 (.int .i64 20)) ∧ Aft w B D S ok d.stepped w' := by
  by_cases ho : d.off = true
  · refine (a_write_off i s h ho).mono fun e w' ⟨he, hw⟩ => ⟨he, ?_⟩
    subst hw
    have : d.stepped = d := by
      obtain ⟨su, wa, l, o⟩ := d
      simp only at ho
      subst ho
      simp [Dsk.stepped, stepLeft, stepOff]
    rw [this]
    exact ⟨h, Keep.refl _ _⟩
  · have ho' : d.off = false := by simpa using ho
    have hl : d.left = 0 := Classical.byContradiction fun hn => by rw [can_iff.2 ⟨ho', hn⟩] at hc; cases hc
    exact a_write_dry i s h ho' hl hi hs
theorem stepped_off {d : Dsk} (hc : d.can = false) : d.stepped.off = true := by
  show stepOff d.left d.off = true
  unfold stepOff
  by_cases ho : d.off = true
  · rw [ho]; rfl
  · have ho' : d.off = false := by simpa using ho
    have hl : d.left = 0 := Classical.byContradiction fun hn => by rw [can_iff.2 ⟨ho', hn⟩] at hc; cases hc
    rw [hl, ho']
    rfl
theorem stepped_no {d : Dsk} (hc : d.can = false) : d.stepped.can = false := by
  have := stepped_off hc
  unfold Dsk.can stepB
  rw [this]
  rfl
theorem flushed_len (d : Dsk) : d.flushed.sure.length = d.sure.length := madeL_length _ _ _ _ _
/-- With n steps of fuel and behind T tries. -/
structure Fl (d : Dsk) (n T : Nat) : Prop where
  four : d.sure.length = 4
  on : T ≤ n → d.off = false ∧ d.left = (n : Int) - T
  off : n < T → d.off = true
theorem Fl.can {d : Dsk} {n T : Nat} (h : Fl d n T) (hT : T < n) : d.can = true := can_iff.2 ⟨(h.on (by omega)).1, by rw [(h.on (by omega)).2]; omega⟩
theorem Fl.no {d : Dsk} {n T : Nat} (h : Fl d n T) (hT : n ≤ T) : d.can = false := by
  cases hc : d.can with
  | false => rfl
  | true =>
    obtain ⟨h1, h2⟩ := can_iff.1 hc
    rcases Nat.eq_or_lt_of_le hT with e | e
    · have := (h.on (by omega)).2
      omega
    · rw [h.off e] at h1
      cases h1
/-- A step that is made. -/
theorem Fl.step {d d' : Dsk} {n T : Nat} (h : Fl d n T) (hT : T < n) (h4 : d'.sure.length = d.sure.length) (hl : d'.left = stepLeft d.left d.off) (ho : d'.off = stepOff d.left d.off) : Fl d' n (T + 1) := by
  obtain ⟨h1, h2⟩ := h.on (by omega)
  refine ⟨h4.trans h.four, fun _ => ⟨?_, ?_⟩, fun hn => by omega⟩
  · rw [ho, h1, h2]
    unfold stepOff
    rw [Bool.false_or, beq_eq_false_iff_ne]
    omega
  · rw [hl, h1, h2]
    unfold stepLeft
    rw [if_pos ⟨rfl, by omega⟩]
    omega
theorem Fl.dry {d : Dsk} {n T : Nat} (h : Fl d n T) (hT : n ≤ T) : Fl d.stepped n (T + 1) := ⟨h.four, fun hn => by omega, fun _ => stepped_off (h.no hT)⟩
theorem Fl.more {d : Dsk} {n T : Nat} (h : Fl d n T) (hT : n < T) : Fl d n (T + 1) := ⟨h.four, fun hn => by omega, fun _ => h.off hT⟩
theorem et_keep {w w' : World} {ok : Nat → Prop} (h : HasEt w) (hk : Keep w w' ok) (h0 : ok 0) : HasEt w' := hk.cell (p := ⟨0, 0, none⟩) h h0
theorem et_lt {w : World} (h : HasEt w) : 0 < w.heap.size := World.block_lt_of_cell? w _ h
set_option maxRecDepth 100000 in
set_option maxHeartbeats 4000000 in
theorem fuel_law {w : World} (n t : Int) (hg : HasEt w) (n0 : -9223372036854775808 ≤ n) (n1 : n < 9223372036854775808) (t0 : -9223372036854775808 ≤ t) (t1 : t < 9223372036854775808) :
    Calls Tryd.prog 3 #[.int .i64 n, .int .i64 t] w fun e w' => e = .returned (.bool true) ∧ Below w.heap.size w w' := by
  have HGE := Lib.hid hg
  clear hg
  by_cases hb : 0 ≤ n ∧ n ≤ 50 ∧ 0 ≤ t ∧ t ≤ 100
  · obtain ⟨b1, b2, b3, b4⟩ := hb
    obtain ⟨n, rfl⟩ := Int.eq_ofNat_of_zero_le b1
    obtain ⟨t, rfl⟩ := Int.eq_ofNat_of_zero_le b3
    have q1 : decide ((n : Int) < 0) = false := decide_eq_false (by omega)
    have q2 : decide (50 < (n : Int)) = false := decide_eq_false (by omega)
    have q3 : decide ((t : Int) < 0) = false := decide_eq_false (by omega)
    have q4 : decide (100 < (t : Int)) = false := decide_eq_false (by omega)
    go_enter Tryd.func3, Tryd.ntmps3
    go_wp2_with fail
    refine (awake_calls _).mono ?_
    rintro e w1 ⟨rfl, h1⟩
    have H1 := Lib.hid h1
    have GE1 := Lib.hid (HGE.out.below h1); clear h1
    go_wp2_with fail
    refine (a_new 4 _ (by omega) (by omega)).mono ?_
    rintro e w2 ⟨rfl, h2⟩
    obtain ⟨D, hD⟩ : ∃ D, D = w1.heap.size + 1 := ⟨_, rfl⟩
    obtain ⟨S, hS⟩ : ∃ S, S = w1.heap.size := ⟨_, rfl⟩
    have H2 := Lib.hid (show Aft w1 S D S (fun k => k < w1.heap.size) (newD 4) w2 by rw [hD, hS]; exact h2); clear h2
    rw [← hD]
    clear hD hS
    go_wp2_with fail
    refine (a_fuel (n : Int) H2.out.disk (by omega)).mono ?_
    rintro e w3 ⟨rfl, h3⟩
    have H3 := Lib.hid (H2.out.trans h3); clear h3
    have F3 := Lib.hid (show Fl ((newD 4).fueled n) n 0 from ⟨by simp [newD, Dsk.fueled], fun _ => ⟨rfl, by show max (n : Int) (-1) = _; omega⟩, fun h => by omega⟩)
    go_wp2_with fail
    go_loopw [7, 37] (fun u v wr => ∃ (j dn : Nat) (d : Dsk), u = .int .i64 dn ∧ v = .int .i64 j ∧ j ≤ t ∧ dn ≤ n ∧ dn ≤ j + j / 3 ∧ Hid (Aft w1 S D S (fun k => k < w1.heap.size) d wr) ∧ Hid (Fl d n (j + j / 3)) ∧ Hid (d.wait.length ≤ j))
      (fun _ v _ => t - (intOf v).toNat)
    case atStart => exact ⟨0, 0, (newD 4).fueled n, rfl, rfl, by omega, by omega, by omega, H3, F3, Lib.hid (by simp [newD, Dsk.fueled])⟩
    case round =>
      clear H3 F3
      obtain ⟨j, dn, d, rfl, rfl, hj, hdn, hdj, AT, FL, WL⟩ := hrel
      by_cases hjt : j < t
      · have dj : decide ((j : Int) < (t : Int)) = true := decide_eq_true (by omega)
        have i4 : 0 ≤ (j : Int) % 4 := by omega
        have i4' : (j : Int) % 4 < 4 := by omega
        have HI := Lib.hid (show d.here ((j : Int) % 4) from ⟨i4, by rw [FL.out.four]; exact i4'⟩)
        by_cases h3 : j % 3 = 2
        · have e3 : ((j : Int) % 3 == 2) = true := by rw [beq_iff_eq]; omega
          have e3' : (j + 1) / 3 = j / 3 + 1 := by omega
          have E3 := Lib.hid e3'
          clear e3'
          by_cases hc : j + j / 3 < n
          · go_wp2_with fail
            refine (a_write ((j : Int) % 4) ⟨#[120]⟩ AT.out.disk (FL.out.can hc) HI.out (by decide) (by have := WL.out; omega)).mono ?_
            rintro e w4 ⟨rfl, h4⟩
            have H4 := Lib.hid (AT.out.trans h4); clear h4
            have FL4 := Lib.hid (FL.out.step (d' := d.wrote ((j : Int) % 4) ⟨#[120]⟩) hc rfl rfl rfl)
            by_cases hc2 : j + j / 3 + 1 < n
            · go_wp2_with fail
              refine (a_flush H4.out.disk (FL4.out.can hc2)).mono ?_
              rintro e w5 ⟨rfl, h5⟩
              have H5 := Lib.hid (H4.out.trans h5); clear h5
              go_wp2
              go_roundw
              case rel => exact ⟨j + 1, dn + 1, _, by go_num, by go_num, by omega, by omega, by omega, H5, Lib.hid (by rw [E3.out, show j + 1 + (j / 3 + 1) = j + j / 3 + 1 + 1 by omega]; exact FL4.out.step hc2 (flushed_len _) rfl rfl), Lib.hid (by show ([] : List Wr).length ≤ _; simp)⟩
              case measure => simp [intOf]; omega
            · have hcn := FL4.out.no (by omega)
              go_wp2_with fail
              refine (a_flush_dry H4.out.disk hcn).mono ?_
              rintro e w5 ⟨rfl, h5⟩
              have H5 := Lib.hid (H4.out.trans h5); clear h5
              have OF := Lib.hid (stepped_off hcn)
              go_wp2_with fail
              refine (a_off H5.out.disk).mono ?_
              rw [OF.out]
              rintro e w6 ⟨rfl, hw6⟩
              subst hw6
              go_wp2_with fail
              refine (code_err 20 _ (et_keep GE1.out H5.out.keep (et_lt GE1.out))).mono ?_
              rintro e w7 ⟨rfl, h7⟩
              have H7 := Lib.hid (H5.out.trans (Aft.of_below H5.out.disk h7)); clear h7
              go_wp2
              go_roundw
              case rel => exact ⟨j + 1, dn, _, by go_num, by go_num, by omega, by omega, by omega, H7, Lib.hid (by rw [E3.out, show j + 1 + (j / 3 + 1) = j + j / 3 + 1 + 1 by omega]; exact FL4.out.dry (by omega)), Lib.hid (by show (d.wait ++ [_]).length ≤ _; rw [List.length_append]; have := WL.out; simp; omega)⟩
              case measure => simp [intOf]; omega
          · have hcn := FL.out.no (by omega)
            go_wp2_with fail
            refine (a_write_no ((j : Int) % 4) ⟨#[120]⟩ AT.out.disk hcn HI.out (by decide)).mono ?_
            rintro e w4 ⟨rfl, h4⟩
            have H4 := Lib.hid (AT.out.trans h4); clear h4
            have FL4 := Lib.hid (FL.out.dry (by omega))
            have hcn2 := FL4.out.no (by omega)
            go_wp2_with fail
            refine (a_flush_dry H4.out.disk hcn2).mono ?_
            rintro e w5 ⟨rfl, h5⟩
            have H5 := Lib.hid (H4.out.trans h5); clear h5
            have OF := Lib.hid (stepped_off hcn2)
            go_wp2_with fail
            refine (a_off H5.out.disk).mono ?_
            rw [OF.out]
            rintro e w6 ⟨rfl, hw6⟩
            subst hw6
            go_wp2_with fail
            refine (code_err 20 _ (et_keep GE1.out H5.out.keep (et_lt GE1.out))).mono ?_
            rintro e w7 ⟨rfl, h7⟩
            have H7 := Lib.hid (H5.out.trans (Aft.of_below H5.out.disk h7)); clear h7
            go_wp2
            go_roundw
            case rel => exact ⟨j + 1, dn, _, by go_num, by go_num, by omega, by omega, by omega, H7, Lib.hid (by rw [E3.out, show j + 1 + (j / 3 + 1) = j + j / 3 + 1 + 1 by omega]; exact FL4.out.dry (by omega)), Lib.hid (by show d.wait.length ≤ _; have := WL.out; omega)⟩
            case measure => simp [intOf]; omega
        · have e3 : ((j : Int) % 3 == 2) = false := by rw [beq_eq_false_iff_ne]; omega
          have e3' : (j + 1) / 3 = j / 3 := by omega
          have E3 := Lib.hid e3'
          clear e3'
          by_cases hc : j + j / 3 < n
          · go_wp2_with fail
            refine (a_write ((j : Int) % 4) ⟨#[120]⟩ AT.out.disk (FL.out.can hc) HI.out (by decide) (by have := WL.out; omega)).mono ?_
            rintro e w4 ⟨rfl, h4⟩
            have H4 := Lib.hid (AT.out.trans h4); clear h4
            go_wp2
            go_roundw
            case rel => exact ⟨j + 1, dn + 1, _, by go_num, by go_num, by omega, by omega, by omega, H4, Lib.hid (by rw [E3.out, show j + 1 + j / 3 = j + j / 3 + 1 by omega]; exact FL.out.step hc rfl rfl rfl), Lib.hid (by show (d.wait ++ [_]).length ≤ _; rw [List.length_append]; have := WL.out; simp; omega)⟩
            case measure => simp [intOf]; omega
          · have hcn := FL.out.no (by omega)
            go_wp2_with fail
            refine (a_write_no ((j : Int) % 4) ⟨#[120]⟩ AT.out.disk hcn HI.out (by decide)).mono ?_
            rintro e w5 ⟨rfl, h5⟩
            have H5 := Lib.hid (AT.out.trans h5); clear h5
            have OF := Lib.hid (stepped_off hcn)
            go_wp2_with fail
            refine (a_off H5.out.disk).mono ?_
            rw [OF.out]
            rintro e w6 ⟨rfl, hw6⟩
            subst hw6
            go_wp2_with fail
            refine (code_err 20 _ (et_keep GE1.out H5.out.keep (et_lt GE1.out))).mono ?_
            rintro e w7 ⟨rfl, h7⟩
            have H7 := Lib.hid (H5.out.trans (Aft.of_below H5.out.disk h7)); clear h7
            go_wp2
            go_roundw
            case rel => exact ⟨j + 1, dn, _, by go_num, by go_num, by omega, by omega, by omega, H7, Lib.hid (by rw [E3.out, show j + 1 + j / 3 = j + j / 3 + 1 by omega]; exact FL.out.dry (by omega)), Lib.hid (by show d.wait.length ≤ _; have := WL.out; omega)⟩
            case measure => simp [intOf]; omega
      · have dj : decide ((j : Int) < (t : Int)) = false := decide_eq_false (by omega)
        obtain rfl : j = t := by omega
        have ld : decide ((dn : Int) ≤ (n : Int)) = true := decide_eq_true (by omega)
        by_cases hT : j + j / 3 ≤ n
        · have OF := Lib.hid (FL.out.on hT).1
          have dt : decide ((n : Int) < (j : Int) + (j : Int) / 3) = false := decide_eq_false (by omega)
          go_wp2_with fail
          refine (a_off AT.out.disk).mono ?_
          rw [OF.out]
          rintro e w6 ⟨rfl, hw6⟩
          subst hw6
          go_wp2_with fail
          refine (a_fall (A := none) (c := 0) [] AT.out.disk (keepAt_nil _ _)).mono ?_
          rintro e w8 ⟨rfl, h8⟩
          have H8 := Lib.hid (AT.out.trans h8); clear h8
          go_wp2_with fail
          refine (a_write 0 ⟨#[121]⟩ H8.out.disk rfl ⟨by omega, by show (0 : Int) < ((madeL [] false d.wait 0 d.sure).length : Int); rw [madeL_length, FL.out.four]; decide⟩ (by decide) (by show ([] : List Wr).length ≤ _; simp)).mono ?_
          rintro e w9 ⟨rfl, h9⟩
          have H9 := Lib.hid (H8.out.trans h9); clear h9
          go_wp2_with fail
          refine (a_off H9.out.disk).mono ?_
          rw [show ((d.fallen []).wrote 0 ⟨#[121]⟩).off = false from rfl]
          rintro e w10 ⟨rfl, hw10⟩
          subst hw10
          go_wp2
          go_ret
          exact ⟨rfl, H1.out.trans (H9.out.keep.below H1.out.size (fun k hk => Nat.lt_of_lt_of_le hk H1.out.size))⟩
        · have OF := Lib.hid (FL.out.off (by omega))
          have dt : decide ((n : Int) < (j : Int) + (j : Int) / 3) = true := decide_eq_true (by omega)
          go_wp2_with fail
          refine (a_off AT.out.disk).mono ?_
          rw [OF.out]
          rintro e w6 ⟨rfl, hw6⟩
          subst hw6
          go_wp2_with fail
          refine (a_fall (A := none) (c := 0) [] AT.out.disk (keepAt_nil _ _)).mono ?_
          rintro e w8 ⟨rfl, h8⟩
          have H8 := Lib.hid (AT.out.trans h8); clear h8
          go_wp2_with fail
          refine (a_write 0 ⟨#[121]⟩ H8.out.disk rfl ⟨by omega, by show (0 : Int) < ((madeL [] false d.wait 0 d.sure).length : Int); rw [madeL_length, FL.out.four]; decide⟩ (by decide) (by show ([] : List Wr).length ≤ _; simp)).mono ?_
          rintro e w9 ⟨rfl, h9⟩
          have H9 := Lib.hid (H8.out.trans h9); clear h9
          go_wp2_with fail
          refine (a_off H9.out.disk).mono ?_
          rw [show ((d.fallen []).wrote 0 ⟨#[121]⟩).off = false from rfl]
          rintro e w10 ⟨rfl, hw10⟩
          subst hw10
          go_wp2
          go_ret
          exact ⟨rfl, H1.out.trans (H9.out.keep.below H1.out.size (fun k hk => Nat.lt_of_lt_of_le hk H1.out.size))⟩
  · have hor : n < 0 ∨ (¬ n < 0 ∧ 50 < n) ∨ (¬ n < 0 ∧ ¬ 50 < n ∧ t < 0) ∨ (¬ n < 0 ∧ ¬ 50 < n ∧ ¬ t < 0 ∧ 100 < t) := by omega
    clear hb
    have fin : ∀ (b1 b2 b3 b4 : Bool), decide (n < 0) = b1 → decide (50 < n) = b2 → decide (t < 0) = b3 → decide (100 < t) = b4 → (b1 || (b2 || (b3 || b4))) = true → Calls Tryd.prog 3 #[.int .i64 n, .int .i64 t] w fun e w' => e = .returned (.bool true) ∧ Below w.heap.size w w' := by
      intro b1 b2 b3 b4 e1 e2 e3 e4 hb
      cases b1 <;> cases b2 <;> cases b3 <;> cases b4 <;> first
        | (cases hb; done)
        | (clear hb hor
           go_enter Tryd.func3, Tryd.ntmps3
           go_wp2_with fail
           refine (awake_calls _).mono ?_
           rintro e w1 ⟨rfl, h1⟩
           have H1 := Lib.hid h1; clear h1
           go_wp2
           go_ret
           exact ⟨rfl, H1.out⟩)
    refine fin _ _ _ _ rfl rfl rfl rfl ?_
    rcases hor with h | ⟨_, h⟩ | ⟨_, _, h⟩ | ⟨_, _, _, h⟩ <;> simp [h]
#print axioms fuel_law
end Go.Proofs.YtpdnfaggdheneaaDoorS
