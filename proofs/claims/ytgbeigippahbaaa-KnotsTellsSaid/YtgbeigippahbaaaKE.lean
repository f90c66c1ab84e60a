/- The document's right and Comes walked. (Printed by mkKE.py.) -/
import Derived.Test.YtgbeigippahbaaaKD
import Derived.Test.YtgbeigippahbaaaKA
namespace Go.Proofs.YtgbeigippahbaaaK
open Go.RowKit Go.Proofs Go.Proofs.YtgbeigippahbaaaW.PrintWords Go.Proofs.YtgbeigippahbaaaW.PrintLast

def RightEnd (w : World) (b : Bool) (e : Ending) (w' : World) : Prop := e = .returned (.bool b) ∧ Below w.heap.size w w'
theorem okE_ways (n : Int) (x y : Int) : (decide (x ≥ 0) = false ∧ okE n.toNat (x, y) = false) ∨ (decide (x ≥ 0) = true ∧ decide (x < n) = false ∧ okE n.toNat (x, y) = false) ∨ (decide (x ≥ 0) = true ∧ decide (x < n) = true ∧ decide (y ≥ 0) = false ∧ okE n.toNat (x, y) = false) ∨ (decide (x ≥ 0) = true ∧ decide (x < n) = true ∧ decide (y ≥ 0) = true ∧ decide (y < n) = false ∧ okE n.toNat (x, y) = false) ∨ (decide (x ≥ 0) = true ∧ decide (x < n) = true ∧ decide (y ≥ 0) = true ∧ decide (y < n) = true ∧ okE n.toNat (x, y) = true) := by
  have h : okE n.toNat (x, y) = true ↔ 0 ≤ x ∧ x < n ∧ 0 ≤ y ∧ y < n := by
    simp only [okE, Bool.and_eq_true, decide_eq_true_eq]
    omega
  have h' : okE n.toNat (x, y) = false ↔ ¬ (0 ≤ x ∧ x < n ∧ 0 ≤ y ∧ y < n) := by rw [← h]; simp
  rw [h, h']
  simp only [decide_eq_true_eq, decide_eq_false_iff_not]
  omega
theorem right_calls {w : World} (n x y : Int) {b : Bool} (hb : okE n.toNat (x, y) = b) : Calls Try.prog 18 #[.int .i64 n, .agg #[.int .i64 x, .int .i64 y]] w (RightEnd w b) := by
  have H := Lib.hid hb
  clear hb
  rcases okE_ways n x y with ⟨d1, hq⟩ | ⟨d1, d2, hq⟩ | ⟨d1, d2, d3, hq⟩ | ⟨d1, d2, d3, d4, hq⟩ | ⟨d1, d2, d3, d4, hq⟩
  all_goals
    have HQ := Lib.hid hq
    clear hq
    go_enter Try.func18, Try.ntmps18
    go_wp2
    go_ret
    exact ⟨by rw [← H.out, HQ.out]; rfl, below_alloc (Below.refl _ _) _⟩
theorem infoBs : (Try.prog.info? 40).map (fun i => (i.zero, i.size, i.bytes)) = some (some (.slice none 0 0), 1, 24) := by kernel_rfl
def ComesEnd (w : World) (N : Nat) (es : List Edge) (e : Ending) (w' : World) : Prop :=
  Below w.heap.size w w' ∧ ∃ vc r, e = .returned vc ∧ Mat w' w.heap.size vc N N (war (edgeM N es) N) r
set_option maxRecDepth 100000 in
set_option maxHeartbeats 8000000 in
theorem comes_calls {w : World} {A : Option Addr} {c : Nat} (n : Int) (es : List Edge) (hE : EdgesAt w A es) (hn : n ≤ 2000) (hes : es.length ≤ 100000) :
    Calls Try.prog 19 #[.int .i64 n, .slice A es.length c] w (ComesEnd w n.toNat es) := by
  obtain ⟨N, hN⟩ : ∃ N, N = n.toNat := ⟨_, rfl⟩
  obtain ⟨ln, hln⟩ : ∃ ln, ln = es.length := ⟨_, rfl⟩
  rw [← hN, ← hln]
  have HLN := Lib.hid hln
  have HN := Lib.hid hN
  have HE := Lib.hid hE
  have hNb : N ≤ 2000 := by omega
  have hlb : ln ≤ 100000 := by omega
  have HI := Lib.hid (show ∀ i : Nat, i < N → (i : Int) < n ∧ n = (N : Int) from fun i hi => by omega)
  have HI' := Lib.hid (show ∀ i : Nat, ¬ i < N → decide ((i : Int) < n) = false from fun i hi => decide_eq_false (by omega))
  have HMB := Lib.hid (make_bools N (by omega))
  clear hN hln hE hn hes
  go_enter Try.func19, Try.ntmps19
  go_wp2_with fail
  go_loopw [5, 6] (fun v a wr => ∃ (k : Nat) (r : Nat → Nat), a = .int .i64 (k : Int) ∧ k ≤ N ∧ Hid (Mat wr w.heap.size v N k (fun _ _ => false) r) ∧ Hid (Below w.heap.size w wr)) (fun _ a _ => N - (intOf a).toNat)
  case atStart => exact ⟨0, fun _ => 0, rfl, by omega, Lib.hid ⟨World.ownsRow_nil _ _ _ _, (fun i hi => by cases hi), (fun i hi => by cases hi), (fun i j hi => by cases hi), (fun i hi => by cases hi)⟩, Lib.hid (Below.refl _ _)⟩
  case round =>
    obtain ⟨k, r, rfl, hk, M1, B1⟩ := hrel
    by_cases hkN : k < N
    · as_aux_lemma =>
      obtain ⟨hkn, rfl⟩ := HI.out k hkN
      have dk : decide ((k : Int) < (N : Int)) = true := decide_eq_true hkn
      have hwk : IntKind.i64.wrap ((k : Int) + 1) = ((k + 1 : Nat) : Int) := by rw [IntWalk.i64_in _ (by omega)]; rfl
      have hmb := HMB.out
      obtain ⟨W, hW⟩ : ∃ W, W = wr.alloc (.cells (boolsC N fun _ => false).toArray 4) := ⟨_, rfl⟩
      have SZ := Lib.hid (show wr.heap.size + 1 = (wr.alloc (.cells (boolsC N fun _ => false).toArray 4)).heap.size by simp only [World.alloc, Array.size_push])
      have O1 := Lib.hid (show (wr.alloc (.cells (boolsC N fun _ => false).toArray 4)).ownsRow w.heap.size 40 1 u5 k (rowsV N r k) from M1.out.own.alloc _)
      have B2 := Lib.hid (show Below w.heap.size w (wr.alloc (.cells (boolsC N fun _ => false).toArray 4)) from below_alloc B1.out _)
      clear hW W
      go_wp2_with (first | ((with_reducible refine gate_dst (N := 20) rfl ?_); refine print_append_cells (w0 := wr.alloc (.cells (boolsC N fun _ => false).toArray 4)) (W := wr.alloc (.cells (boolsC N fun _ => false).toArray 4)) w.heap.size rfl (.tmp 16) (.tmp 19) 46 40 _ 1 24 rfl Try.underlying46 infoBs rfl (by decide) (by decide) u5 k (rowsV N r k) [.slice (some ⟨wr.heap.size, 0, none⟩) N N] rfl (congrArg (fun q => Value.slice (some ⟨q, 0, none⟩) 1 1) SZ.out) rfl (by simp [Value.oneCell']) O1.out (Below.refl _ _) B2.out.size (by omega) ?_; intro v1 w6 hown hbe hg hat; have M2 := Lib.hid (M1.out.push B1.out.size rfl hown hg hat (fun _ => rfl)); have B3 := Lib.hid (bgrown B2.out hg (fun q e => own_base M1.out.own q e)); clear hown hbe hg hat))
      go_roundw
      case rel => exact ⟨k + 1, _, (by first | trivial | go_num), by omega, M2, B3⟩
      case measure => simp [intOf]; omega
    · as_aux_lemma =>
      have dk := HI'.out k hkN
      obtain rfl : N = k := by omega
      have M2 := Lib.hid (M1.out.cong (M' := edgeM N (es.take 0)) (fun i j _ _ => by simp [edgeM, adjE]))
      clear M1
      go_wp2_with fail
      clear dk
      go_loopw [7] (fun a wr => ∃ j : Nat, a = .int .i64 (j : Int) ∧ j ≤ ln ∧ Hid (Mat wr w.heap.size u5 N N (edgeM N (es.take j)) r) ∧ Hid (Below w.heap.size w wr)) (fun a _ => ln - (intOf a).toNat)
      case atStart => exact ⟨0, rfl, by omega, M2, B1⟩
      case round =>
        clear M2 B1
        obtain ⟨j, rfl, hj, MJ, BJ⟩ := hrel
        by_cases hjl : j < ln
        · as_aux_lemma =>
          have dj : decide ((j : Int) < (ln : Int)) = true := decide_eq_true (by omega)
          have hwj : IntKind.i64.wrap ((j : Int) + 1) = ((j + 1 : Nat) : Int) := by rw [IntWalk.i64_in _ (by omega)]; rfl
          have jl : (j : Int) < (ln : Int) := by omega
          have hjm : j < es.length := by rw [← HLN.out]; exact hjl
          obtain ⟨ad, rfl, hcs⟩ := HE.out.2 j hjm
          obtain ⟨⟨x, y⟩, hxy⟩ : ∃ e, e = es.getD j (0, 0) := ⟨_, rfl⟩
          rw [← hxy] at hcs
          have HCS := Lib.hid (show ∀ j' v, (edC (x, y))[j']? = some v → wr.cell? ((ad.add (j * 2)).add j') = some v from fun q v hv => pw_cell_below BJ.out (hcs q v hv))
          have LX := Lib.hid (show ∀ w', Below w.heap.size w w' → w'.cell? (ad.add (j * 2)) = some (.int .i64 x) from fun w' hb => pw_cell_below hb (by have := hcs 0 (.int .i64 x) rfl; rw [show ∀ a : Addr, a.add 0 = a from fun a => if_pos rfl] at this; exact this))
          have LY := Lib.hid (show ∀ w', Below w.heap.size w w' → w'.cell? ⟨(ad.add (j * 2)).block, (ad.add (j * 2)).off + 1, none⟩ = some (.int .i64 y) from fun w' hb => pw_cell_below hb (hcs 1 (.int .i64 y) rfl))
          have HSN := Lib.hid (show es.take (j + 1) = es.take j ++ [(x, y)] by rw [List.take_add_one, hxy, List.getD_eq_getElem?_getD, List.getElem?_eq_getElem hjm]; rfl)
          clear hcs hxy hjm
          cases hok : okE N (x, y) with
          | false =>
            have HOK := Lib.hid hok
            have MJ' := Lib.hid (MJ.out.cong (M' := edgeM N (es.take (j + 1))) (fun i j' _ _ => by unfold edgeM; rw [HSN.out, adjE_snoc, HOK.out]; simp))
            have hok' : okE n.toNat (x, y) = false := by rw [← HN.out]; exact hok
            have HOK' := Lib.hid hok'
            clear hok hok' MJ
            go_wp2_with (first | ((with_reducible refine gate_dst (N := 31) rfl ?_); refine wpList_load_any rfl 30 (.tmp 30) rfl (ad.add (j * 2)) rfl (edC (x, y)) _ HCS.out Try.underlying30 rfl ((zero_of_info infoPair).2) ?_) | (go_at_call 18; refine (right_calls n x y HOK'.out).mono ?_; rintro e w3 ⟨rfl, hb⟩; have M3 := Lib.hid (MJ'.out.below hb); have B3 := Lib.hid (BJ.out.trans (hb.mono BJ.out.size)); clear hb))
            go_roundw
            case rel => exact ⟨j + 1, (by first | trivial | go_num), by omega, M3, B3⟩
            case measure => simp [intOf]; omega
          | true =>
            have hok' : okE n.toNat (x, y) = true := by rw [← HN.out]; exact hok
            have HOK' := Lib.hid hok'
            have HOK := Lib.hid hok
            simp only [okE, Bool.and_eq_true, decide_eq_true_eq] at hok
            obtain ⟨⟨⟨h1, h2⟩, h3⟩, h4⟩ := hok
            obtain ⟨a, rfl⟩ := Int.eq_ofNat_of_zero_le h1
            obtain ⟨b, rfl⟩ := Int.eq_ofNat_of_zero_le h3
            have haN : a < N := by omega
            have hbN : b < N := by omega
            obtain ⟨gm, cm, rfl, _⟩ := MJ.out.at (by omega)
            have MJ' := Lib.hid (show ∀ i j', upd2 (edgeM N (es.take j)) a b true i j' = edgeM N (es.take (j + 1)) i j' from fun i j' => by
              unfold edgeM upd2
              rw [HSN.out, adjE_snoc, HOK.out]
              by_cases e1 : i = a
              · subst e1
                by_cases e2 : j' = b
                · subst e2
                  simp
                · have e2' : ¬ j' = b := e2
                  simp [e2']
              · have e1' : ¬ ((a : Int) = (i : Int)) := by omega
                simp [e1, e1'])
            clear hok' h1 h2 h3 h4
            go_upto_region 10 with (first | ((with_reducible refine gate_dst (N := 31) rfl ?_); refine wpList_load_any rfl 30 (.tmp 30) rfl (ad.add (j * 2)) rfl (edC ((a : Int), (b : Int))) _ HCS.out Try.underlying30 rfl ((zero_of_info infoPair).2) ?_) | (go_at_call 18; refine (right_calls n (a : Int) (b : Int) HOK'.out).mono ?_; rintro e w3 ⟨rfl, hb⟩; have M3 := Lib.hid (MJ.out.below hb); have B3 := Lib.hid (BJ.out.trans (hb.mono BJ.out.size)); clear hb))
            obtain ⟨w5, hw5⟩ : ∃ w5, w5 = w3.drew := ⟨_, rfl⟩
            have M5 := Lib.hid (show Mat w5 w.heap.size (.slice (some ⟨gm, 0, none⟩) N cm) N N (edgeM N (es.take j)) r by rw [hw5]; exact M3.out.drew)
            have B5 := Lib.hid (show Below w.heap.size w w5 by rw [hw5]; exact bdrew B3.out)
            have RW := Lib.hid (M5.out.rows haN)
            have FZ := Lib.hid (M5.out.free (j := b) haN)
            have CB := Lib.hid (M5.out.bit haN hbN)
            have M6 := Lib.hid ((M5.out.set haN b true).cong (M' := edgeM N (es.take (j + 1))) (fun i j' _ _ => (MJ'.out i j').symm))
            have B6 := Lib.hid (bput (v := b) (u := .bool true) B5.out (M5.out.base a haN))
            have HW5 := Lib.hid hw5
            clear hw5 M3 B3 MJ BJ
            refine start_ (n := 15) (S := fun w' => w'.cell? (ad.add (j * 2)) = some (.int .i64 (a : Int)) ∧ w'.cell? ⟨(ad.add (j * 2)).block, (ad.add (j * 2)).off + 1, none⟩ = some (.int .i64 (b : Int)) ∧ w'.cell? ⟨gm, a, none⟩ = some (.slice (some ⟨r a, 0, none⟩) N N)) (ds := [14]) #[false, false, false, false, false, false, false, false, false, false, false, false, false, false, false] (by kernel_rfl) rfl rfl ⟨(by rw [← HW5.out]; exact LX.out _ B5.out), (by rw [← HW5.out]; exact LY.out _ B5.out), (by rw [← HW5.out]; exact RW.out)⟩ (fun hHeld => ?_)
            rw [← HW5.out] at hHeld ⊢
            refine pure_ (i := 0) (N := some 33) (v := ?_) (a' := ?_) #[true, false, false, false, false, false, false, false, false, false, false, false, false, false, false] rfl rfl (by kernel_rfl) (fun _ _ _ h => h) (Or.inl ⟨by rfl, ?_⟩) ?_ ?_
            rotate_left
            · intro w'
              go_simp
              with_reducible rfl
            rotate_left
            · simp only [Act.put, List.setIfInBounds_toArray, List.set_cons_zero, List.set_cons_succ]
              rfl
            refine pure_ (i := 1) (N := some 34) (v := ?_) (a' := ?_) #[true, true, false, false, false, false, false, false, false, false, false, false, false, false, false] rfl rfl (by kernel_rfl) (fun _ _ _ h => h) (Or.inl ⟨by rfl, ?_⟩) ?_ ?_
            rotate_left
            · intro w'
              go_simp
              with_reducible rfl
            rotate_left
            · simp only [Act.put, List.setIfInBounds_toArray, List.set_cons_zero, List.set_cons_succ]
              rfl
            refine pure_ (i := 2) (N := some 35) (v := ?_) (a' := ?_) #[true, true, true, false, false, false, false, false, false, false, false, false, false, false, false] rfl rfl (by kernel_rfl) (fun _ _ _ h => h) (Or.inl ⟨by rfl, ?_⟩) ?_ ?_
            rotate_left
            · intro w'
              go_simp
              with_reducible rfl
            rotate_left
            · simp only [Act.put, List.setIfInBounds_toArray, List.set_cons_zero, List.set_cons_succ]
              rfl
            refine pure_ (i := 3) (N := some 36) (v := ?_) (a' := ?_) #[true, true, true, true, false, false, false, false, false, false, false, false, false, false, false] rfl rfl (by kernel_rfl) (fun _ _ _ h => h) (Or.inl ⟨by rfl, ?_⟩) ?_ ?_
            rotate_left
            · intro w'
              go_simp
              with_reducible rfl
            rotate_left
            · simp only [Act.put, List.setIfInBounds_toArray, List.set_cons_zero, List.set_cons_succ]
              rfl
            refine pure_ (i := 4) (N := some 37) (v := ?_) (a' := ?_) #[true, true, true, true, true, false, false, false, false, false, false, false, false, false, false] rfl rfl (by kernel_rfl) (fun _ _ _ h => h) (Or.inl ⟨by rfl, ?_⟩) ?_ ?_
            rotate_left
            · intro w'
              go_simp
              with_reducible rfl
            rotate_left
            · simp only [Act.put, List.setIfInBounds_toArray, List.set_cons_zero, List.set_cons_succ]
              rfl
            refine pure_ (i := 8) (N := some 41) (v := ?_) (a' := ?_) #[true, true, true, true, true, false, false, false, true, false, false, false, false, false, false] rfl rfl (by kernel_rfl) (fun _ _ _ h => h) (Or.inl ⟨by rfl, ?_⟩) ?_ ?_
            rotate_left
            · intro w'
              go_simp
              with_reducible rfl
            rotate_left
            · simp only [Act.put, List.setIfInBounds_toArray, List.set_cons_zero, List.set_cons_succ]
              rfl
            refine pure_ (i := 9) (N := some 42) (v := ?_) (a' := ?_) #[true, true, true, true, true, false, false, false, true, true, false, false, false, false, false] rfl rfl (by kernel_rfl) (fun _ _ _ h => h) (Or.inl ⟨by rfl, ?_⟩) ?_ ?_
            rotate_left
            · intro w'
              go_simp
              with_reducible rfl
            rotate_left
            · simp only [Act.put, List.setIfInBounds_toArray, List.set_cons_zero, List.set_cons_succ]
              rfl
            refine pure_ (i := 10) (N := some 43) (v := ?_) (a' := ?_) #[true, true, true, true, true, false, false, false, true, true, true, false, false, false, false] rfl rfl (by kernel_rfl) (fun _ _ _ h => h) (Or.inl ⟨by rfl, ?_⟩) ?_ ?_
            rotate_left
            · intro w'
              go_simp
              with_reducible rfl
            rotate_left
            · simp only [Act.put, List.setIfInBounds_toArray, List.set_cons_zero, List.set_cons_succ]
              rfl
            refine pure_ (i := 11) (N := some 44) (v := ?_) (a' := ?_) #[true, true, true, true, true, false, false, false, true, true, true, true, false, false, false] rfl rfl (by kernel_rfl) (fun _ _ _ h => h) (Or.inl ⟨by rfl, ?_⟩) ?_ ?_
            rotate_left
            · intro w'
              go_simp
              with_reducible rfl
            rotate_left
            · simp only [Act.put, List.setIfInBounds_toArray, List.set_cons_zero, List.set_cons_succ]
              rfl
            refine take_ (i := 5) (N := some 38) (v := ?_) (a' := ?_) #[true, true, true, true, true, true, false, false, true, true, true, true, false, false, false] rfl rfl (by kernel_rfl) (fun _ _ _ h => h) (Or.inl ⟨by rfl, ?_⟩) hHeld ?_ ?_
            rotate_left
            · rintro w' ⟨s0, s1, s2⟩
              go_simp
              with_reducible rfl
            rotate_left
            · simp only [Act.put, List.setIfInBounds_toArray, List.set_cons_zero, List.set_cons_succ]
              rfl
            refine pure_ (i := 6) (N := some 39) (v := ?_) (a' := ?_) #[true, true, true, true, true, true, true, false, true, true, true, true, false, false, false] rfl rfl (by kernel_rfl) (fun _ _ _ h => h) (Or.inl ⟨by rfl, ?_⟩) ?_ ?_
            rotate_left
            · intro w'
              go_simp
              with_reducible rfl
            rotate_left
            · simp only [Act.put, List.setIfInBounds_toArray, List.set_cons_zero, List.set_cons_succ]
              rfl
            refine take_ (i := 7) (N := some 40) (v := ?_) (a' := ?_) #[true, true, true, true, true, true, true, true, true, true, true, true, false, false, false] rfl rfl (by kernel_rfl) (fun _ _ _ h => h) (Or.inl ⟨by rfl, ?_⟩) hHeld ?_ ?_
            rotate_left
            · rintro w' ⟨s0, s1, s2⟩
              go_simp
              with_reducible rfl
            rotate_left
            · simp only [Act.put, List.setIfInBounds_toArray, List.set_cons_zero, List.set_cons_succ]
              rfl
            refine take_ (i := 12) (N := some 45) (v := ?_) (a' := ?_) #[true, true, true, true, true, true, true, true, true, true, true, true, true, false, false] rfl rfl (by kernel_rfl) (fun _ _ _ h => h) (Or.inl ⟨by rfl, ?_⟩) hHeld ?_ ?_
            rotate_left
            · rintro w' ⟨s0, s1, s2⟩
              go_simp
              with_reducible rfl
            rotate_left
            · simp only [Act.put, List.setIfInBounds_toArray, List.set_cons_zero, List.set_cons_succ]
              rfl
            refine pure_ (i := 13) (N := some 46) (v := ?_) (a' := ?_) #[true, true, true, true, true, true, true, true, true, true, true, true, true, true, false] rfl rfl (by kernel_rfl) (fun _ _ _ h => h) (Or.inl ⟨by rfl, ?_⟩) ?_ ?_
            rotate_left
            · intro w'
              go_simp
              with_reducible rfl
            rotate_left
            · simp only [Act.put, List.setIfInBounds_toArray, List.set_cons_zero, List.set_cons_succ]
              rfl
            refine last_ (i := 14) (N := none) #[true, true, true, true, true, true, true, true, true, true, true, true, true, true, true] rfl rfl (by kernel_rfl) (by decide) (fun K hK => ?_)
            have fz := FZ.out
            have cb := CB.out
            refine skip_ (w1 := ?_) (by rfl) rfl ?_ ?_
            rotate_left
            · go_simp
              rfl
            refine hK.out _ _ ?_
            clear hK K
            refine done_ (by kernel_rfl) ?_

            go_wp2_with fail
            go_roundw
            case rel => exact ⟨j + 1, (by first | trivial | go_num), by omega, M6, B6⟩
            case measure => simp [intOf]; omega
        · as_aux_lemma =>
          have dj : decide ((j : Int) < (ln : Int)) = false := decide_eq_false (by omega)
          have hje : es.take j = es := List.take_of_length_le (by rw [← HLN.out]; omega)
          rw [hje] at MJ
          obtain ⟨M0, hM0⟩ : ∃ M0, M0 = edgeM N es := ⟨_, rfl⟩
          rw [← hM0] at MJ
          have HM0 := Lib.hid hM0
          have W0 := Lib.hid (show Mat wr w.heap.size u5 N N (war M0 0) r from MJ.out)
          clear hje MJ hM0
          go_wp2_with fail
          go_loopw [8] (fun a wr => ∃ k : Nat, a = .int .i64 (k : Int) ∧ k ≤ N ∧ Hid (Mat wr w.heap.size u5 N N (war M0 k) r) ∧ Hid (Below w.heap.size w wr)) (fun a _ => N - (intOf a).toNat)
          case atStart => exact ⟨0, rfl, by omega, W0, BJ⟩
          case round =>
            clear W0 BJ
            obtain ⟨k, rfl, hk, MK, BK⟩ := hrel
            by_cases hkN : k < N
            · as_aux_lemma =>
              obtain ⟨hkn, rfl⟩ := HI.out k hkN
              have dk : decide ((k : Int) < (N : Int)) = true := decide_eq_true hkn
              have hwk : IntKind.i64.wrap ((k : Int) + 1) = ((k + 1 : Nat) : Int) := by rw [IntWalk.i64_in _ (by omega)]; rfl
              obtain ⟨gm, cm, rfl, _⟩ := MK.out.at (by omega)
              go_wp2_with fail
              go_loopw [9] (fun a wr => ∃ i : Nat, a = .int .i64 (i : Int) ∧ i ≤ N ∧ Hid (Mat wr w.heap.size (.slice (some ⟨gm, 0, none⟩) N cm) N N (fun u v => if u < i then war M0 (k + 1) u v else war M0 k u v) r) ∧ Hid (Below w.heap.size w wr)) (fun a _ => N - (intOf a).toNat)
              case atStart => exact ⟨0, rfl, by omega, Lib.hid (MK.out.cong (fun i j _ _ => by simp)), BK⟩
              case round =>
                clear MK BK
                obtain ⟨i, rfl, hi, MI, BI⟩ := hrel
                by_cases hiN : i < N
                · as_aux_lemma =>
                  have di : decide ((i : Int) < (N : Int)) = true := decide_eq_true (by omega)
                  have hwi : IntKind.i64.wrap ((i : Int) + 1) = ((i + 1 : Nat) : Int) := by rw [IntWalk.i64_in _ (by omega)]; rfl
                  have cr := MI.out.rows hiN
                  have cb : wr.cell? ⟨r i, k, none⟩ = some (.bool (war M0 k i k)) := by have := MI.out.bit hiN hkN; rw [if_neg (Nat.lt_irrefl i)] at this; exact this
                  cases hb : war M0 k i k with
                  | false =>
                    rw [hb] at cb
                    have MI' := Lib.hid (MI.out.cong (M' := fun u v => if u < i + 1 then war M0 (k + 1) u v else war M0 k u v) (fun u v _ _ => by
                      by_cases e : u = i
                      · subst e
                        show (if u < u + 1 then war M0 (k + 1) u v else war M0 k u v) = if u < u then war M0 (k + 1) u v else war M0 k u v
                        rw [if_pos (by omega), if_neg (by omega), war_succ, hb]
                        simp
                      · show (if u < i + 1 then war M0 (k + 1) u v else war M0 k u v) = if u < i then war M0 (k + 1) u v else war M0 k u v
                        by_cases e2 : u < i
                        · rw [if_pos (by omega), if_pos e2]
                        · rw [if_neg (by omega), if_neg e2]))
                    clear hb MI
                    go_wp2_with fail
                    go_roundw
                    case rel => exact ⟨i + 1, (by first | trivial | go_num), by omega, MI', BI⟩
                    case measure => simp [intOf]; omega
                  | true =>
                    as_aux_lemma =>
                    rw [hb] at cb
                    have HB := Lib.hid hb
                    have M0' := Lib.hid (MI.out.cong (M' := fun u v => if u < i then war M0 (k + 1) u v else if u = i ∧ v < 0 then war M0 (k + 1) u v else war M0 k u v) (fun u v _ _ => by simp))
                    clear hb MI
                    go_wp2_with fail
                    clear cr cb
                    go_loopw [10] (fun a wr => ∃ j : Nat, a = .int .i64 (j : Int) ∧ j ≤ N ∧ Hid (Mat wr w.heap.size (.slice (some ⟨gm, 0, none⟩) N cm) N N (fun u v => if u < i then war M0 (k + 1) u v else if u = i ∧ v < j then war M0 (k + 1) u v else war M0 k u v) r) ∧ Hid (Below w.heap.size w wr)) (fun a _ => N - (intOf a).toNat)
                    case atStart => exact ⟨0, rfl, by omega, M0', BI⟩
                    case round =>
                      clear M0' BI
                      obtain ⟨j, rfl, hj, MJ, BJ⟩ := hrel
                      by_cases hjN : j < N
                      · have dj : decide ((j : Int) < (N : Int)) = true := decide_eq_true (by omega)
                        have hwj : IntKind.i64.wrap ((j : Int) + 1) = ((j + 1 : Nat) : Int) := by rw [IntWalk.i64_in _ (by omega)]; rfl
                        go_upto_region 21 with fail
                        obtain ⟨w5, hw5⟩ : ∃ w5, w5 = wr.drew := ⟨_, rfl⟩
                        obtain ⟨MF, hMF⟩ : ∃ MF, MF = (fun u v => if u < i then war M0 (k + 1) u v else if u = i ∧ v < j then war M0 (k + 1) u v else war M0 k u v) := ⟨_, rfl⟩
                        have M5 := Lib.hid (show Mat w5 w.heap.size (.slice (some ⟨gm, 0, none⟩) N cm) N N MF r by rw [hw5, hMF]; exact MJ.out.drew)
                        have B5 := Lib.hid (show Below w.heap.size w w5 by rw [hw5]; exact bdrew BJ.out)
                        have e1 : MF i j = war M0 k i j := by rw [hMF]; show (if i < i then _ else if i = i ∧ j < j then _ else _) = _; rw [if_neg (Nat.lt_irrefl i), if_neg (fun h => Nat.lt_irrefl _ h.2)]
                        have e2 : MF k j = war M0 k k j := by
                          rw [hMF]
                          show (if k < i then war M0 (k + 1) k j else if k = i ∧ j < j then war M0 (k + 1) k j else war M0 k k j) = _
                          by_cases h : k < i
                          · rw [if_pos h, war_row]
                          · rw [if_neg h, if_neg (fun h => Nat.lt_irrefl _ h.2)]
                        have e3 : ∀ u v, (fun u v => if u < i then war M0 (k + 1) u v else if u = i ∧ v < j + 1 then war M0 (k + 1) u v else war M0 k u v) u v = upd2 MF i j (war M0 k i j || war M0 k k j) u v := fun u v => by
                          rw [hMF]
                          show (if u < i then war M0 (k + 1) u v else if u = i ∧ v < j + 1 then war M0 (k + 1) u v else war M0 k u v) = if u = i ∧ v = j then (war M0 k i j || war M0 k k j) else if u < i then war M0 (k + 1) u v else if u = i ∧ v < j then war M0 (k + 1) u v else war M0 k u v
                          by_cases h1 : u = i
                          · subst h1
                            rw [if_neg (Nat.lt_irrefl u), if_neg (Nat.lt_irrefl u)]
                            by_cases h2 : v = j
                            · subst h2
                              rw [if_pos ⟨rfl, by omega⟩, if_pos ⟨rfl, rfl⟩, war_succ, HB.out, Bool.true_and]
                            · by_cases h3 : v < j
                              · rw [if_pos ⟨rfl, by omega⟩, if_neg (fun h => h2 h.2), if_pos ⟨rfl, h3⟩]
                              · rw [if_neg (fun h => by omega), if_neg (fun h => h2 h.2), if_neg (fun h => h3 h.2)]
                          · rw [if_neg (fun h : u = i ∧ v = j => h1 h.1), if_neg (fun h : u = i ∧ v < j + 1 => h1 h.1), if_neg (fun h : u = i ∧ v < j => h1 h.1)]
                        obtain ⟨p, hp⟩ : ∃ p, p = war M0 k i j := ⟨_, rfl⟩
                        obtain ⟨q, hq⟩ : ∃ q, q = war M0 k k j := ⟨_, rfl⟩
                        rw [← hp] at e1
                        rw [← hq] at e2
                        rw [← hp, ← hq] at e3
                        have RI := Lib.hid (M5.out.rows hiN)
                        have RK := Lib.hid (M5.out.rows hkN)
                        have CI := Lib.hid (show w5.cell? ⟨r i, j, none⟩ = some (.bool p) by have := M5.out.bit hiN hjN; rw [e1] at this; exact this)
                        have CK := Lib.hid (show w5.cell? ⟨r k, j, none⟩ = some (.bool q) by have := M5.out.bit hkN hjN; rw [e2] at this; exact this)
                        have FZ := Lib.hid (M5.out.free (j := j) hiN)
                        have M6 := Lib.hid ((M5.out.set hiN j (p || q)).cong (M' := fun u v => if u < i then war M0 (k + 1) u v else if u = i ∧ v < j + 1 then war M0 (k + 1) u v else war M0 k u v) (fun u v _ _ => e3 u v))
                        have B6 := Lib.hid (bput (v := j) (u := .bool (p || q)) B5.out (M5.out.base i hiN))
                        have HW5 := Lib.hid hw5
                        clear hw5 MJ BJ e1 e2 e3 hp hq hMF
                        cases p with
                        | true =>
                          have M6' := Lib.hid (show Mat (w5.setCell ⟨r i, j, none⟩ (.bool true)) w.heap.size (.slice (some ⟨gm, 0, none⟩) N cm) N N (fun u v => if u < i then war M0 (k + 1) u v else if u = i ∧ v < j + 1 then war M0 (k + 1) u v else war M0 k u v) r from M6.out)
                          have B6' := Lib.hid (show Below w.heap.size w (w5.setCell ⟨r i, j, none⟩ (.bool true)) from B6.out)
                          refine start_ (n := 23) (S := fun w' => w'.cell? ⟨gm, i, none⟩ = some (.slice (some ⟨r i, 0, none⟩) N N) ∧ w'.cell? ⟨r i, j, none⟩ = some (.bool true)) (ds := [22]) #[false, false, false, false, false, false, false, false, false, false, false, false, false, false, false, false, false, false, false, false, false, false, false] (by kernel_rfl) rfl rfl ⟨(by rw [← HW5.out]; exact RI.out), (by rw [← HW5.out]; exact CI.out)⟩ (fun hHeld => ?_)
                          rw [← HW5.out] at hHeld ⊢
                          refine pure_ (i := 0) (N := some 70) (v := ?_) (a' := ?_) #[true, false, false, false, false, false, false, false, false, false, false, false, false, false, false, false, false, false, false, false, false, false, false] rfl rfl (by kernel_rfl) (fun _ _ _ h => h) (Or.inl ⟨by rfl, ?_⟩) ?_ ?_
                          rotate_left
                          · intro w'
                            go_simp
                            with_reducible rfl
                          rotate_left
                          · simp only [Act.put, List.setIfInBounds_toArray, List.set_cons_zero, List.set_cons_succ]
                            rfl
                          refine pure_ (i := 1) (N := some 71) (v := ?_) (a' := ?_) #[true, true, false, false, false, false, false, false, false, false, false, false, false, false, false, false, false, false, false, false, false, false, false] rfl rfl (by kernel_rfl) (fun _ _ _ h => h) (Or.inl ⟨by rfl, ?_⟩) ?_ ?_
                          rotate_left
                          · intro w'
                            go_simp
                            with_reducible rfl
                          rotate_left
                          · simp only [Act.put, List.setIfInBounds_toArray, List.set_cons_zero, List.set_cons_succ]
                            rfl
                          refine pure_ (i := 2) (N := some 72) (v := ?_) (a' := ?_) #[true, true, true, false, false, false, false, false, false, false, false, false, false, false, false, false, false, false, false, false, false, false, false] rfl rfl (by kernel_rfl) (fun _ _ _ h => h) (Or.inl ⟨by rfl, ?_⟩) ?_ ?_
                          rotate_left
                          · intro w'
                            go_simp
                            with_reducible rfl
                          rotate_left
                          · simp only [Act.put, List.setIfInBounds_toArray, List.set_cons_zero, List.set_cons_succ]
                            rfl
                          refine pure_ (i := 4) (N := some 74) (v := ?_) (a' := ?_) #[true, true, true, false, true, false, false, false, false, false, false, false, false, false, false, false, false, false, false, false, false, false, false] rfl rfl (by kernel_rfl) (fun _ _ _ h => h) (Or.inl ⟨by rfl, ?_⟩) ?_ ?_
                          rotate_left
                          · intro w'
                            go_simp
                            with_reducible rfl
                          rotate_left
                          · simp only [Act.put, List.setIfInBounds_toArray, List.set_cons_zero, List.set_cons_succ]
                            rfl
                          refine pure_ (i := 5) (N := some 75) (v := ?_) (a' := ?_) #[true, true, true, false, true, true, false, false, false, false, false, false, false, false, false, false, false, false, false, false, false, false, false] rfl rfl (by kernel_rfl) (fun _ _ _ h => h) (Or.inl ⟨by rfl, ?_⟩) ?_ ?_
                          rotate_left
                          · intro w'
                            go_simp
                            with_reducible rfl
                          rotate_left
                          · simp only [Act.put, List.setIfInBounds_toArray, List.set_cons_zero, List.set_cons_succ]
                            rfl
                          refine pure_ (i := 6) (N := some 76) (v := ?_) (a' := ?_) #[true, true, true, false, true, true, true, false, false, false, false, false, false, false, false, false, false, false, false, false, false, false, false] rfl rfl (by kernel_rfl) (fun _ _ _ h => h) (Or.inl ⟨by rfl, ?_⟩) ?_ ?_
                          rotate_left
                          · intro w'
                            go_simp
                            with_reducible rfl
                          rotate_left
                          · simp only [Act.put, List.setIfInBounds_toArray, List.set_cons_zero, List.set_cons_succ]
                            rfl
                          refine pure_ (i := 7) (N := some 77) (v := ?_) (a' := ?_) #[true, true, true, false, true, true, true, true, false, false, false, false, false, false, false, false, false, false, false, false, false, false, false] rfl rfl (by kernel_rfl) (fun _ _ _ h => h) (Or.inl ⟨by rfl, ?_⟩) ?_ ?_
                          rotate_left
                          · intro w'
                            go_simp
                            with_reducible rfl
                          rotate_left
                          · simp only [Act.put, List.setIfInBounds_toArray, List.set_cons_zero, List.set_cons_succ]
                            rfl
                          refine pure_ (i := 9) (N := some 79) (v := ?_) (a' := ?_) #[true, true, true, false, true, true, true, true, false, true, false, false, false, false, false, false, false, false, false, false, false, false, false] rfl rfl (by kernel_rfl) (fun _ _ _ h => h) (Or.inl ⟨by rfl, ?_⟩) ?_ ?_
                          rotate_left
                          · intro w'
                            go_simp
                            with_reducible rfl
                          rotate_left
                          · simp only [Act.put, List.setIfInBounds_toArray, List.set_cons_zero, List.set_cons_succ]
                            rfl
                          refine take_ (i := 3) (N := some 73) (v := ?_) (a' := ?_) #[true, true, true, true, true, true, true, true, false, true, false, false, false, false, false, false, false, false, false, false, false, false, false] rfl rfl (by kernel_rfl) (fun _ _ _ h => h) (Or.inl ⟨by rfl, ?_⟩) hHeld ?_ ?_
                          rotate_left
                          · rintro w' ⟨s0, s1⟩
                            go_simp
                            with_reducible rfl
                          rotate_left
                          · simp only [Act.put, List.setIfInBounds_toArray, List.set_cons_zero, List.set_cons_succ]
                            rfl
                          refine take_ (i := 8) (N := some 78) (v := ?_) (a' := ?_) #[true, true, true, true, true, true, true, true, true, true, false, false, false, false, false, false, false, false, false, false, false, false, false] rfl rfl (by kernel_rfl) (fun _ _ _ h => h) (Or.inl ⟨by rfl, ?_⟩) hHeld ?_ ?_
                          rotate_left
                          · rintro w' ⟨s0, s1⟩
                            go_simp
                            with_reducible rfl
                          rotate_left
                          · simp only [Act.put, List.setIfInBounds_toArray, List.set_cons_zero, List.set_cons_succ]
                            rfl
                          refine pure_ (i := 10) (N := some 80) (v := ?_) (a' := ?_) #[true, true, true, true, true, true, true, true, true, true, true, false, false, false, false, false, false, false, false, false, false, false, false] rfl rfl (by kernel_rfl) (fun _ _ _ h => h) (Or.inl ⟨by rfl, ?_⟩) ?_ ?_
                          rotate_left
                          · intro w'
                            go_simp
                            with_reducible rfl
                          rotate_left
                          · simp only [Act.put, List.setIfInBounds_toArray, List.set_cons_zero, List.set_cons_succ]
                            rfl
                          refine take_ (i := 11) (N := some 81) (v := ?_) (a' := ?_) #[true, true, true, true, true, true, true, true, true, true, true, true, false, false, false, false, false, false, false, false, false, false, false] rfl rfl (by kernel_rfl) (fun _ _ _ h => h) (Or.inl ⟨by rfl, ?_⟩) hHeld ?_ ?_
                          rotate_left
                          · rintro w' ⟨s0, s1⟩
                            go_simp
                            with_reducible rfl
                          rotate_left
                          · simp only [Act.put, List.setIfInBounds_toArray, List.set_cons_zero, List.set_cons_succ]
                            rfl
                          refine pure_ (i := 12) (N := some 82) (v := ?_) (a' := ?_) #[true, true, true, true, true, true, true, true, true, true, true, true, true, false, false, false, false, false, false, false, false, false, false] rfl rfl (by kernel_rfl) (fun _ _ _ h => h) (Or.inl ⟨by rfl, ?_⟩) ?_ ?_
                          rotate_left
                          · intro w'
                            go_simp
                            with_reducible rfl
                          rotate_left
                          · simp only [Act.put, List.setIfInBounds_toArray, List.set_cons_zero, List.set_cons_succ]
                            rfl
                          refine pure_ (i := 13) (N := some 83) (v := undef) (a' := ?_) #[true, true, true, true, true, true, true, true, true, true, true, true, true, true, false, false, false, false, false, false, false, false, false] rfl rfl (by kernel_rfl) (fun _ _ _ h => h) (Or.inr ⟨by rfl, rfl⟩) ?_ ?_
                          rotate_left
                          · simp only [Act.put, List.setIfInBounds_toArray, List.set_cons_zero, List.set_cons_succ]
                            rfl
                          refine pure_ (i := 14) (N := some 84) (v := undef) (a' := ?_) #[true, true, true, true, true, true, true, true, true, true, true, true, true, true, true, false, false, false, false, false, false, false, false] rfl rfl (by kernel_rfl) (fun _ _ _ h => h) (Or.inr ⟨by rfl, rfl⟩) ?_ ?_
                          rotate_left
                          · simp only [Act.put, List.setIfInBounds_toArray, List.set_cons_zero, List.set_cons_succ]
                            rfl
                          refine pure_ (i := 15) (N := some 85) (v := undef) (a' := ?_) #[true, true, true, true, true, true, true, true, true, true, true, true, true, true, true, true, false, false, false, false, false, false, false] rfl rfl (by kernel_rfl) (fun _ _ _ h => h) (Or.inr ⟨by rfl, rfl⟩) ?_ ?_
                          rotate_left
                          · simp only [Act.put, List.setIfInBounds_toArray, List.set_cons_zero, List.set_cons_succ]
                            rfl
                          refine pure_ (i := 16) (N := some 86) (v := undef) (a' := ?_) #[true, true, true, true, true, true, true, true, true, true, true, true, true, true, true, true, true, false, false, false, false, false, false] rfl rfl (by kernel_rfl) (fun _ _ _ h => h) (Or.inr ⟨by rfl, rfl⟩) ?_ ?_
                          rotate_left
                          · simp only [Act.put, List.setIfInBounds_toArray, List.set_cons_zero, List.set_cons_succ]
                            rfl
                          refine pure_ (i := 17) (N := some 87) (v := undef) (a' := ?_) #[true, true, true, true, true, true, true, true, true, true, true, true, true, true, true, true, true, true, false, false, false, false, false] rfl rfl (by kernel_rfl) (fun _ _ _ h => h) (Or.inr ⟨by rfl, rfl⟩) ?_ ?_
                          rotate_left
                          · simp only [Act.put, List.setIfInBounds_toArray, List.set_cons_zero, List.set_cons_succ]
                            rfl
                          refine pure_ (i := 18) (N := some 88) (v := undef) (a' := ?_) #[true, true, true, true, true, true, true, true, true, true, true, true, true, true, true, true, true, true, true, false, false, false, false] rfl rfl (by kernel_rfl) (fun _ _ _ h => h) (Or.inr ⟨by rfl, rfl⟩) ?_ ?_
                          rotate_left
                          · simp only [Act.put, List.setIfInBounds_toArray, List.set_cons_zero, List.set_cons_succ]
                            rfl
                          refine pure_ (i := 19) (N := some 89) (v := undef) (a' := ?_) #[true, true, true, true, true, true, true, true, true, true, true, true, true, true, true, true, true, true, true, true, false, false, false] rfl rfl (by kernel_rfl) (fun _ _ _ h => h) (Or.inr ⟨by rfl, rfl⟩) ?_ ?_
                          rotate_left
                          · simp only [Act.put, List.setIfInBounds_toArray, List.set_cons_zero, List.set_cons_succ]
                            rfl
                          refine pure_ (i := 20) (N := some 90) (v := ?_) (a' := ?_) #[true, true, true, true, true, true, true, true, true, true, true, true, true, true, true, true, true, true, true, true, true, false, false] rfl rfl (by kernel_rfl) (fun _ _ _ h => h) (Or.inl ⟨by rfl, ?_⟩) ?_ ?_
                          rotate_left
                          · intro w'
                            go_simp
                            with_reducible rfl
                          rotate_left
                          · simp only [Act.put, List.setIfInBounds_toArray, List.set_cons_zero, List.set_cons_succ]
                            rfl
                          refine pure_ (i := 21) (N := some 91) (v := ?_) (a' := ?_) #[true, true, true, true, true, true, true, true, true, true, true, true, true, true, true, true, true, true, true, true, true, true, false] rfl rfl (by kernel_rfl) (fun _ _ _ h => h) (Or.inl ⟨by rfl, ?_⟩) ?_ ?_
                          rotate_left
                          · intro w'
                            go_simp
                            with_reducible rfl
                          rotate_left
                          · simp only [Act.put, List.setIfInBounds_toArray, List.set_cons_zero, List.set_cons_succ]
                            rfl
                          refine last_ (i := 22) (N := none) #[true, true, true, true, true, true, true, true, true, true, true, true, true, true, true, true, true, true, true, true, true, true, true] rfl rfl (by kernel_rfl) (by decide) (fun K hK => ?_)
                          have fz := FZ.out
                          have cb := CI.out
                          refine skip_ (w1 := ?_) (by rfl) rfl ?_ ?_
                          rotate_left
                          · go_simp
                            rfl
                          refine hK.out _ _ ?_
                          clear hK K
                          refine done_ (by kernel_rfl) ?_

                          go_wp2_with fail
                          go_roundw
                          case rel => exact ⟨j + 1, (by first | trivial | go_num), by omega, M6', B6'⟩
                          case measure => simp [intOf]; omega
                        | false =>
                          have M6' := Lib.hid (show Mat (w5.setCell ⟨r i, j, none⟩ (.bool q)) w.heap.size (.slice (some ⟨gm, 0, none⟩) N cm) N N (fun u v => if u < i then war M0 (k + 1) u v else if u = i ∧ v < j + 1 then war M0 (k + 1) u v else war M0 k u v) r from M6.out)
                          have B6' := Lib.hid (show Below w.heap.size w (w5.setCell ⟨r i, j, none⟩ (.bool q)) from B6.out)
                          refine start_ (n := 23) (S := fun w' => w'.cell? ⟨gm, i, none⟩ = some (.slice (some ⟨r i, 0, none⟩) N N) ∧ w'.cell? ⟨r i, j, none⟩ = some (.bool false) ∧ w'.cell? ⟨gm, k, none⟩ = some (.slice (some ⟨r k, 0, none⟩) N N) ∧ w'.cell? ⟨r k, j, none⟩ = some (.bool q)) (ds := [22]) #[false, false, false, false, false, false, false, false, false, false, false, false, false, false, false, false, false, false, false, false, false, false, false] (by kernel_rfl) rfl rfl ⟨(by rw [← HW5.out]; exact RI.out), (by rw [← HW5.out]; exact CI.out), (by rw [← HW5.out]; exact RK.out), (by rw [← HW5.out]; exact CK.out)⟩ (fun hHeld => ?_)
                          rw [← HW5.out] at hHeld ⊢
                          refine pure_ (i := 0) (N := some 70) (v := ?_) (a' := ?_) #[true, false, false, false, false, false, false, false, false, false, false, false, false, false, false, false, false, false, false, false, false, false, false] rfl rfl (by kernel_rfl) (fun _ _ _ h => h) (Or.inl ⟨by rfl, ?_⟩) ?_ ?_
                          rotate_left
                          · intro w'
                            go_simp
                            with_reducible rfl
                          rotate_left
                          · simp only [Act.put, List.setIfInBounds_toArray, List.set_cons_zero, List.set_cons_succ]
                            rfl
                          refine pure_ (i := 1) (N := some 71) (v := ?_) (a' := ?_) #[true, true, false, false, false, false, false, false, false, false, false, false, false, false, false, false, false, false, false, false, false, false, false] rfl rfl (by kernel_rfl) (fun _ _ _ h => h) (Or.inl ⟨by rfl, ?_⟩) ?_ ?_
                          rotate_left
                          · intro w'
                            go_simp
                            with_reducible rfl
                          rotate_left
                          · simp only [Act.put, List.setIfInBounds_toArray, List.set_cons_zero, List.set_cons_succ]
                            rfl
                          refine pure_ (i := 2) (N := some 72) (v := ?_) (a' := ?_) #[true, true, true, false, false, false, false, false, false, false, false, false, false, false, false, false, false, false, false, false, false, false, false] rfl rfl (by kernel_rfl) (fun _ _ _ h => h) (Or.inl ⟨by rfl, ?_⟩) ?_ ?_
                          rotate_left
                          · intro w'
                            go_simp
                            with_reducible rfl
                          rotate_left
                          · simp only [Act.put, List.setIfInBounds_toArray, List.set_cons_zero, List.set_cons_succ]
                            rfl
                          refine pure_ (i := 4) (N := some 74) (v := ?_) (a' := ?_) #[true, true, true, false, true, false, false, false, false, false, false, false, false, false, false, false, false, false, false, false, false, false, false] rfl rfl (by kernel_rfl) (fun _ _ _ h => h) (Or.inl ⟨by rfl, ?_⟩) ?_ ?_
                          rotate_left
                          · intro w'
                            go_simp
                            with_reducible rfl
                          rotate_left
                          · simp only [Act.put, List.setIfInBounds_toArray, List.set_cons_zero, List.set_cons_succ]
                            rfl
                          refine pure_ (i := 5) (N := some 75) (v := ?_) (a' := ?_) #[true, true, true, false, true, true, false, false, false, false, false, false, false, false, false, false, false, false, false, false, false, false, false] rfl rfl (by kernel_rfl) (fun _ _ _ h => h) (Or.inl ⟨by rfl, ?_⟩) ?_ ?_
                          rotate_left
                          · intro w'
                            go_simp
                            with_reducible rfl
                          rotate_left
                          · simp only [Act.put, List.setIfInBounds_toArray, List.set_cons_zero, List.set_cons_succ]
                            rfl
                          refine pure_ (i := 6) (N := some 76) (v := ?_) (a' := ?_) #[true, true, true, false, true, true, true, false, false, false, false, false, false, false, false, false, false, false, false, false, false, false, false] rfl rfl (by kernel_rfl) (fun _ _ _ h => h) (Or.inl ⟨by rfl, ?_⟩) ?_ ?_
                          rotate_left
                          · intro w'
                            go_simp
                            with_reducible rfl
                          rotate_left
                          · simp only [Act.put, List.setIfInBounds_toArray, List.set_cons_zero, List.set_cons_succ]
                            rfl
                          refine pure_ (i := 7) (N := some 77) (v := ?_) (a' := ?_) #[true, true, true, false, true, true, true, true, false, false, false, false, false, false, false, false, false, false, false, false, false, false, false] rfl rfl (by kernel_rfl) (fun _ _ _ h => h) (Or.inl ⟨by rfl, ?_⟩) ?_ ?_
                          rotate_left
                          · intro w'
                            go_simp
                            with_reducible rfl
                          rotate_left
                          · simp only [Act.put, List.setIfInBounds_toArray, List.set_cons_zero, List.set_cons_succ]
                            rfl
                          refine pure_ (i := 9) (N := some 79) (v := ?_) (a' := ?_) #[true, true, true, false, true, true, true, true, false, true, false, false, false, false, false, false, false, false, false, false, false, false, false] rfl rfl (by kernel_rfl) (fun _ _ _ h => h) (Or.inl ⟨by rfl, ?_⟩) ?_ ?_
                          rotate_left
                          · intro w'
                            go_simp
                            with_reducible rfl
                          rotate_left
                          · simp only [Act.put, List.setIfInBounds_toArray, List.set_cons_zero, List.set_cons_succ]
                            rfl
                          refine take_ (i := 3) (N := some 73) (v := ?_) (a' := ?_) #[true, true, true, true, true, true, true, true, false, true, false, false, false, false, false, false, false, false, false, false, false, false, false] rfl rfl (by kernel_rfl) (fun _ _ _ h => h) (Or.inl ⟨by rfl, ?_⟩) hHeld ?_ ?_
                          rotate_left
                          · rintro w' ⟨s0, s1, s2, s3⟩
                            go_simp
                            with_reducible rfl
                          rotate_left
                          · simp only [Act.put, List.setIfInBounds_toArray, List.set_cons_zero, List.set_cons_succ]
                            rfl
                          refine take_ (i := 8) (N := some 78) (v := ?_) (a' := ?_) #[true, true, true, true, true, true, true, true, true, true, false, false, false, false, false, false, false, false, false, false, false, false, false] rfl rfl (by kernel_rfl) (fun _ _ _ h => h) (Or.inl ⟨by rfl, ?_⟩) hHeld ?_ ?_
                          rotate_left
                          · rintro w' ⟨s0, s1, s2, s3⟩
                            go_simp
                            with_reducible rfl
                          rotate_left
                          · simp only [Act.put, List.setIfInBounds_toArray, List.set_cons_zero, List.set_cons_succ]
                            rfl
                          refine pure_ (i := 10) (N := some 80) (v := ?_) (a' := ?_) #[true, true, true, true, true, true, true, true, true, true, true, false, false, false, false, false, false, false, false, false, false, false, false] rfl rfl (by kernel_rfl) (fun _ _ _ h => h) (Or.inl ⟨by rfl, ?_⟩) ?_ ?_
                          rotate_left
                          · intro w'
                            go_simp
                            with_reducible rfl
                          rotate_left
                          · simp only [Act.put, List.setIfInBounds_toArray, List.set_cons_zero, List.set_cons_succ]
                            rfl
                          refine take_ (i := 11) (N := some 81) (v := ?_) (a' := ?_) #[true, true, true, true, true, true, true, true, true, true, true, true, false, false, false, false, false, false, false, false, false, false, false] rfl rfl (by kernel_rfl) (fun _ _ _ h => h) (Or.inl ⟨by rfl, ?_⟩) hHeld ?_ ?_
                          rotate_left
                          · rintro w' ⟨s0, s1, s2, s3⟩
                            go_simp
                            with_reducible rfl
                          rotate_left
                          · simp only [Act.put, List.setIfInBounds_toArray, List.set_cons_zero, List.set_cons_succ]
                            rfl
                          refine pure_ (i := 12) (N := some 82) (v := ?_) (a' := ?_) #[true, true, true, true, true, true, true, true, true, true, true, true, true, false, false, false, false, false, false, false, false, false, false] rfl rfl (by kernel_rfl) (fun _ _ _ h => h) (Or.inl ⟨by rfl, ?_⟩) ?_ ?_
                          rotate_left
                          · intro w'
                            go_simp
                            with_reducible rfl
                          rotate_left
                          · simp only [Act.put, List.setIfInBounds_toArray, List.set_cons_zero, List.set_cons_succ]
                            rfl
                          refine pure_ (i := 13) (N := some 83) (v := ?_) (a' := ?_) #[true, true, true, true, true, true, true, true, true, true, true, true, true, true, false, false, false, false, false, false, false, false, false] rfl rfl (by kernel_rfl) (fun _ _ _ h => h) (Or.inl ⟨by rfl, ?_⟩) ?_ ?_
                          rotate_left
                          · intro w'
                            go_simp
                            with_reducible rfl
                          rotate_left
                          · simp only [Act.put, List.setIfInBounds_toArray, List.set_cons_zero, List.set_cons_succ]
                            rfl
                          refine pure_ (i := 14) (N := some 84) (v := ?_) (a' := ?_) #[true, true, true, true, true, true, true, true, true, true, true, true, true, true, true, false, false, false, false, false, false, false, false] rfl rfl (by kernel_rfl) (fun _ _ _ h => h) (Or.inl ⟨by rfl, ?_⟩) ?_ ?_
                          rotate_left
                          · intro w'
                            go_simp
                            with_reducible rfl
                          rotate_left
                          · simp only [Act.put, List.setIfInBounds_toArray, List.set_cons_zero, List.set_cons_succ]
                            rfl
                          refine pure_ (i := 15) (N := some 85) (v := ?_) (a' := ?_) #[true, true, true, true, true, true, true, true, true, true, true, true, true, true, true, true, false, false, false, false, false, false, false] rfl rfl (by kernel_rfl) (fun _ _ _ h => h) (Or.inl ⟨by rfl, ?_⟩) ?_ ?_
                          rotate_left
                          · intro w'
                            go_simp
                            with_reducible rfl
                          rotate_left
                          · simp only [Act.put, List.setIfInBounds_toArray, List.set_cons_zero, List.set_cons_succ]
                            rfl
                          refine pure_ (i := 17) (N := some 87) (v := ?_) (a' := ?_) #[true, true, true, true, true, true, true, true, true, true, true, true, true, true, true, true, false, true, false, false, false, false, false] rfl rfl (by kernel_rfl) (fun _ _ _ h => h) (Or.inl ⟨by rfl, ?_⟩) ?_ ?_
                          rotate_left
                          · intro w'
                            go_simp
                            with_reducible rfl
                          rotate_left
                          · simp only [Act.put, List.setIfInBounds_toArray, List.set_cons_zero, List.set_cons_succ]
                            rfl
                          refine take_ (i := 16) (N := some 86) (v := ?_) (a' := ?_) #[true, true, true, true, true, true, true, true, true, true, true, true, true, true, true, true, true, true, false, false, false, false, false] rfl rfl (by kernel_rfl) (fun _ _ _ h => h) (Or.inl ⟨by rfl, ?_⟩) hHeld ?_ ?_
                          rotate_left
                          · rintro w' ⟨s0, s1, s2, s3⟩
                            go_simp
                            with_reducible rfl
                          rotate_left
                          · simp only [Act.put, List.setIfInBounds_toArray, List.set_cons_zero, List.set_cons_succ]
                            rfl
                          refine pure_ (i := 18) (N := some 88) (v := ?_) (a' := ?_) #[true, true, true, true, true, true, true, true, true, true, true, true, true, true, true, true, true, true, true, false, false, false, false] rfl rfl (by kernel_rfl) (fun _ _ _ h => h) (Or.inl ⟨by rfl, ?_⟩) ?_ ?_
                          rotate_left
                          · intro w'
                            go_simp
                            with_reducible rfl
                          rotate_left
                          · simp only [Act.put, List.setIfInBounds_toArray, List.set_cons_zero, List.set_cons_succ]
                            rfl
                          refine take_ (i := 19) (N := some 89) (v := ?_) (a' := ?_) #[true, true, true, true, true, true, true, true, true, true, true, true, true, true, true, true, true, true, true, true, false, false, false] rfl rfl (by kernel_rfl) (fun _ _ _ h => h) (Or.inl ⟨by rfl, ?_⟩) hHeld ?_ ?_
                          rotate_left
                          · rintro w' ⟨s0, s1, s2, s3⟩
                            go_simp
                            with_reducible rfl
                          rotate_left
                          · simp only [Act.put, List.setIfInBounds_toArray, List.set_cons_zero, List.set_cons_succ]
                            rfl
                          refine pure_ (i := 20) (N := some 90) (v := ?_) (a' := ?_) #[true, true, true, true, true, true, true, true, true, true, true, true, true, true, true, true, true, true, true, true, true, false, false] rfl rfl (by kernel_rfl) (fun _ _ _ h => h) (Or.inl ⟨by rfl, ?_⟩) ?_ ?_
                          rotate_left
                          · intro w'
                            go_simp
                            with_reducible rfl
                          rotate_left
                          · simp only [Act.put, List.setIfInBounds_toArray, List.set_cons_zero, List.set_cons_succ]
                            rfl
                          refine pure_ (i := 21) (N := some 91) (v := ?_) (a' := ?_) #[true, true, true, true, true, true, true, true, true, true, true, true, true, true, true, true, true, true, true, true, true, true, false] rfl rfl (by kernel_rfl) (fun _ _ _ h => h) (Or.inl ⟨by rfl, ?_⟩) ?_ ?_
                          rotate_left
                          · intro w'
                            go_simp
                            with_reducible rfl
                          rotate_left
                          · simp only [Act.put, List.setIfInBounds_toArray, List.set_cons_zero, List.set_cons_succ]
                            rfl
                          refine last_ (i := 22) (N := none) #[true, true, true, true, true, true, true, true, true, true, true, true, true, true, true, true, true, true, true, true, true, true, true] rfl rfl (by kernel_rfl) (by decide) (fun K hK => ?_)
                          have fz := FZ.out
                          have cb := CI.out
                          refine skip_ (w1 := ?_) (by rfl) rfl ?_ ?_
                          rotate_left
                          · go_simp
                            rfl
                          refine hK.out _ _ ?_
                          clear hK K
                          refine done_ (by kernel_rfl) ?_

                          go_wp2_with fail
                          go_roundw
                          case rel => exact ⟨j + 1, (by first | trivial | go_num), by omega, M6', B6'⟩
                          case measure => simp [intOf]; omega
                      · have dj : decide ((j : Int) < (N : Int)) = false := decide_eq_false (by omega)
                        have MI' := Lib.hid (MJ.out.cong (M' := fun u v => if u < i + 1 then war M0 (k + 1) u v else war M0 k u v) (fun u v _ hv => by
                          show (if u < i + 1 then war M0 (k + 1) u v else war M0 k u v) = if u < i then war M0 (k + 1) u v else if u = i ∧ v < j then war M0 (k + 1) u v else war M0 k u v
                          by_cases e2 : u < i
                          · rw [if_pos (by omega), if_pos e2]
                          · rw [if_neg e2]
                            by_cases e3 : u = i
                            · rw [if_pos (by omega), if_pos ⟨e3, by omega⟩]
                            · rw [if_neg (by omega), if_neg (fun h => e3 h.1)]))
                        clear MJ
                        go_wp2_with fail
                        go_roundw
                        case rel => exact ⟨i + 1, (by first | trivial | go_num), by omega, MI', BJ⟩
                        case measure => simp [intOf]; omega
                · have di : decide ((i : Int) < (N : Int)) = false := decide_eq_false (by omega)
                  have MK' := Lib.hid (MI.out.cong (M' := war M0 (k + 1)) (fun u v hu _ => by
                    show war M0 (k + 1) u v = if u < i then war M0 (k + 1) u v else war M0 k u v
                    rw [if_pos (by omega)]))
                  clear MI
                  go_wp2_with fail
                  go_roundw
                  case rel => exact ⟨k + 1, (by first | trivial | go_num), by omega, MK', BI⟩
                  case measure => simp [intOf]; omega
            · have dk := HI'.out k hkN
              obtain rfl : N = k := by omega
              go_wp2_with fail
              go_ret
              exact ⟨BK.out, _, r, rfl, by rw [← HM0.out]; exact MK.out⟩
#print axioms comes_calls
end Go.Proofs.YtgbeigippahbaaaK
