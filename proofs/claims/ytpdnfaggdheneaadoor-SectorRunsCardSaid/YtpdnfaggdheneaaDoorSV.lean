/- A sector written: the way that writes. (Printed by mkSV.py.) -/
import Derived.Test.YtpdnfaggdheneaaDoorSU
namespace Go.Proofs.YtpdnfaggdheneaaDoorS
open Go.RowKit Go.Proofs Go.Proofs.YtpdnfaggdheneaaDoorW.PrintWords Go.Proofs.YtpdnfaggdheneaaDoorW.PrintLast

theorem built_wr (i : Int) : Tryd.prog.built 62 [(0, .int .i64 i)] = some (wrC (i, sec0)).toArray := by kernel_rfl
theorem build_to {P : Program} {ops : Array Oper} {rest : List Oper} {o : Oper} {a : Act} {w : World} {Q : Exit → Act → World → Prop} (hg : o.guard = none) (t : TypeId) (parts : Array (Nat × Operand)) (ho : o.op = .build t parts)
    (ps : List (Nat × Value)) (hp : (parts.map fun (i, x) => (i, a.eval x)).toList = ps) (X : Array Value) (hb : P.built t ps = some X) (h : wpList P ops Q rest (a.put o.dst (.agg X)) w) : wpList P ops Q (o :: rest) a w :=
  wpList_build hg t parts ho (by rw [hp, hb]; rfl) (by rw [hp, hb]; exact h)
/-- What is behind a Write that wrote. -/
def WriteEnd (w : World) (B D S : Nat) (vw : Value) (sure : List ByteArray) (wait : List Wr) (left : Int) (i : Int) (s : ByteArray) (e : Ending) (w' : World) : Prop :=
  e = .returned .nilIface ∧ ∃ vw', Dk w' B D S vw' sure (wait ++ [(i, full s)]) left false ∧ Keep w w' (fun k => k ≠ D ∧ vw.ownBlock ≠ some k) ∧ (vw'.ownBlock = vw.ownBlock ∨ ∃ b, vw'.ownBlock = some b ∧ w.heap.size ≤ b)
theorem wrs_snoc (l : List Wr) (x : Wr) : wrs (l ++ [x]) = wrs l ++ wrC x := by
  unfold wrs
  rw [List.flatMap_append, List.flatMap_singleton]
  rfl
set_option maxRecDepth 100000 in
set_option maxHeartbeats 4000000 in
theorem write_on {w : World} {B D S : Nat} {vw : Value} {sure : List ByteArray} {wait : List Wr} {left : Int} (i : Int) (s : ByteArray) (h : Dk w B D S vw sure wait left false) (hl0 : -1 ≤ left) (hl1 : left < 9223372036854775808) (hl : left ≠ 0) (h0 : 0 ≤ i) (h1 : i < sure.length) (h2 : s.size ≤ 512) (hn : wait.length ≤ 1000000) :
    Calls Tryd.prog 8 #[.pointer (some ⟨D, 0, none⟩), .int .i64 i, .string s] w (WriteEnd w B D S vw sure wait (stepLeft left false) i s) := by
  have k0 := h.c0
  have k3 := h.c3
  have hh := there_calls i k0
  have t0 : (decide (0 ≤ i) && decide (i < (sure.length : Int))) = true := by
    rw [decide_eq_true h0, decide_eq_true h1]; rfl
  rw [t0] at hh
  have hs : decide ((512 : Int) < (s.size : Int)) = false := decide_eq_false (by omega)
  have st := step_calls h hl0 hl1
  rw [show stepB left false = true by simp [stepB, hl], show stepOff left false = false by simp [stepOff, hl]] at st
  have HH := Lib.hid hh
  have ST := Lib.hid st
  have H2 := Lib.hid h2
  have HN := Lib.hid hn
  have HWS := Lib.hid h.lt.1
  have HBS := Lib.hid (show B ≤ w.heap.size from Nat.le_trans h.bD (Nat.le_of_lt h.lt.1))
  clear hh h t0 h0 h1 h2 st hn
  obtain ⟨Y, hY⟩ : ∃ Y : Array Value, Y = ((Value.int .i64 0) :: List.replicate 512 (Value.int .u8 0)).toArray := ⟨_, rfl⟩
  have hyz := (zero_of_info infoWr).1
  have hys : Y.size = 513 := by rw [hY]; simp
  rw [← hY] at hyz
  have HYS := Lib.hid hys
  have HYZ := Lib.hid hyz
  have hyne : (Y = #[]) = False := by rw [eq_iff_iff, iff_false]; rintro rfl; simp at hys
  have hset : Y.setIfInBounds 0 (.int .i64 i) = (wrC (i, sec0)).toArray := by rw [hY, wrC, secC_zero]; rfl
  have HSET := Lib.hid hset
  clear hY hys hset
  obtain ⟨X, hX⟩ : ∃ X, X = wrC (i, sec0) := ⟨_, rfl⟩
  have hbw : Tryd.prog.built 62 [(0, .int .i64 i)] = some X.toArray := by rw [built_wr i, hX]
  have HBW := Lib.hid hbw
  clear hbw
  have HX := Lib.hid hX
  clear hX
  obtain ⟨X4, hX4⟩ : ∃ X4, X4 = wrC (i, full s) := ⟨_, rfl⟩
  have LX : Hid (X4.length = 513) := Lib.hid (by rw [hX4, wrC_length (full_size H2.out)])
  have OX : Hid (∀ u ∈ X4, u.oneCell' = true) := Lib.hid (fun u hu => by rw [hX4] at hu; have := wrC_one (i, full s); rw [List.all_toArray, List.all_eq_true] at this; exact this u hu)
  have IX : Hid ((Tryd.prog.info? 62).map (·.size) = some X4.length) := Lib.hid (by rw [LX.out]; exact (zero_of_info infoWr).2)
  have ZS : Hid ((Value.agg ((Value.int .i64 0) :: List.replicate 512 (Value.int .u8 0)).toArray).cells.size = 513) := Lib.hid (by simp [Value.cells])
  have HX4 := Lib.hid hX4
  clear hX4
  go_enter Tryd.func8, Tryd.ntmps8
  go_wp2_with (first | (go_at_call 10; refine (off_calls k3).mono ?_; rintro e w' ⟨rfl, rfl⟩) | (go_at_call 21; refine HH.out.mono ?_; rintro e w' ⟨rfl, rfl⟩) | (go_at_call 22; refine ST.out.mono ?_; rintro e w2 ⟨rfl, hd2, hk2⟩; have HD2 := Lib.hid hd2; have HK2 := Lib.hid hk2; clear hd2 hk2) | ((with_reducible refine gate_dst (N := 26) rfl ?_); refine build_to rfl 62 _ rfl [(0, .int .i64 i)] rfl X.toArray HBW.out ?_) | ((with_reducible refine gate_dst (N := 7) rfl ?_); refine box_event ?hg (N := 7) ?hd (cs := Y) (t := 62) ?hr ?_; (case hd => rfl); (case hg => rfl); (case hr => have hyz := HYZ.out; first | (go_simp; done) | (go_simp; rfl)); intro gb7 hg7 w32 hbox7 hb7; have HBX7 := Lib.hid hbox7; have HB7 := Lib.hid hb7; have HG7 := Lib.hid hg7; clear hbox7 hb7 hg7) | ((with_reducible refine gate_store (t := 62) (p := 7) rfl ?_); refine store_whole rfl 62 (.tmp 7) (.tmp 26) rfl gb7 (Y.setIfInBounds 0 (.int .i64 i)) rfl rfl 62 Y HBX7.out (by rw [HSET.out, wr_info (x := (i, sec0)) sec0_size]; simp) (by rw [HYS.out, HSET.out]; simp [wrC_length (x := (i, sec0)) sec0_size]) (by rw [HSET.out]; exact wrC_one (i, sec0)) ?_; intro w33 hw33 hk33; have hcp := Lib.run_copy_row_string (P := Tryd.prog) w33 63 9 3 5 gb7 1 512 512 s _ 62 Tryd.underlying63 (by kernel_rfl) hw33 H2.out (by have := H2.out; simp [HYS.out]; omega); have HW33 := Lib.hid hw33; have HK33 := Lib.hid hk33; clear hw33 hk33))
  clear hcp
  refine code_row (cs' := X4.toArray) HW33.out (congrArg List.toArray ((full_cells s i (by have := congrArg Array.toList HSET.out; rw [Array.toList_setIfInBounds] at this; exact this)).trans HX4.out.symm)) (fun w4 hw4 hk4 => ?_)
  obtain ⟨w5, hw5⟩ : ∃ w5, w5 = w4.drew := ⟨_, rfl⟩
  have KK : Keep w2 w5 (fun k => k ≠ gb7) := by
    rw [hw5]
    exact ((Keep.of_below HB7.out (Nat.le_refl _)).trans HK33.out).trans (hk4.trans (Keep.drew _ _))
  have HG5 := Lib.hid (show w5.heap[gb7]? = some (.cells X4.toArray 62 (0, 0)) by rw [hw5]; exact hw4)
  have HW5 := Lib.hid hw5
  clear hw5 hw4 hk4
  have hgo : ∀ k, vw.ownBlock = some k → k < w2.heap.size := fun k hk => by
    rcases HD2.out.row.2 with ⟨rfl, _⟩ | ⟨g, cap, cur, rfl, _, hh, _⟩
    · cases hk
    · have : g = k := by simpa [Value.ownBlock] using hk
      subst this
      exact (Array.getElem?_eq_some_iff.1 hh).1
  have hd5 := HD2.out.keep (KK.block D HD2.out.lt.1 (by have := HD2.out.lt.1; rw [HG7.out]; omega)) (KK.block S HD2.out.lt.2 (by have := HD2.out.lt.2; rw [HG7.out]; omega)) (fun k hk => KK.block k (hgo k hk) (by have := hgo k hk; rw [HG7.out]; omega))
  have C5 := Lib.hid hd5.c1
  have F5 := Lib.hid (hd5.fr 1)
  have HO5 := Lib.hid hd5.row
  have R5 := Lib.hid (range_heap HG5.out)
  have LD := Lib.hid hd5.lt.1
  have LG := Lib.hid (Array.getElem?_eq_some_iff.1 HG5.out).1
  have HB5 := Lib.hid (show B ≤ w5.heap.size from Nat.le_trans hd5.bD (Nat.le_of_lt hd5.lt.1))
  have HND := Lib.hid hd5.neD
  have HNG := Lib.hid (show vw.ownBlock ≠ some gb7 from fun e => by have := hgo gb7 e; rw [HG7.out] at this; omega)
  have HL := Lib.hid (show (wait.length + 1) * 520 ≤ 140737488355328 by have := HN.out; omega)
  have CA := Lib.hid (show (w5.alloc (.cells X4.toArray 62)).cell? ⟨D, 1, none⟩ = some vw from pw_cell_below (below_alloc (Below.refl _ _) _) C5.out)
  have RA := Lib.hid (show (w5.alloc (.cells X4.toArray 62)).rangeAt gb7 0 X4 from range_heap ((Below.heap_alloc _ _ _ LG.out).trans HG5.out))
  have HD5 := Lib.hid hd5
  have HKK := Lib.hid KK
  have HGO := Lib.hid hgo
  clear hgo hd5 KK
  refine start_ (n := 11) (S := fun w' => w'.cell? ⟨D, 1, none⟩ = some vw ∧ w'.rangeAt gb7 0 X4) (ds := [10]) #[false, false, false, false, false, false, false, false, false, false, false] (by kernel_rfl) rfl rfl ⟨(by rw [← HW5.out]; exact C5.out), (by rw [← HW5.out]; exact R5.out)⟩ (fun hHeld => ?_)
  rw [← HW5.out] at hHeld ⊢
  refine pure_ (i := 0) (N := some 31) (v := ?_) (a' := ?_) #[true, false, false, false, false, false, false, false, false, false, false] rfl rfl (by kernel_rfl) (fun _ _ _ h => h) (Or.inl ⟨by rfl, ?_⟩) ?_ ?_
  rotate_left
  · intro w'
    go_simp
    with_reducible rfl
  rotate_left
  · simp only [Act.put, List.setIfInBounds_toArray, List.set_cons_zero, List.set_cons_succ]
    rfl
  refine pure_ (i := 1) (N := some 32) (v := ?_) (a' := ?_) #[true, true, false, false, false, false, false, false, false, false, false] rfl rfl (by kernel_rfl) (fun _ _ _ h => h) (Or.inl ⟨by rfl, ?_⟩) ?_ ?_
  rotate_left
  · intro w'
    go_simp
    with_reducible rfl
  rotate_left
  · simp only [Act.put, List.setIfInBounds_toArray, List.set_cons_zero, List.set_cons_succ]
    rfl
  refine pure_ (i := 2) (N := some 33) (v := ?_) (a' := ?_) #[true, true, true, false, false, false, false, false, false, false, false] rfl rfl (by kernel_rfl) (fun _ _ _ h => h) (Or.inl ⟨by rfl, ?_⟩) ?_ ?_
  rotate_left
  · intro w'
    go_simp
    with_reducible rfl
  rotate_left
  · simp only [Act.put, List.setIfInBounds_toArray, List.set_cons_zero, List.set_cons_succ]
    rfl
  refine pure_ (i := 3) (N := some 34) (v := ?_) (a' := ?_) #[true, true, true, true, false, false, false, false, false, false, false] rfl rfl (by kernel_rfl) (fun _ _ _ h => h) (Or.inl ⟨by rfl, ?_⟩) ?_ ?_
  rotate_left
  · intro w'
    go_simp
    with_reducible rfl
  rotate_left
  · simp only [Act.put, List.setIfInBounds_toArray, List.set_cons_zero, List.set_cons_succ]
    rfl
  refine take_ (i := 4) (N := some 35) (v := ?_) (a' := ?_) #[true, true, true, true, true, false, false, false, false, false, false] rfl rfl (by kernel_rfl) (fun _ _ _ h => h) (Or.inl ⟨by rfl, ?_⟩) hHeld ?_ ?_
  rotate_left
  · rintro w' ⟨s0, s1⟩
    go_simp
    with_reducible rfl
  rotate_left
  · simp only [Act.put, List.setIfInBounds_toArray, List.set_cons_zero, List.set_cons_succ]
    rfl
  refine take_ (i := 5) (N := some 36) (v := .agg X4.toArray) (a' := ?_) #[true, true, true, true, true, true, false, false, false, false, false] rfl rfl (by kernel_rfl) (fun _ _ _ h => h) (Or.inl ⟨by rfl, ?_⟩) hHeld ?_ ?_
  · rintro w' ⟨s0, s1⟩
    exact exec_load_mid 62 (.tmp 7) (by rfl) gb7 0 (by rfl) X4 _ s1 Tryd.underlying62 rfl IX.out
  rotate_left
  · simp only [Act.put, List.setIfInBounds_toArray, List.set_cons_zero, List.set_cons_succ]
    rfl
  refine one_ (i := 6) (N := some 37) #[true, true, true, true, true, true, true, false, false, false, false] rfl rfl (by kernel_rfl) (by decide) (fun K hK => ?_)
  refine value_ (v := .slice (some ⟨w5.heap.size, 0, none⟩) 1 1) (w1 := w5.alloc (.cells X4.toArray 62)) (by rfl) rfl (exec_bs rfl [(0, .agg X4.toArray)] (by simp only [List.map_toArray, List.map_cons, List.map_nil]; rfl) (slice_wr X4 LX.out w5)) ?_
  refine hK.out _ _ ⟨CA.out, RA.out⟩ (fun hHeld => ?_)
  clear hK K
  refine norm_ (a' := ?_) ?_ ?_
  rotate_left
  · show Act.put _ (some 37) _ = _
    simp only [Act.put, List.setIfInBounds_toArray, List.set_cons_zero, List.set_cons_succ]
    rfl
  refine one_ (i := 7) (N := some 38) #[true, true, true, true, true, true, true, true, false, false, false] rfl rfl (by kernel_rfl) (by decide) (fun K hK => ?_)
  refine step_append_cells (w0 := w5) B (by rfl) (.tmp 35) (.tmp 37) 55 62 _ 513 520 rfl Tryd.underlying55 infoWr3 ZS.out (by omega) (by omega) vw wait.length (wrs wait) X4 rfl rfl LX.out OX.out HO5.out (Below.refl _ _) HB5.out HL.out ?_
  intro v1 w6 hown hbe hg hat
  obtain ⟨g1, c1, rfl, hg1, hg2⟩ := hown.form (by omega)
  have HOWN := Lib.hid hown; have HG := Lib.hid hg; have HAT := Lib.hid hat
  clear hown hbe hg hat hg1 hg2
  have c6 : w6.cell? ⟨D, 1, none⟩ = some vw := (World.cell?_of_block (a := ⟨D, 1, none⟩) (HG.out.block D LD.out (fun e => HND.out e.symm))).trans C5.out
  have f6 : w6.frozen? ⟨D, 1, none⟩ = false := (World.frozen?_of_block (a := ⟨D, 1, none⟩) (HG.out.block D LD.out (fun e => HND.out e.symm))).trans F5.out
  have r6 : w6.rangeAt gb7 0 X4 := range_heap ((HG.out.block gb7 LG.out (fun e => HNG.out e.symm)).trans HG5.out)
  refine hK.out _ _ ⟨c6, r6⟩ (fun hHeld => ?_)
  clear hK K
  refine norm_ (a' := ?_) ?_ ?_
  rotate_left
  · show Act.put _ (some 38) _ = _
    simp only [Act.put, List.setIfInBounds_toArray, List.set_cons_zero, List.set_cons_succ]
    rfl
  refine pure_ (i := 8) (N := some 39) (v := ?_) (a' := ?_) #[true, true, true, true, true, true, true, true, true, false, false] rfl rfl (by kernel_rfl) (fun _ _ _ h => h) (Or.inl ⟨by rfl, ?_⟩) ?_ ?_
  rotate_left
  · intro w'
    go_simp
    with_reducible rfl
  rotate_left
  · simp only [Act.put, List.setIfInBounds_toArray, List.set_cons_zero, List.set_cons_succ]
    rfl
  refine pure_ (i := 9) (N := some 40) (v := ?_) (a' := ?_) #[true, true, true, true, true, true, true, true, true, true, false] rfl rfl (by kernel_rfl) (fun _ _ _ h => h) (Or.inl ⟨by rfl, ?_⟩) ?_ ?_
  rotate_left
  · intro w'
    go_simp
    with_reducible rfl
  rotate_left
  · simp only [Act.put, List.setIfInBounds_toArray, List.set_cons_zero, List.set_cons_succ]
    rfl
  refine last_ (i := 10) (N := none) #[true, true, true, true, true, true, true, true, true, true, true] rfl rfl (by kernel_rfl) (by decide) (fun K hK => ?_)
  refine skip_ (w1 := ?_) (by rfl) rfl ?_ ?_
  rotate_left
  · go_simp
    rfl
  refine hK.out _ _ ?_
  clear hK K
  refine done_ (by kernel_rfl) ?_

  go_wp2
  go_ret
  have ew : wrs (wait ++ [(i, full s)]) = wrs wait ++ X4 := by rw [wrs_snoc, HX4.out]
  have el : (wait ++ [(i, full s)]).length = wait.length + 1 := by simp
  have b6 : ∀ k, k < w5.heap.size → vw.ownBlock ≠ some k → w6.heap[k]? = w5.heap[k]? := fun k hk hn => HG.out.block k hk (fun e => hn e.symm)
  have nn : ∀ k, k < w5.heap.size → vw.ownBlock ≠ some k → (Value.slice (some ⟨g1, 0, none⟩) (wait.length + 1) c1).ownBlock ≠ some k := fun k hk hn e => by
    rcases HAT.out with h | ⟨b, hb, hle⟩
    · exact hn (h.symm.trans e)
    · rw [hb] at e
      injection e with e
      omega
  refine ⟨rfl, .slice (some ⟨g1, 0, none⟩) (wait.length + 1) c1, ?_, ?_, ?_⟩
  · refine setWait ((b6 D LD.out HND.out).trans HD5.out.disk) ((b6 S HD5.out.lt.2 HD5.out.neS).trans HD5.out.secs) HD5.out.len HD5.out.bD HD5.out.bS HD5.out.neDS ?_ (nn D LD.out HND.out) (nn S HD5.out.lt.2 HD5.out.neS) ?_
    · rw [el, ew]
      exact HOWN.out
    · intro x hx
      rcases List.mem_append.1 hx with hx | hx
      · exact HD5.out.wlen x hx
      · rw [List.mem_singleton.1 hx]
        exact full_size H2.out
  · have s2 := HK2.out.size
    have z5 := HKK.out.size
    have k1 : Keep w' w2 (fun k => k < w'.heap.size ∧ k ≠ D ∧ vw.ownBlock ≠ some k) := HK2.out.mono (fun k _ h => h.2.1)
    have k2 : Keep w2 w5 (fun k => k < w'.heap.size ∧ k ≠ D ∧ vw.ownBlock ≠ some k) := HKK.out.mono (fun k _ h => by rw [HG7.out]; omega)
    have k3 : Keep w5 w6 (fun k => k < w'.heap.size ∧ k ≠ D ∧ vw.ownBlock ≠ some k) := (Keep.of_grown HG.out).mono (fun k _ h => h.2.2)
    exact (((k1.trans k2).trans k3).trans (Keep.setCell w6 ⟨D, 1, none⟩ _ (fun h => h.2.1 rfl))).mono (fun k hk h => ⟨hk, h⟩)
  · rcases HAT.out with h | ⟨b, hb, hle⟩
    · exact .inl h
    · exact .inr ⟨b, hb, by have := HK2.out.size; have := HKK.out.size; omega⟩
#print axioms write_on
end Go.Proofs.YtpdnfaggdheneaaDoorS
