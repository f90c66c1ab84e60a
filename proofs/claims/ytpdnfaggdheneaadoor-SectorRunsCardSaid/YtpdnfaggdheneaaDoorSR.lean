/- A sector read. -/
import Derived.Test.YtpdnfaggdheneaaDoorSN
import Derived.Test.YtpdnfaggdheneaaDoorWWords
namespace Go.Proofs.YtpdnfaggdheneaaDoorS
open Go.RowKit Go.Proofs Go.Proofs.YtpdnfaggdheneaaDoorW.PrintWords

/-- What is read at i: the last pending write there, or the sure sector. -/
def readL (wait : List Wr) (i : Int) (s : ByteArray) : ByteArray := wait.foldl (fun s x => if x.1 = i then x.2 else s) s
theorem infoSec2 : (Tryd.prog.info? 60).map (fun i => (i.zero, i.size)) = some (some (.agg (Array.replicate 512 (.int .u8 0))), 512) := by kernel_rfl
theorem secC_length (s : ByteArray) : (secC s).length = s.size := by
  unfold secC
  rw [List.length_map]
  rfl
theorem sec_info {s : ByteArray} (h : s.size = 512) : (Tryd.prog.info? 60).map (·.size) = some (secC s).length := by
  rw [secC_length, h]
  exact (zero_of_info infoSec2).2
theorem secs_get : ∀ (l : List ByteArray) (i j : Nat), (∀ s, s ∈ l → s.size = 512) → i < l.length → j < 512 → (secs l)[i * 512 + j]? = (secC (l.getD i ByteArray.empty))[j]?
  | [], _, _, _, h, _ => by cases h
  | s :: l, 0, j, hs, _, hj => by
    have : (secC s).length = 512 := by rw [secC_length]; exact hs s List.mem_cons_self
    rw [show secs (s :: l) = secC s ++ secs l from rfl, List.getElem?_append_left (by omega), Nat.zero_mul, Nat.zero_add]
    rfl
  | s :: l, i + 1, j, hs, hi, hj => by
    have : (secC s).length = 512 := by rw [secC_length]; exact hs s List.mem_cons_self
    rw [show secs (s :: l) = secC s ++ secs l from rfl, List.getElem?_append_right (by omega), this, show (i + 1) * 512 + j - 512 = i * 512 + j by omega]
    exact secs_get l i j (fun t ht => hs t (List.mem_cons_of_mem _ ht)) (by simpa using hi) hj
section
variable {w : World} {B D S : Nat} {vw : Value} {sure : List ByteArray} {wait : List Wr} {left : Int} {off : Bool}
theorem Dk.sec_size (h : Dk w B D S vw sure wait left off) {i : Int} (h0 : 0 ≤ i) (h1 : i < sure.length) : (sure.getD i.toNat ByteArray.empty).size = 512 := by
  refine h.len _ ?_
  rw [List.getD_eq_getElem?_getD, List.getElem?_eq_getElem (by omega)]
  exact List.getElem_mem _
theorem Dk.range (h : Dk w B D S vw sure wait left off) {i : Int} (h0 : 0 ≤ i) (h1 : i < sure.length) : w.rangeAt S (i.toNat * 512) (secC (sure.getD i.toNat ByteArray.empty)) := by
  intro j v hv
  have hj : j < 512 := by
    have := (List.getElem?_eq_some_iff.1 hv).1
    rw [secC_length, h.sec_size h0 h1] at this
    exact this
  rw [cell_of_row w S _ _ _ (0, 0) h.secs, List.getElem?_toArray, secs_get sure i.toNat j h.len (by omega) hj]
  exact hv
end
/-- A pending write's cells. -/
def wrC (x : Wr) : List Value := .int .i64 x.1 :: secC x.2
theorem infoWr : (Tryd.prog.info? 62).map (fun i => (i.zero, i.size)) = some (some (.agg ((Value.int .i64 0) :: List.replicate 512 (Value.int .u8 0)).toArray), 513) := by kernel_rfl
theorem wrC_length {x : Wr} (h : x.2.size = 512) : (wrC x).length = 513 := by
  unfold wrC
  rw [List.length_cons, secC_length, h]
theorem wr_info {x : Wr} (h : x.2.size = 512) : (Tryd.prog.info? 62).map (·.size) = some (wrC x).length := by
  rw [wrC_length h]
  exact (zero_of_info infoWr).2
theorem wrs_get : ∀ (l : List Wr) (i j : Nat), (∀ x, x ∈ l → x.2.size = 512) → i < l.length → j < 513 → (wrs l)[i * 513 + j]? = (wrC (l.getD i (0, ByteArray.empty)))[j]?
  | [], _, _, _, h, _ => by cases h
  | s :: l, 0, j, hs, _, hj => by
    have := wrC_length (hs s List.mem_cons_self)
    rw [show wrs (s :: l) = wrC s ++ wrs l from rfl, List.getElem?_append_left (by omega), Nat.zero_mul, Nat.zero_add]
    rfl
  | s :: l, i + 1, j, hs, hi, hj => by
    have := wrC_length (hs s List.mem_cons_self)
    rw [show wrs (s :: l) = wrC s ++ wrs l from rfl, List.getElem?_append_right (by omega), this, show (i + 1) * 513 + j - 513 = i * 513 + j by omega]
    exact wrs_get l i j (fun t ht => hs t (List.mem_cons_of_mem _ ht)) (by simpa using hi) hj
theorem Dk.wsize {w : World} {B D S : Nat} {vw : Value} {sure : List ByteArray} {wait : List Wr} {left : Int} {off : Bool} (h : Dk w B D S vw sure wait left off) {j : Nat} (hj : j < wait.length) : (wait.getD j (0, ByteArray.empty)).2.size = 512 := by
  refine h.wlen _ ?_
  rw [List.getD_eq_getElem?_getD, List.getElem?_eq_getElem hj]
  exact List.getElem_mem _
theorem Dk.wrange {w : World} {B D S g cap : Nat} {sure : List ByteArray} {wait : List Wr} {left : Int} {off : Bool} (h : Dk w B D S (.slice (some ⟨g, 0, none⟩) wait.length cap) sure wait left off) {j : Nat} (hj : j < wait.length) : w.rangeAt g (j * 513) (wrC (wait.getD j (0, ByteArray.empty))) := by
  intro q v hv
  have hq : q < 513 := by
    have := (List.getElem?_eq_some_iff.1 hv).1
    rw [wrC_length (h.wsize hj)] at this
    exact this
  rw [h.row.cellAt _ (by have : (j + 1) * 513 ≤ wait.length * 513 := Nat.mul_le_mul_right _ hj; omega), wrs_get wait j q h.wlen hj hq]
  exact hv
theorem wrC_one (x : Wr) : (wrC x).toArray.all (·.oneCell') = true := by
  rw [List.all_toArray, List.all_eq_true]
  intro v hv
  rcases List.mem_cons.1 hv with rfl | hv
  · rfl
  · obtain ⟨b, _, rfl⟩ := List.mem_map.1 hv
    rfl
theorem readL_snoc (l : List Wr) (x : Wr) (i : Int) (s : ByteArray) : readL (l ++ [x]) i s = if x.1 = i then x.2 else readL l i s := by simp [readL]
theorem readL_step {l : List Wr} {j : Nat} (hj : j < l.length) (i : Int) (s : ByteArray) : readL (l.take (j + 1)) i s = if (l.getD j (0, ByteArray.empty)).1 = i then (l.getD j (0, ByteArray.empty)).2 else readL (l.take j) i s := by
  rw [List.take_succ_eq_append_getElem hj, readL_snoc, List.getD_eq_getElem?_getD, List.getElem?_eq_getElem hj]
  rfl
theorem own_len {w : World} {B : Nat} {e : TypeId} {size n : Nat} {v : Value} {xs : List Value} (h : w.ownsRow B e size v n xs) : n ≤ 9223372036854775807 := by
  rcases h.2 with ⟨_, hn⟩ | ⟨g, cap, cur, _, _, _, h1, h2, _⟩
  · omega
  · have : cap ≤ 9223372036854775807 := Nat.le_trans h2 (by unfold maxLen; decide)
    omega
/-- A whole value into a block of its own: what the world is then. -/
theorem store_whole {P : Program} {ops : Array Oper} {rest : List Oper} {o : Oper} {a : Act} {W : World} {Q : Exit → Act → World → Prop} (hgd : o.guard = none) (ty : TypeId) (x y : Operand) (ho : o.op = .store ty x y)
    (g : Nat) (cells : Array Value) (hx : a.eval x = .pointer (some ⟨g, 0, none⟩)) (hy : a.eval y = .agg cells)
    (t : TypeId) (old : Array Value) (hg : W.heap[g]? = some (.cells old t (0, 0))) (hi : (P.info? ty).map (·.size) = some cells.size) (hold : old.size = cells.size) (h1 : cells.all (·.oneCell') = true)
    (h : ∀ w2, w2.heap[g]? = some (.cells cells t (0, 0)) → Keep W w2 (fun k => k ≠ g) → wpList P ops Q rest (a.put o.dst undef) w2) : wpList P ops Q (o :: rest) a W := by
  refine wpList_store_row hgd ty x y ho g cells hx hy t old hg hi hold h1 (h _ ?_ ⟨rfl, rfl, rfl, by simp [World.setRow], fun k _ hk => ?_⟩)
  · simp only [World.setRow, Array.getElem?_modify]
    rw [if_pos trivial, hg]
    rfl
  · simp only [World.setRow, Array.getElem?_modify]
    rw [if_neg (fun e => hk e.symm)]
theorem secC_one (s : ByteArray) : (secC s).toArray.all (·.oneCell') = true := by
  rw [List.all_toArray, List.all_eq_true]
  intro v hv
  obtain ⟨b, _, rfl⟩ := List.mem_map.1 hv
  rfl
set_option maxRecDepth 100000 in
set_option maxHeartbeats 1000000 in
theorem read_on {w : World} {B D S : Nat} {vw : Value} {sure : List ByteArray} {wait : List Wr} {left : Int} (i : Int) (h : Dk w B D S vw sure wait left false) (h0 : 0 ≤ i) (h1 : i < sure.length) :
    Calls Tryd.prog 14 #[.pointer (some ⟨D, 0, none⟩), .int .i64 i] w fun e w' => e = .returned (.tuple #[.string (readL wait i (sure.getD i.toNat ByteArray.empty)), .nilIface]) ∧ Below w.heap.size w w' := by
  obtain ⟨AV, cv, rfl, hcv⟩ : ∃ AV cv, vw = .slice AV wait.length cv ∧ wait.length ≤ cv := by
    rcases h.row.2 with ⟨rfl, hn⟩ | ⟨g, cap, cur, rfl, _, _, hr⟩
    · have hw0 : wait.length = 0 := by omega
      exact ⟨none, 0, by rw [hw0], by omega⟩
    · exact ⟨_, _, rfl, by omega⟩
  have k0 := h.c0
  have k1 := h.c1
  have k3 := h.c3
  have H := Lib.hid h
  clear h
  have d0 : decide (0 ≤ i) = true := decide_eq_true h0
  have d1 : decide (i < (sure.length : Int)) = true := decide_eq_true h1
  have t0 : (decide (0 ≤ i) && decide (i < (sure.length : Int))) = true := by rw [d0, d1]; rfl
  have hrg := H.out.range h0 h1
  have hsz := sec_info (H.out.sec_size h0 h1)
  go_enter Tryd.func14, Tryd.ntmps14
  obtain ⟨Z, hZ⟩ : ∃ Z : Array Value, Z = Array.replicate 512 (.int .u8 0) := ⟨_, rfl⟩
  have hz := (zero_of_info infoSec2).1
  have hzs : Z.size = 512 := by rw [hZ]; simp
  rw [← hZ] at hz
  clear hZ
  obtain ⟨s0, hs0⟩ : ∃ s0, s0 = sure.getD i.toNat ByteArray.empty := ⟨_, rfl⟩
  have s0s : s0.size = 512 := by rw [hs0]; exact H.out.sec_size h0 h1
  rw [← hs0] at hrg hsz
  have HR := Lib.hid hrg
  have HZ := Lib.hid hsz
  have HS := Lib.hid s0s
  have HZS := Lib.hid hzs
  clear hrg hsz s0s hzs
  go_wp2_with (first | (go_at_call 10; refine (off_calls k3).mono ?_; rintro e w' ⟨rfl, rfl⟩) | (go_at_call 21; refine (there_calls i k0).mono ?_; rintro e w' ⟨rfl, rfl⟩) | ((with_reducible refine gate_dst (N := 25) rfl ?_); refine wpList_load_mid rfl 60 (.tmp 24) rfl S (i.toNat * 512) rfl (secC s0) _ HR.out Tryd.underlying60 rfl HZ.out ?_) | ((with_reducible refine gate_dst (N := 6) rfl ?_); refine box_event ?hg (N := 6) ?hd (cs := Z) (t := 60) ?hr ?_; (case hd => rfl); (case hg => rfl); (case hr => first | (go_simp; done) | (go_simp; rfl)); intro gb hg w22 hbox hb; have HBX := Lib.hid hbox; have HB := Lib.hid hb; have HG := Lib.hid hg; clear hbox hb hg) | ((with_reducible refine gate_store (t := 60) (p := 6) rfl ?_); refine store_whole rfl 60 (.tmp 6) (.tmp 25) rfl gb (secC s0).toArray rfl rfl 60 Z HBX.out (by rw [HZ.out]; simp) (by rw [HZS.out]; simp [secC_length, HS.out]) (secC_one s0) ?_; intro w23 hw23 hk23; have HW := Lib.hid hw23; have hbl := HB.out; have BL := Lib.hid (show Below w'.heap.size w' w23 from hbl.trans (hk23.below hbl.size (fun k hk => by rw [HG.out]; omega))); have k1' : w23.cell? ⟨D, 1, none⟩ = some (.slice AV wait.length cv) := (BL.out.cell H.out.lt.1).trans k1; clear hw23 hk23 hbl))
  obtain rfl := HG.out
  go_loopw [31] (fun v wr => ∃ (j : Nat) (sj : ByteArray), v = .int .i64 j ∧ j ≤ wait.length ∧ Hid (sj = readL (wait.take j) i s0) ∧ Hid (sj.size = 512) ∧ Hid (wr.heap[w'.heap.size]? = some (.cells (secC sj).toArray 60 (0, 0))) ∧ Hid (Below w'.heap.size w' wr))
    (fun v _ => wait.length - (intOf v).toNat)
  case atStart => exact ⟨0, s0, rfl, by omega, Lib.hid (by simp [readL]), HS, HW, BL⟩
  case round =>
    obtain ⟨j, sj, rfl, hj, J1, J2, J3, J4⟩ := hrel
    by_cases hjl : j < wait.length
    · have dj : decide ((j : Int) < (wait.length : Int)) = true := decide_eq_true (by omega)
      obtain ⟨g, cap, hAV, hgB, hgl⟩ := H.out.row.form (by omega)
      injection hAV with hA hcv2 hcv3
      subst hA
      subst hcv3
      have xw := H.out.wsize hjl
      have hrw : wr.rangeAt g (j * 513) (wrC (wait.getD j (0, ByteArray.empty))) := fun q v hv => (J4.out.cell (by exact hgl)).trans (H.out.wrange hjl q v hv)
      obtain ⟨x, hx⟩ : ∃ x, x = wait.getD j (0, ByteArray.empty) := ⟨_, rfl⟩
      rw [← hx] at xw hrw
      have HX := Lib.hid hx
      have XW := Lib.hid xw
      have HRW := Lib.hid hrw
      clear hx xw hrw
      obtain ⟨Y, hY⟩ : ∃ Y : Array Value, Y = ((Value.int .i64 0) :: List.replicate 512 (Value.int .u8 0)).toArray := ⟨_, rfl⟩
      have hyz := (zero_of_info infoWr).1
      have hys : Y.size = 513 := by rw [hY]; simp
      rw [← hY] at hyz
      have HYS := Lib.hid hys
      clear hY hys
      have hwj : IntKind.i64.wrap ((j : Int) + 1) = ((j + 1 : Nat) : Int) := by rw [IntWalk.i64_in _ (by have := own_len H.out.row; omega)]; rfl
      by_cases e : x.1 = i
      · have e' : (x.1 == i) = true := by simpa using e
        have EE := Lib.hid e
        clear e
        go_wp2_with (first | ((with_reducible refine gate_dst (N := 34) rfl ?_); refine wpList_load_mid rfl 62 (.tmp 33) rfl g (j * 513) rfl (wrC x) _ HRW.out Tryd.underlying62 rfl (wr_info XW.out) ?_) | ((with_reducible refine gate_dst (N := 8) rfl ?_); refine box_event ?hg (N := 8) ?hd (cs := Y) (t := 62) ?hr ?_; (case hd => rfl); (case hg => rfl); (case hr => first | (go_simp; done) | (go_simp; rfl)); intro gb8 hg8 w32 hbox8 hb8; have HBX8 := Lib.hid hbox8; have HB8 := Lib.hid hb8; have HG8 := Lib.hid hg8; clear hbox8 hb8 hg8) | ((with_reducible refine gate_store (t := 62) (p := 8) rfl ?_); refine store_whole rfl 62 (.tmp 8) (.tmp 34) rfl gb8 (wrC x).toArray rfl rfl 62 Y HBX8.out (by rw [wr_info XW.out]; simp) (by rw [HYS.out]; simp [wrC_length XW.out]) (wrC_one x) ?_; intro w33 hw33 hk33; have HW33 := Lib.hid hw33; have hc0 : w33.cell? ⟨gb8, 0, none⟩ = some (.int .i64 x.1) := (cell_of_row w33 gb8 0 _ _ (0, 0) hw33).trans rfl; have hlt6 := (Array.getElem?_eq_some_iff.1 J3.out).1; have J3' := Lib.hid ((hk33.block _ (Nat.lt_of_lt_of_le hlt6 HB8.out.size) (by rw [HG8.out]; omega)).trans ((HB8.out.block _ hlt6).trans J3.out)); have J4' := Lib.hid (show Below w'.heap.size w' w33 from (J4.out.trans (HB8.out.mono J4.out.size)).trans (hk33.below (Nat.le_trans J4.out.size HB8.out.size) (fun k hk => by rw [HG8.out]; have := J4.out.size; omega))); have HLT := Lib.hid (show w'.heap.size ≠ gb8 by rw [HG8.out]; omega); clear hw33 hk33 hlt6) | ((with_reducible refine gate_dst (N := 40) rfl ?_); refine wpList_load_mid rfl 60 (.tmp 39) rfl gb8 1 rfl (secC x.2) _ (fun q v hv => by rw [cell_of_row _ gb8 _ _ _ (0, 0) HW33.out, List.getElem?_toArray, Nat.add_comm 1 q]; exact hv) Tryd.underlying60 rfl (sec_info XW.out) ?_) | ((with_reducible refine gate_store (t := 60) (p := 6) rfl ?_); refine store_whole rfl 60 (.tmp 6) (.tmp 40) rfl w'.heap.size (secC x.2).toArray rfl rfl 60 (secC sj).toArray J3'.out (by rw [sec_info XW.out]; simp) (by simp [secC_length, XW.out, J2.out]) (secC_one x.2) ?_; intro w34 hw34 hk34; have HW34 := Lib.hid hw34; have J4'' := Lib.hid (show Below w'.heap.size w' w34 from J4'.out.trans (hk34.below J4'.out.size (fun k hk => by omega))); clear hw34 hk34))
        exact ⟨⟨j + 1, x.2, by simp, by omega, Lib.hid (by rw [readL_step hjl, ← HX.out, if_pos EE.out]), XW, HW34, J4''⟩, by simp [intOf]; omega⟩
      · have e' : (x.1 == i) = false := by simpa using e
        have EE := Lib.hid e
        clear e
        go_wp2_with (first | ((with_reducible refine gate_dst (N := 34) rfl ?_); refine wpList_load_mid rfl 62 (.tmp 33) rfl g (j * 513) rfl (wrC x) _ HRW.out Tryd.underlying62 rfl (wr_info XW.out) ?_) | ((with_reducible refine gate_dst (N := 8) rfl ?_); refine box_event ?hg (N := 8) ?hd (cs := Y) (t := 62) ?hr ?_; (case hd => rfl); (case hg => rfl); (case hr => first | (go_simp; done) | (go_simp; rfl)); intro gb8 hg8 w32 hbox8 hb8; have HBX8 := Lib.hid hbox8; have HB8 := Lib.hid hb8; have HG8 := Lib.hid hg8; clear hbox8 hb8 hg8) | ((with_reducible refine gate_store (t := 62) (p := 8) rfl ?_); refine store_whole rfl 62 (.tmp 8) (.tmp 34) rfl gb8 (wrC x).toArray rfl rfl 62 Y HBX8.out (by rw [wr_info XW.out]; simp) (by rw [HYS.out]; simp [wrC_length XW.out]) (wrC_one x) ?_; intro w33 hw33 hk33; have HW33 := Lib.hid hw33; have hc0 : w33.cell? ⟨gb8, 0, none⟩ = some (.int .i64 x.1) := (cell_of_row w33 gb8 0 _ _ (0, 0) hw33).trans rfl; have hlt6 := (Array.getElem?_eq_some_iff.1 J3.out).1; have J3' := Lib.hid ((hk33.block _ (Nat.lt_of_lt_of_le hlt6 HB8.out.size) (by rw [HG8.out]; omega)).trans ((HB8.out.block _ hlt6).trans J3.out)); have J4' := Lib.hid (show Below w'.heap.size w' w33 from (J4.out.trans (HB8.out.mono J4.out.size)).trans (hk33.below (Nat.le_trans J4.out.size HB8.out.size) (fun k hk => by rw [HG8.out]; have := J4.out.size; omega))); have HLT := Lib.hid (show w'.heap.size ≠ gb8 by rw [HG8.out]; omega); clear hw33 hk33 hlt6) | ((with_reducible refine gate_dst (N := 40) rfl ?_); refine wpList_load_mid rfl 60 (.tmp 39) rfl gb8 1 rfl (secC x.2) _ (fun q v hv => by rw [cell_of_row _ gb8 _ _ _ (0, 0) HW33.out, List.getElem?_toArray, Nat.add_comm 1 q]; exact hv) Tryd.underlying60 rfl (sec_info XW.out) ?_) | ((with_reducible refine gate_store (t := 60) (p := 6) rfl ?_); refine store_whole rfl 60 (.tmp 6) (.tmp 40) rfl w'.heap.size (secC x.2).toArray rfl rfl 60 (secC sj).toArray J3'.out (by rw [sec_info XW.out]; simp) (by simp [secC_length, XW.out, J2.out]) (secC_one x.2) ?_; intro w34 hw34 hk34; have HW34 := Lib.hid hw34; have J4'' := Lib.hid (show Below w'.heap.size w' w34 from J4'.out.trans (hk34.below J4'.out.size (fun k hk => by omega))); clear hw34 hk34))
        exact ⟨⟨j + 1, sj, by simp, by omega, Lib.hid (by rw [readL_step hjl, ← HX.out, if_neg EE.out]; exact J1.out), J2, J3', J4'⟩, by simp [intOf]; omega⟩
    · have dj : decide ((j : Int) < (wait.length : Int)) = false := decide_eq_false (by omega)
      obtain rfl : j = wait.length := by omega
      have hlen : sj.data.toList.length = 512 := J2.out
      have hconv := run_convert_bytes_back (P := Tryd.prog) wr 63 9 5 ⟨w'.heap.size, 0, none⟩ 512 sj.data.toList Tryd.underlying63 Tryd.underlying5 Tryd.underlying9 (fun k hk => by
        rw [Addr.add_mid, cell_of_row wr _ _ _ _ (0, 0) J3.out, List.getElem?_toArray, Nat.zero_add]
        unfold secC
        rw [List.getElem?_map, List.getElem?_eq_getElem hk]
        rfl)
      rw [hlen] at hconv
      have hsj : (⟨sj.data.toList.toArray⟩ : ByteArray) = readL wait i s0 := by
        have := J1.out
        rw [List.take_length] at this
        rw [← this]
      rw [hsj] at hconv
      go_wp2
      go_ret2
      exact ⟨rfl, J4.out⟩
theorem read_off {w : World} {D : Nat} (i : Int) (k3 : w.cell? ⟨D, 3, none⟩ = some (.bool true)) :
    Calls Tryd.prog 14 #[.pointer (some ⟨D, 0, none⟩), .int .i64 i] w fun e w' => e = .returned (.tuple #[.string ByteArray.empty, .iface 53 (.int .i64 20)]) ∧ w' = w := by
  go_enter Tryd.func14, Tryd.ntmps14
  go_wp2_with (first | (go_at_call 10; refine (off_calls k3).mono ?_; rintro e w' ⟨rfl, rfl⟩))
  go_ret2
  exact ⟨rfl, rfl⟩
theorem read_out {w : World} {D S n : Nat} (i : Int) (k0 : w.cell? ⟨D, 0, none⟩ = some (.slice (some ⟨S, 0, none⟩) n n)) (k3 : w.cell? ⟨D, 3, none⟩ = some (.bool false)) (h : ¬ (0 ≤ i ∧ i < n)) :
    Calls Tryd.prog 14 #[.pointer (some ⟨D, 0, none⟩), .int .i64 i] w fun e w' => e = .returned (.tuple #[.string ByteArray.empty, .iface 53 (.int .i64 1)]) ∧ w' = w := by
  have t0 : (decide (0 ≤ i) && decide (i < (n : Int))) = false := by
    rw [Bool.and_eq_false_iff, decide_eq_false_iff_not, decide_eq_false_iff_not]
    omega
  have hh := there_calls i k0
  rw [t0] at hh
  have HH := Lib.hid hh
  clear hh h t0
  go_enter Tryd.func14, Tryd.ntmps14
  go_wp2_with (first | (go_at_call 10; refine (off_calls k3).mono ?_; rintro e w' ⟨rfl, rfl⟩) | (go_at_call 21; refine HH.out.mono ?_; rintro e w' ⟨rfl, rfl⟩))
  go_ret2
  exact ⟨rfl, rfl⟩
#print axioms read_on
end Go.Proofs.YtpdnfaggdheneaaDoorS
