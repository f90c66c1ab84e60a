/- The reference's disk (tambourref12): what memory holds of it, what each call does. (Printed by mkSQ.py.) -/
import Derived.Test.YtpdnfaggdheneaaDoorSF
import Derived.Maps.OwnSet
namespace Go.Proofs.YtpdnfaggdheneaaDoorS
open Go.RowKit Go.Maps Go.Proofs Go.Proofs.YtpdnfaggdheneaaDoorW.PrintWords Go.Proofs.YtpdnfaggdheneaaDoorW.PrintLast

/-! ### map[int]string -/
theorem plainElem_str_inv {P : Program} {e : TypeId} (he : P.underlying e = some .string) {v : Value} {z : DataW Unit × List MemPlace} (h : plainElem P e v = some z) : ∃ s, v = .string s ∧ z = (.lit (.string s.data.toList), []) := by
  unfold plainElem at h
  rw [he] at h
  cases v <;> simp at h
  exact ⟨_, rfl, h.2.symm⟩
structure MapS (w : World) (b n : Nat) (G : Int → Option ByteArray) : Prop where
  out : ∃ D : DataW Unit, w.ownsMap Tryd.prog 3 (plainElem Tryd.prog 9) b n D ∧ IsMap D ∧ ∀ k, (Lit.int .i64 k).wf = true → has D (.int .i64 k) = (G k).isSome ∧ D.atKey (.int .i64 k) (.lit (.string [])) = .lit (.string ((G k).getD ByteArray.empty).data.toList)
theorem MapS.made (w : World) : MapS (w.alloc (.map #[] 0)) w.heap.size 0 (fun _ => none) :=
  ⟨⟨.map [], World.ownsMap_made w _ _ _, isMap_empty, fun k _ => ⟨rfl, by simp [DataW.atKey]⟩⟩⟩
theorem MapS.lt {w : World} {b n : Nat} {G : Int → Option ByteArray} (h : MapS w b n G) : b < w.heap.size := by
  obtain ⟨D, h, _⟩ := h.out
  exact h.lt
theorem MapS.heap {w w' : World} {b n : Nat} {G : Int → Option ByteArray} (h : MapS w b n G) (hb : w'.heap[b]? = w.heap[b]?) : MapS w' b n G := by
  obtain ⟨D, ⟨es, cl, h0, hr⟩, h1, h2⟩ := h.out
  exact ⟨⟨D, ⟨es, cl, hb.trans h0, hr⟩, h1, h2⟩⟩
def gput (x : Wr) (G : Int → Option ByteArray) : Int → Option ByteArray := fun i => if i = x.1 then some x.2 else G i
theorem bytes_ext {s t : ByteArray} (h : s.data.toList = t.data.toList) : s = t := by
  cases s
  cases t
  congr 1
  exact Array.ext' h
theorem zeroStr (w : World) : (zeroValue 9).run Tryd.prog w = .ok (.string ⟨#[]⟩) w := by kernel_rfl
theorem MapS.put {w : World} {b n : Nat} {G : Int → Option ByteArray} (h : MapS w b n G) (hn : n < maxLen) (k : Int) (s : ByteArray) (wk : (Lit.int .i64 k).wf = true) (hs : s.size ≤ maxLen) :
    ∃ w', (Instr.mapUpdate 45 (.map (some b)) (.int .i64 k) (.string s)).run Tryd.prog w = .ok () w' ∧ MapS w' b (n + 1) (gput (k, s) G) ∧ w.grownBy w' (some b) := by
  obtain ⟨D, h, h1, h2⟩ := h.out
  obtain ⟨w', hr, ho, hg⟩ := h.update (int_keyed Tryd.underlying3) Tryd.underlying45 hn (keyOf_int_mk Tryd.underlying3 wk) (plainElem_string Tryd.underlying9 hs)
  refine ⟨w', hr, ⟨⟨_, ho, h1.put _ _, fun j wj => ?_⟩⟩, hg⟩
  unfold gput
  by_cases e : j = k
  · subst e
    rw [if_pos rfl]
    have hk := (int_keyed Tryd.underlying3).key (keyOf_int_mk (P := Tryd.prog) Tryd.underlying3 wk)
    exact ⟨has_put_same h1 hk _, atKey_put_same h1 hk _ _⟩
  · rw [if_neg e, has_put_other (by intro hh; injection hh with _ hh; exact e hh), atKey_put_other (by intro hh; injection hh with _ hh; exact e hh)]
    exact h2 j wj
theorem MapS.get {w : World} {b n : Nat} {G : Int → Option ByteArray} (h : MapS w b n G) (k : Int) (wk : (Lit.int .i64 k).wf = true) :
    (Instr.lookup 45 (.map (some b)) (.int .i64 k) true).run Tryd.prog w = .ok (.tuple #[.string ((G k).getD ByteArray.empty), .bool (G k).isSome]) w := by
  obtain ⟨D, h, _, h2⟩ := h.out
  obtain ⟨v, ps, hr, hv⟩ := h.look_ok (int_keyed Tryd.underlying3) Tryd.underlying45 (zeroStr w) (show plainElem Tryd.prog 9 (.string ⟨#[]⟩) = some (.lit (.string []), []) from plainElem_string Tryd.underlying9 (Nat.zero_le _)) (keyOf_int_mk Tryd.underlying3 wk)
  obtain ⟨s, rfl, hs⟩ := plainElem_str_inv Tryd.underlying9 hv
  obtain ⟨h3, h4⟩ := h2 k wk
  rw [h3] at hr
  have h5 := congrArg Prod.fst hs
  simp only at h5
  have h6 := h4.symm.trans h5
  have h7 := Lit.string.inj (DataW.lit.inj h6)
  rw [hr, bytes_ext h7]
theorem exec_mapUpdate {P : Program} {o : Oper} {ρ : Operand → Value} {t : TypeId} {m x v : Operand} {mv xv vv : Value} (ho : o.op = .mapUpdate t m x v) (hm : ρ m = mv) (hx : ρ x = xv) (hv : ρ v = vv) {w w1 : World} (h : (Instr.mapUpdate t mv xv vv).run P w = .ok () w1) : (execOp ρ o).run P w = .ok .skip w1 := by
  subst hm
  subst hx
  subst hv
  unfold execOp
  simp only [ho, Sem.run_bind, h, Result.andThen_ok]
  rfl

/-! ### What memory holds -/
def wr2 (l : List Wr) : List Value := l.flatMap fun x => [.int .i64 x.1, .string x.2]
structure Rk (w : World) (B DR BM : Nat) (vw : Value) (n : Nat) (wait : List Wr) (left : Int) (off : Bool) (G : Int → Option ByteArray) (cnt : Nat) : Prop where
  disk : w.heap[DR]? = some (.cells #[.int .i64 (n : Int), .int .i64 left, .bool off, .map (some BM), vw] 48 (0, 0))
  map : MapS w BM cnt G
  row : w.ownsRow B 70 2 vw wait.length (wr2 wait)
  bD : B ≤ DR
  bM : B ≤ BM
  neDM : DR ≠ BM
  neD : vw.ownBlock ≠ some DR
  neM : vw.ownBlock ≠ some BM
section
variable {w : World} {B DR BM n cnt : Nat} {vw : Value} {wait : List Wr} {left : Int} {off : Bool} {G : Int → Option ByteArray}
theorem Rk.c0 (h : Rk w B DR BM vw n wait left off G cnt) : w.cell? ⟨DR, 0, none⟩ = some (.int .i64 (n : Int)) := (cell_of_row w DR 0 _ _ (0, 0) h.disk).trans rfl
theorem Rk.c1 (h : Rk w B DR BM vw n wait left off G cnt) : w.cell? ⟨DR, 1, none⟩ = some (.int .i64 left) := (cell_of_row w DR 1 _ _ (0, 0) h.disk).trans rfl
theorem Rk.c2 (h : Rk w B DR BM vw n wait left off G cnt) : w.cell? ⟨DR, 2, none⟩ = some (.bool off) := (cell_of_row w DR 2 _ _ (0, 0) h.disk).trans rfl
theorem Rk.c3 (h : Rk w B DR BM vw n wait left off G cnt) : w.cell? ⟨DR, 3, none⟩ = some (.map (some BM)) := (cell_of_row w DR 3 _ _ (0, 0) h.disk).trans rfl
theorem Rk.c4 (h : Rk w B DR BM vw n wait left off G cnt) : w.cell? ⟨DR, 4, none⟩ = some vw := (cell_of_row w DR 4 _ _ (0, 0) h.disk).trans rfl
theorem Rk.fr (h : Rk w B DR BM vw n wait left off G cnt) (j : Nat) : w.frozen? ⟨DR, j, none⟩ = false := by simp [World.frozen?, h.disk]
theorem Rk.ltD (h : Rk w B DR BM vw n wait left off G cnt) : DR < w.heap.size := (Array.getElem?_eq_some_iff.1 h.disk).1
theorem Rk.szB (h : Rk w B DR BM vw n wait left off G cnt) : B ≤ w.heap.size := Nat.le_trans h.bD (Nat.le_of_lt h.ltD)
theorem Rk.own_lt (h : Rk w B DR BM vw n wait left off G cnt) {k : Nat} (hk : vw.ownBlock = some k) : k < w.heap.size := by
  rcases h.row.2 with ⟨rfl, _⟩ | ⟨g, cap, cur, rfl, _, hh, _⟩
  · cases hk
  · have : g = k := by simpa [Value.ownBlock] using hk
    subst this
    exact (Array.getElem?_eq_some_iff.1 hh).1
theorem Rk.keep {w' : World} (h : Rk w B DR BM vw n wait left off G cnt) (hD : w'.heap[DR]? = w.heap[DR]?) (hM : w'.heap[BM]? = w.heap[BM]?) (hv : ∀ k, vw.ownBlock = some k → w'.heap[k]? = w.heap[k]?) : Rk w' B DR BM vw n wait left off G cnt :=
  ⟨hD.trans h.disk, h.map.heap hM, own_keep h.row hv, h.bD, h.bM, h.neDM, h.neD, h.neM⟩
/-- New blocks alone. -/
theorem Rk.keep' {w' : World} {ok : Nat → Prop} (h : Rk w B DR BM vw n wait left off G cnt) (hk : Keep w w' ok) (ho : ∀ k, k < w.heap.size → ok k) : Rk w' B DR BM vw n wait left off G cnt :=
  h.keep (hk.block DR h.ltD (ho _ h.ltD)) (hk.block BM h.map.lt (ho _ h.map.lt)) (fun k hv => hk.block k (h.own_lt hv) (ho _ (h.own_lt hv)))
theorem Rk.set (h : Rk w B DR BM vw n wait left off G cnt) {j : Nat} {u : Value} {left' : Int} {off' : Bool} (hs : (#[.int .i64 (n : Int), .int .i64 left, .bool off, .map (some BM), vw] : Array Value).setIfInBounds j u = #[.int .i64 (n : Int), .int .i64 left', .bool off', .map (some BM), vw]) :
    Rk (w.setCell ⟨DR, j, none⟩ u) B DR BM vw n wait left' off' G cnt :=
  ⟨by rw [heap_set h.disk, hs], h.map.heap (Below.heap_setCell _ _ _ _ h.neDM.symm), own_keep h.row (fun k hk => Below.heap_setCell _ _ _ _ (fun e => h.neD (by rw [hk]; exact congrArg some e))), h.bD, h.bM, h.neDM, h.neD, h.neM⟩
theorem Rk.setWait {v' : Value} {wait' : List Wr} (hd : w.heap[DR]? = some (.cells #[.int .i64 (n : Int), .int .i64 left, .bool off, .map (some BM), vw] 48 (0, 0))) (hm : MapS w BM cnt G) (bD : B ≤ DR) (bM : B ≤ BM) (ne : DR ≠ BM)
    (row : w.ownsRow B 70 2 v' wait'.length (wr2 wait')) (nD : v'.ownBlock ≠ some DR) (nM : v'.ownBlock ≠ some BM) : Rk (w.setCell ⟨DR, 4, none⟩ v') B DR BM v' n wait' left off G cnt :=
  ⟨by rw [heap_set hd]; rfl, hm.heap (Below.heap_setCell _ _ _ _ ne.symm), own_keep row (fun k hk => Below.heap_setCell _ _ _ _ (fun e => nD (by rw [hk]; exact congrArg some e))), bD, bM, ne, nD, nM⟩
end

/-! ### step, Full -/
theorem rstep_calls {w : World} {B DR BM n cnt : Nat} {vw : Value} {wait : List Wr} {left : Int} {G : Int → Option ByteArray} (h : Rk w B DR BM vw n wait left false G cnt) (hl0 : -1 ≤ left) (hl1 : left < 9223372036854775808) :
    Calls Tryd.prog 26 #[.pointer (some ⟨DR, 0, none⟩)] w fun e w' => e = .returned (.bool (stepB left false)) ∧ Rk w' B DR BM vw n wait (stepLeft left false) (stepOff left false) G cnt ∧ Keep w w' (fun k => k ≠ DR) := by
  have h1 := h.c1
  have h2 := h.c2
  have f1 := h.fr 1
  have f2 := h.fr 2
  have H := Lib.hid h
  clear h
  by_cases hz : left = 0
  · subst hz
    go_enter Tryd.func26, Tryd.ntmps26
    go_wp2
    go_ret
    exact ⟨rfl, by simpa [stepLeft, stepOff] using H.out.set (j := 2) (u := .bool true) (left' := 0) (off' := true) rfl, Keep.setCell _ _ _ (fun h => h rfl)⟩
  · by_cases hp : 0 < left
    · have hz' : (left == 0) = false := by simpa using hz
      have hp' : decide (0 < left) = true := decide_eq_true hp
      have hw : IntKind.i64.wrap (left - 1) = left - 1 := IntWalk.i64_in _ (by omega)
      go_enter Tryd.func26, Tryd.ntmps26
      go_wp2
      go_ret
      exact ⟨by simp [stepB, hz], by rw [show stepLeft left false = left - 1 by simp [stepLeft, hp], show stepOff left false = false by simp [stepOff, hz]]; exact H.out.set (j := 1) (u := .int .i64 (left - 1)) (left' := left - 1) (off' := false) rfl, Keep.setCell _ _ _ (fun h => h rfl)⟩
    · have hz' : (left == 0) = false := by simpa using hz
      have hp' : decide (0 < left) = false := decide_eq_false hp
      go_enter Tryd.func26, Tryd.ntmps26
      go_wp2
      go_ret
      exact ⟨by simp [stepB, hz], by rw [show stepLeft left false = left by simp [stepLeft]; omega, show stepOff left false = false by simp [stepOff, hz]]; exact H.out, Keep.refl _ _⟩
theorem infoByte : (Tryd.prog.info? 5).map (fun i => (i.zero, i.size, i.bytes)) = some (some (.int .u8 0), 1, 1) := by kernel_rfl
theorem cells_zero (m : Nat) : madeCells (Value.int .u8 0).cells (m * 1) = Array.replicate m (Value.int .u8 0) := by
  apply Array.ext
  · rw [size_madeCells]; simp
  · intro k hk hk'
    simp [madeCells, Value.cells, Nat.mod_one]
set_option maxRecDepth 100000 in
theorem full_calls (s : ByteArray) (w : World) (hs : s.size ≤ 512) : Calls Tryd.prog 27 #[.string s] w fun e w' => e = .returned (.string (full s)) ∧ Below w.heap.size w w' := by
  obtain ⟨i, hi, hi'⟩ := Option.map_eq_some_iff.1 infoByte
  injection hi' with hz hi'
  injection hi' with hs1 hb
  obtain ⟨m, hm⟩ : ∃ m : Nat, m + s.size = 512 := ⟨512 - s.size, by omega⟩
  have hmk := run_make (P := Tryd.prog) w 63 5 i _ Tryd.underlying63 hi hz .i64 .i64 (m : Int) (m : Int) (by omega) (Int.le_refl _) (by rw [hb]; omega) (by omega)
  rw [hs1, Int.toNat_natCast, cells_zero] at hmk
  have hsub : IntKind.i64.wrap (512 - (s.size : Int)) = (m : Int) := by rw [IntWalk.i64_in _ (by omega)]; omega
  have hconv := run_convert_bytes_back (P := Tryd.prog) (w.alloc (.cells (Array.replicate m (Value.int .u8 0)) 5)) 63 9 5 ⟨w.heap.size, 0, none⟩ m (List.replicate m 0) Tryd.underlying63 Tryd.underlying5 Tryd.underlying9 (fun k hk => by
    have hk' : k < m := by simpa using hk
    rw [Addr.add_mid, cell_of_row _ _ _ _ _ (0, 0) (heap_alloc_last w _), Nat.zero_add]
    simp [hk'])
  rw [show (List.replicate m (0 : UInt8)).length = m by simp] at hconv
  have he : full s = s ++ (⟨(List.replicate m (0 : UInt8)).toArray⟩ : ByteArray) := by
    apply ByteArray.ext
    rw [ByteArray.data_append]
    unfold full
    rw [show 512 - s.size = m by omega]
    simp
  have HE := Lib.hid he
  obtain ⟨z, hzz⟩ : ∃ z, z = (⟨(List.replicate m (0 : UInt8)).toArray⟩ : ByteArray) := ⟨_, rfl⟩
  rw [← hzz] at hconv
  have HZ := Lib.hid hzz
  have hzs : s.size + z.size ≤ 512 := by
    have : z.size = m := by rw [hzz]; show (List.replicate m (0 : UInt8)).toArray.size = m; simp
    omega
  clear he hzz hm
  go_enter Tryd.func27, Tryd.ntmps27
  go_wp2
  go_ret
  refine ⟨by rw [HE.out, HZ.out]; rfl, below_alloc (Below.refl _ _) _⟩

/-! ### Write -/
theorem infoW2 : (Tryd.prog.info? 70).map (fun i => (i.zero, i.size, i.bytes)) = some (some (.agg #[.int .i64 0, .string ⟨#[]⟩]), 2, 24) := by kernel_rfl
set_option maxRecDepth 100000 in
theorem slice_wr2 (i : Int) (s : ByteArray) (W : World) : (Instr.buildSlice 46 1 #[(0, .agg #[.int .i64 i, .string s])]).run Tryd.prog W = .ok (.slice (some ⟨W.heap.size, 0, none⟩) 1 1) (W.alloc (.cells [.int .i64 i, .string s].toArray 70)) := by
  obtain ⟨i0, hi, hz⟩ := Option.map_eq_some_iff.1 infoW2
  injection hz with hz0 hz
  injection hz with hz1 hz2
  refine run_buildSlice W 46 70 1 _ [.int .i64 i, .string s].toArray i0 _ Tryd.underlying46 hi hz0 (by rw [hz1]; omega) (by rw [hz1]; omega) ?_
  rw [hz1]
  exact fill_one 2 _ [.int .i64 i, .string s] (by rw [Array.size_map, Array.size_range]) rfl
theorem wr2_snoc (l : List Wr) (x : Wr) : wr2 (l ++ [x]) = wr2 l ++ [.int .i64 x.1, .string x.2] := by
  unfold wr2
  rw [List.flatMap_append, List.flatMap_singleton]
def RWriteEnd (w : World) (B DR BM : Nat) (vw : Value) (n : Nat) (wait : List Wr) (left : Int) (G : Int → Option ByteArray) (cnt : Nat) (i : Int) (s : ByteArray) (e : Ending) (w' : World) : Prop :=
  e = .returned (.int .i64 0) ∧ ∃ vw', Rk w' B DR BM vw' n (wait ++ [(i, full s)]) left false G cnt ∧ Keep w w' (fun k => k ≠ DR ∧ vw.ownBlock ≠ some k) ∧ (vw'.ownBlock = vw.ownBlock ∨ ∃ b, vw'.ownBlock = some b ∧ w.heap.size ≤ b)
set_option maxRecDepth 100000 in
set_option maxHeartbeats 4000000 in
theorem rwrite_on {w : World} {B DR BM n cnt : Nat} {vw : Value} {wait : List Wr} {left : Int} {G : Int → Option ByteArray} (i : Int) (s : ByteArray) (h : Rk w B DR BM vw n wait left false G cnt) (hl0 : -1 ≤ left) (hl1 : left < 9223372036854775808) (hl : left ≠ 0) (h0 : 0 ≤ i) (h1 : i < n) (h2 : s.size ≤ 512) (hn : wait.length ≤ 1000000) :
    Calls Tryd.prog 17 #[.pointer (some ⟨DR, 0, none⟩), .int .i64 i, .string s] w (RWriteEnd w B DR BM vw n wait (stepLeft left false) G cnt i s) := by
  have k0 := h.c0
  have k2 := h.c2
  have d0 : decide (i < 0) = false := decide_eq_false (by omega)
  have d1 : decide ((n : Int) ≤ i) = false := decide_eq_false (by omega)
  have d2 : decide ((512 : Int) < (s.size : Int)) = false := decide_eq_false (by omega)
  have st := rstep_calls h hl0 hl1
  rw [show stepB left false = true by simp [stepB, hl], show stepOff left false = false by simp [stepOff, hl]] at st
  have ST := Lib.hid st
  have H2 := Lib.hid h2
  have HN := Lib.hid hn
  clear h st h0 h1 h2 hn
  go_enter Tryd.func17, Tryd.ntmps17
  go_wp2_with (go_at_call 26; refine ST.out.mono ?_; rintro e w4 ⟨rfl, hr4, hk4⟩; have HR4 := Lib.hid hr4; have HK4 := Lib.hid hk4; clear hr4 hk4)
  obtain ⟨w5, hw5⟩ : ∃ w5, w5 = w4.drew := ⟨_, rfl⟩
  have HR5 := Lib.hid (show Rk w5 B DR BM vw n wait (stepLeft left false) false G cnt by rw [hw5]; exact HR4.out.keep' (Keep.drew w4 (fun _ => True)) (fun _ _ => trivial))
  have HW5 := Lib.hid hw5
  clear hw5
  refine start_ (n := 14) (S := fun w' => w'.cell? ⟨DR, 4, none⟩ = some vw) (ds := [13]) #[false, false, false, false, false, false, false, false, false, false, false, false, false, false] (by kernel_rfl) rfl rfl ((by rw [← HW5.out]; exact HR5.out.c4)) (fun hHeld => ?_)
  rw [← HW5.out] at hHeld ⊢
  refine pure_ (i := 0) (N := some 32) (v := ?_) (a' := ?_) #[true, false, false, false, false, false, false, false, false, false, false, false, false, false] rfl rfl (by kernel_rfl) (fun _ _ _ h => h) (Or.inl ⟨by rfl, ?_⟩) ?_ ?_
  rotate_left
  · intro w'
    go_simp
    with_reducible rfl
  rotate_left
  · simp only [Act.put, List.setIfInBounds_toArray, List.set_cons_zero, List.set_cons_succ]
    rfl
  refine pure_ (i := 1) (N := some 33) (v := ?_) (a' := ?_) #[true, true, false, false, false, false, false, false, false, false, false, false, false, false] rfl rfl (by kernel_rfl) (fun _ _ _ h => h) (Or.inl ⟨by rfl, ?_⟩) ?_ ?_
  rotate_left
  · intro w'
    go_simp
    with_reducible rfl
  rotate_left
  · simp only [Act.put, List.setIfInBounds_toArray, List.set_cons_zero, List.set_cons_succ]
    rfl
  refine pure_ (i := 2) (N := some 34) (v := ?_) (a' := ?_) #[true, true, true, false, false, false, false, false, false, false, false, false, false, false] rfl rfl (by kernel_rfl) (fun _ _ _ h => h) (Or.inl ⟨by rfl, ?_⟩) ?_ ?_
  rotate_left
  · intro w'
    go_simp
    with_reducible rfl
  rotate_left
  · simp only [Act.put, List.setIfInBounds_toArray, List.set_cons_zero, List.set_cons_succ]
    rfl
  refine pure_ (i := 3) (N := some 35) (v := ?_) (a' := ?_) #[true, true, true, true, false, false, false, false, false, false, false, false, false, false] rfl rfl (by kernel_rfl) (fun _ _ _ h => h) (Or.inl ⟨by rfl, ?_⟩) ?_ ?_
  rotate_left
  · intro w'
    go_simp
    with_reducible rfl
  rotate_left
  · simp only [Act.put, List.setIfInBounds_toArray, List.set_cons_zero, List.set_cons_succ]
    rfl
  refine pure_ (i := 5) (N := some 37) (v := ?_) (a' := ?_) #[true, true, true, true, false, true, false, false, false, false, false, false, false, false] rfl rfl (by kernel_rfl) (fun _ _ _ h => h) (Or.inl ⟨by rfl, ?_⟩) ?_ ?_
  rotate_left
  · intro w'
    go_simp
    with_reducible rfl
  rotate_left
  · simp only [Act.put, List.setIfInBounds_toArray, List.set_cons_zero, List.set_cons_succ]
    rfl
  refine pure_ (i := 6) (N := some 38) (v := ?_) (a' := ?_) #[true, true, true, true, false, true, true, false, false, false, false, false, false, false] rfl rfl (by kernel_rfl) (fun _ _ _ h => h) (Or.inl ⟨by rfl, ?_⟩) ?_ ?_
  rotate_left
  · intro w'
    go_simp
    with_reducible rfl
  rotate_left
  · simp only [Act.put, List.setIfInBounds_toArray, List.set_cons_zero, List.set_cons_succ]
    rfl
  refine take_ (i := 4) (N := some 36) (v := ?_) (a' := ?_) #[true, true, true, true, true, true, true, false, false, false, false, false, false, false] rfl rfl (by kernel_rfl) (fun _ _ _ h => h) (Or.inl ⟨by rfl, ?_⟩) hHeld ?_ ?_
  rotate_left
  · intro w' s0
    go_simp
    with_reducible rfl
  rotate_left
  · simp only [Act.put, List.setIfInBounds_toArray, List.set_cons_zero, List.set_cons_succ]
    rfl
  refine one_ (i := 7) (N := some 39) #[true, true, true, true, true, true, true, true, false, false, false, false, false, false] rfl rfl (by kernel_rfl) (by decide) (fun K hK => ?_)
  refine goes_ Tryd.func27 (by kernel_rfl) rfl #[.string s] (by rfl) rfl rfl (by simp only [List.map_toArray, List.map_cons, List.map_nil]; rfl) ?_
  refine (full_calls s _ H2.out).mono ?_
  rintro e w6 ⟨rfl, hb6⟩
  refine ⟨_, rfl, ?_⟩
  have HB6 := Lib.hid hb6
  have R6 := Lib.hid (HR5.out.keep' (Keep.of_below hb6 (Nat.le_refl _)) (fun _ h => h))
  clear hb6
  refine hK.out _ _ (R6.out.c4) (fun hHeld => ?_)
  clear hK K
  refine norm_ (a' := ?_) ?_ ?_
  rotate_left
  · show Act.put _ (some 39) _ = _
    simp only [Act.put, List.setIfInBounds_toArray, List.set_cons_zero, List.set_cons_succ]
    rfl
  refine pure_ (i := 8) (N := some 40) (v := ?_) (a' := ?_) #[true, true, true, true, true, true, true, true, true, false, false, false, false, false] rfl rfl (by kernel_rfl) (fun _ _ _ h => h) (Or.inl ⟨by rfl, ?_⟩) ?_ ?_
  rotate_left
  · intro w'
    go_simp
    with_reducible rfl
  rotate_left
  · simp only [Act.put, List.setIfInBounds_toArray, List.set_cons_zero, List.set_cons_succ]
    rfl
  refine one_ (i := 9) (N := some 41) #[true, true, true, true, true, true, true, true, true, true, false, false, false, false] rfl rfl (by kernel_rfl) (by decide) (fun K hK => ?_)
  refine value_ (v := .slice (some ⟨w6.heap.size, 0, none⟩) 1 1) (w1 := w6.alloc (.cells [.int .i64 i, .string (full s)].toArray 70)) (by rfl) rfl (exec_bs rfl [(0, .agg #[.int .i64 i, .string (full s)])] (by simp only [List.map_toArray, List.map_cons, List.map_nil]; rfl) (slice_wr2 i (full s) w6)) ?_
  refine hK.out _ _ ((pw_cell_below (below_alloc (Below.refl _ _) _) R6.out.c4)) (fun hHeld => ?_)
  clear hK K
  refine norm_ (a' := ?_) ?_ ?_
  rotate_left
  · show Act.put _ (some 41) _ = _
    simp only [Act.put, List.setIfInBounds_toArray, List.set_cons_zero, List.set_cons_succ]
    rfl
  refine one_ (i := 10) (N := some 42) #[true, true, true, true, true, true, true, true, true, true, true, false, false, false] rfl rfl (by kernel_rfl) (by decide) (fun K hK => ?_)
  refine step_append_cells (w0 := w6) B (by rfl) (.tmp 36) (.tmp 41) 46 70 _ 2 24 rfl Tryd.underlying46 infoW2 rfl (by omega) (by omega) vw wait.length (wr2 wait) [.int .i64 i, .string (full s)] rfl rfl rfl (by simp [Value.oneCell']) R6.out.row (Below.refl _ _) R6.out.szB (by have := HN.out; omega) ?_
  intro v1 w7 hown hbe hg hat
  obtain ⟨g1, c1, rfl, hg1, hg2⟩ := hown.form (by omega)
  have HOWN := Lib.hid hown; have HG := Lib.hid hg; have HAT := Lib.hid hat
  clear hown hbe hg hat hg1 hg2
  have d7 := (HG.out.block DR R6.out.ltD (fun e => R6.out.neD e.symm)).trans R6.out.disk
  have e7 : w7.cell? ⟨DR, 4, none⟩ = some vw := (cell_of_row w7 DR 4 _ _ (0, 0) d7).trans rfl
  have f7 : w7.frozen? ⟨DR, 4, none⟩ = false := by simp [World.frozen?, d7]
  have D7 := Lib.hid d7
  clear d7
  refine hK.out _ _ (e7) (fun hHeld => ?_)
  clear hK K
  refine norm_ (a' := ?_) ?_ ?_
  rotate_left
  · show Act.put _ (some 42) _ = _
    simp only [Act.put, List.setIfInBounds_toArray, List.set_cons_zero, List.set_cons_succ]
    rfl
  refine pure_ (i := 11) (N := some 43) (v := ?_) (a' := ?_) #[true, true, true, true, true, true, true, true, true, true, true, true, false, false] rfl rfl (by kernel_rfl) (fun _ _ _ h => h) (Or.inl ⟨by rfl, ?_⟩) ?_ ?_
  rotate_left
  · intro w'
    go_simp
    with_reducible rfl
  rotate_left
  · simp only [Act.put, List.setIfInBounds_toArray, List.set_cons_zero, List.set_cons_succ]
    rfl
  refine pure_ (i := 12) (N := some 44) (v := ?_) (a' := ?_) #[true, true, true, true, true, true, true, true, true, true, true, true, true, false] rfl rfl (by kernel_rfl) (fun _ _ _ h => h) (Or.inl ⟨by rfl, ?_⟩) ?_ ?_
  rotate_left
  · intro w'
    go_simp
    with_reducible rfl
  rotate_left
  · simp only [Act.put, List.setIfInBounds_toArray, List.set_cons_zero, List.set_cons_succ]
    rfl
  refine last_ (i := 13) (N := none) #[true, true, true, true, true, true, true, true, true, true, true, true, true, true] rfl rfl (by kernel_rfl) (by decide) (fun K hK => ?_)
  refine skip_ (w1 := ?_) (by rfl) rfl ?_ ?_
  rotate_left
  · go_simp
    rfl
  refine hK.out _ _ ?_
  clear hK K
  refine done_ (by kernel_rfl) ?_

  go_wp2
  go_ret
  have ew : wr2 (wait ++ [(i, full s)]) = wr2 wait ++ [.int .i64 i, .string (full s)] := wr2_snoc _ _
  have el : (wait ++ [(i, full s)]).length = wait.length + 1 := by simp
  have nn : ∀ k, k < w6.heap.size → vw.ownBlock ≠ some k → (Value.slice (some ⟨g1, 0, none⟩) (wait.length + 1) c1).ownBlock ≠ some k := fun k hk hn e => by
    rcases HAT.out with h | ⟨b, hb, hle⟩
    · exact hn (h.symm.trans e)
    · rw [hb] at e
      injection e with e
      omega
  have s45 : w4.heap.size ≤ w5.heap.size := by rw [HW5.out]; exact Nat.le_refl _
  have z4 := HK4.out.size
  have z6 := HB6.out.size
  refine ⟨rfl, .slice (some ⟨g1, 0, none⟩) (wait.length + 1) c1, ?_, ?_, ?_⟩
  · refine Rk.setWait D7.out (R6.out.map.heap (HG.out.block BM R6.out.map.lt (fun e => R6.out.neM e.symm))) R6.out.bD R6.out.bM R6.out.neDM ?_ (nn DR R6.out.ltD R6.out.neD) (nn BM R6.out.map.lt R6.out.neM)
    rw [el, ew]
    exact HOWN.out
  · have k1 : Keep w w4 (fun k => k < w.heap.size ∧ k ≠ DR ∧ vw.ownBlock ≠ some k) := HK4.out.mono (fun k _ h => h.2.1)
    have k2 : Keep w4 w5 (fun k => k < w.heap.size ∧ k ≠ DR ∧ vw.ownBlock ≠ some k) := by rw [HW5.out]; exact Keep.drew _ _
    have k3 : Keep w5 w6 (fun k => k < w.heap.size ∧ k ≠ DR ∧ vw.ownBlock ≠ some k) := Keep.of_below HB6.out (Nat.le_refl _)
    have k4 : Keep w6 w7 (fun k => k < w.heap.size ∧ k ≠ DR ∧ vw.ownBlock ≠ some k) := (Keep.of_grown HG.out).mono (fun k _ h => h.2.2)
    exact ((((k1.trans k2).trans k3).trans k4).trans (Keep.setCell w7 ⟨DR, 4, none⟩ _ (fun h => h.2.1 rfl))).mono (fun k hk h => ⟨hk, h⟩)
  · rcases HAT.out with h | ⟨b, hb, hle⟩
    · exact .inl h
    · exact .inr ⟨b, hb, by omega⟩
#print axioms rwrite_on
end Go.Proofs.YtpdnfaggdheneaaDoorS
