/- What a wide value does in a drawn region: a load, a slice literal of one; a whole sector made of a text. -/
import Derived.Test.YtpdnfaggdheneaaDoorSW
import Derived.Test.YtpdnfaggdheneaaDoorWLast
import Derived.Lib.BufferWrite
import Derived.Great.BuildSlice
import Derived.Deep.AppendLies
namespace Go.Proofs.YtpdnfaggdheneaaDoorS
open Go.RowKit Go.Proofs Go.Proofs.YtpdnfaggdheneaaDoorW.PrintWords

/-! ### Operations run -/
theorem exec_bs {P : Program} {o : Oper} {ρ : Operand → Value} {t : TypeId} {len : Nat} {parts : Array (Nat × Operand)} (ho : o.op = .buildSlice t len parts) (ps : List (Nat × Value)) (hp : (parts.map fun (i, x) => (i, ρ x)).toList = ps) {v : Value} {w w1 : World}
    (h : (Instr.buildSlice t len ps.toArray).run P w = .ok v w1) : (execOp ρ o).run P w = .ok (.value v) w1 := by
  subst hp
  rw [Array.toArray_toList] at h
  unfold execOp
  simp only [ho, Sem.run_bind, h, Result.andThen_ok]
  rfl
theorem exec_load_mid {P : Program} {o : Oper} {ρ : Operand → Value} {w : World} (ty : TypeId) (x : Operand) (ho : o.op = .load ty x) (b q : Nat) (hx : ρ x = .pointer (some ⟨b, q, none⟩)) (cs : List Value) (d : TypeDesc) (hc : w.rangeAt b q cs)
    (hu : P.underlying ty = some d) (hd : d.isRow = true) (hi : (P.info? ty).map (·.size) = some cs.length) : (execOp ρ o).run P w = .ok (.value (.agg cs.toArray)) w := by
  unfold execOp
  simp only [ho, hx, Instr.loadAt, Instr.sureAddr, Sem.run_bind, Sem.run_pure, Result.andThen_ok, run_loadVar_mid w b q ty cs d hc hu hd hi]
theorem exec_store_mid {P : Program} {o : Oper} {ρ : Operand → Value} {w : World} (ty : TypeId) (x y : Operand) (ho : o.op = .store ty x y) (b q : Nat) (cs : List Value) (hx : ρ x = .pointer (some ⟨b, q, none⟩)) (hy : ρ y = .agg cs.toArray)
    (ht : w.there b q cs.length) (hi : (P.info? ty).map (·.size) = some cs.length) (h1 : cs.toArray.all (·.oneCell') = true) : (execOp ρ o).run P w = .ok .skip (w.setCells b q cs) := by
  unfold execOp
  simp only [ho, hx, hy, Instr.storeAt, Instr.sureAddr, Sem.run_bind, Sem.run_pure, Result.andThen_ok, run_storeVar_mid w b q ty cs.toArray (by simpa using ht) (by simpa using hi) h1]
/-- One part alone that fills the whole. -/
theorem foldl_zip : ∀ (l : List Value) (k : Nat) (cs : Array Value), (∀ j, j < l.length → k + j < cs.size) → ((l.zipIdx k).foldl (fun cs x => cs.setIfInBounds x.2 x.1) cs).toList = cs.toList.take k ++ l ++ cs.toList.drop (k + l.length)
  | [], k, cs, _ => by simp
  | v :: l, k, cs, h => by
    have h0 : k < cs.size := h 0 (by simp)
    rw [List.zipIdx_cons, List.foldl_cons, foldl_zip l (k + 1) _ (fun j hj => by have := h (j + 1) (by simp; omega); simp; omega)]
    apply List.ext_getElem
    · simp; omega
    · intro j h1 h2
      simp only [Array.toList_setIfInBounds, List.length_cons]
      by_cases a : j < k
      · rw [List.getElem_append_left (by simp; omega), List.getElem_append_left (by simp; omega), List.getElem_append_left (by simp; omega), List.getElem_append_left (by simp; omega)]
        simp [List.getElem_take, List.getElem_set]
        omega
      · by_cases b : j = k
        · subst b
          rw [List.getElem_append_left (by simp; omega), List.getElem_append_left (by simp; omega), List.getElem_append_left (by simp; omega), List.getElem_append_right (by simp; omega)]
          have e0 : j - min j cs.size = 0 := by omega
          simp [List.getElem_take, e0]
        · by_cases c : j < k + 1 + l.length
          · rw [List.getElem_append_left (by simp; omega), List.getElem_append_right (by simp; omega), List.getElem_append_left (by simp; omega), List.getElem_append_right (by simp; omega)]
            simp only [List.length_take, List.length_set, Array.length_toList]
            rw [List.getElem_cons]
            rw [dif_neg (by omega)]
            congr 1
            omega
          · rw [List.getElem_append_right (by simp; omega), List.getElem_append_right (by simp; omega)]
            simp only [List.getElem_drop, List.length_append, List.length_take, List.length_set, Array.length_toList, List.length_cons]
            rw [List.getElem_set_ne (by omega)]
            congr 1
            omega
set_option maxRecDepth 100000 in
theorem fill_one (n : Nat) (Z : Array Value) (X : List Value) (hZ : Z.size = n) (hX : X.length = n) : Instr.fill (fun i => some (i * n, n)) Z [(0, .agg X.toArray)] = some X.toArray := by
  simp only [Instr.fill, Value.cells, List.size_toArray, Nat.zero_mul, Nat.zero_add]
  rw [if_neg (by simp [hX, hZ])]
  congr 1
  have := foldl_zip X 0 Z (fun j hj => by omega)
  apply Array.ext'
  rw [← Array.foldl_toList]
  simp only [Array.toList_zipIdx]
  rw [this]
  simp [hX, ← hZ]
theorem infoWr3 : (Tryd.prog.info? 62).map (fun i => (i.zero, i.size, i.bytes)) = some (some (.agg ((Value.int .i64 0) :: List.replicate 512 (Value.int .u8 0)).toArray), 513, 520) := by kernel_rfl
set_option maxRecDepth 100000 in
theorem slice_wr (X : List Value) (hX : X.length = 513) (W : World) : (Instr.buildSlice 55 1 #[(0, .agg X.toArray)]).run Tryd.prog W = .ok (.slice (some ⟨W.heap.size, 0, none⟩) 1 1) (W.alloc (.cells X.toArray 62)) := by
  obtain ⟨i0, hi, hz⟩ := Option.map_eq_some_iff.1 infoWr3
  injection hz with hz0 hz
  injection hz with hz1 hz2
  refine run_buildSlice W 55 62 1 _ X.toArray i0 _ Tryd.underlying55 hi hz0 (by rw [hz1]; omega) (by rw [hz1]; omega) ?_
  rw [hz1]
  exact fill_one 513 _ X (by rw [Array.size_map, Array.size_range]) hX

/-! ### A text as a whole sector -/
def full (s : ByteArray) : ByteArray := ⟨s.data ++ Array.replicate (512 - s.size) 0⟩
theorem full_size {s : ByteArray} (h : s.size ≤ 512) : (full s).size = 512 := by
  show (s.data ++ Array.replicate (512 - s.size) 0).size = 512
  rw [Array.size_append, Array.size_replicate]
  have : s.data.size = s.size := rfl
  omega
theorem full_cells (s : ByteArray) (i : Int) {Y : List Value} (hY : Y = wrC (i, sec0)) : Y.take 1 ++ (Lib.byteCells s.data.toList ++ Y.drop (1 + s.size)) = wrC (i, full s) := by
  subst hY
  unfold wrC
  rw [secC_zero]
  simp only [List.take_succ_cons, List.take_zero, List.cons_append, List.nil_append]
  congr 1
  rw [Nat.add_comm 1 s.size, List.drop_succ_cons, List.drop_replicate]
  unfold secC full Lib.byteCells
  rw [Array.toList_append, List.map_append, Array.toList_replicate, List.map_replicate]
  rfl

/-! ### Worlds -/
theorem code_row {P : Program} {c : Code} {Q : Exit → Act → World → Prop} {a : Act} {w : World} {g : Nat} {cs cs' old : Array Value} {t : TypeId} (hg : w.heap[g]? = some (.cells old t (0, 0))) (he : cs = cs')
    (h : ∀ w4, w4.heap[g]? = some (.cells cs' t (0, 0)) → Keep w w4 (fun k => k ≠ g) → c.wp P Q a w4) : c.wp P Q a (w.setRow g cs) := by
  subst he
  exact h _ (setRow_heap w g old cs t (0, 0) hg) ⟨rfl, rfl, rfl, by simp [World.setRow], fun k _ hk => setRow_other w g k cs hk⟩
theorem Keep.of_below {w w' : World} {ok : Nat → Prop} {B : Nat} (h : Below B w w') (hB : w.heap.size ≤ B) : Keep w w' ok := ⟨h.os, h.tape, h.output, h.size, fun k hk _ => h.block k (Nat.lt_of_lt_of_le hk hB)⟩
theorem Keep.of_grown {w w' : World} {row : Option Nat} (h : w.grownBy w' row) : Keep w w' (fun k => row ≠ some k) := ⟨h.os, h.tape, h.output, h.size, fun k hk ho => h.block k hk (fun e => ho e.symm)⟩
theorem Keep.drew (w : World) (ok : Nat → Prop) : Keep w w.drew ok := ⟨rfl, rfl, rfl, Nat.le_refl _, fun _ _ _ => rfl⟩
theorem Keep.heap {w w' : World} {ok : Nat → Prop} (h : Keep w w' ok) {k : Nat} {o : Obj} (hk : w.heap[k]? = some o) (ho : ok k) : w'.heap[k]? = some o := (h.block k (Array.getElem?_eq_some_iff.1 hk).1 ho).trans hk
theorem range_heap {w : World} {g : Nat} {X : List Value} {t : TypeId} (h : w.heap[g]? = some (.cells X.toArray t (0, 0))) : w.rangeAt g 0 X := fun j v hv => by
  rw [Nat.zero_add, cell_of_row w g j _ _ (0, 0) h, List.getElem?_toArray]
  exact hv
theorem setWait {w : World} {B D S : Nat} {vw : Value} {sure : List ByteArray} {left : Int} {off : Bool} (hd : w.heap[D]? = some (.cells #[.slice (some ⟨S, 0, none⟩) sure.length sure.length, vw, .int .i64 left, .bool off] 57 (0, 0)))
    (hs : w.heap[S]? = some (.cells (secs sure).toArray 60 (0, 0))) (len : ∀ s, s ∈ sure → s.size = 512) (bD : B ≤ D) (bS : B ≤ S) (ne : D ≠ S) {v' : Value} {wait' : List Wr}
    (row : w.ownsRow B 62 513 v' wait'.length (wrs wait')) (nD : v'.ownBlock ≠ some D) (nS : v'.ownBlock ≠ some S) (wlen : ∀ x, x ∈ wait' → x.2.size = 512) :
    Dk (w.setCell ⟨D, 1, none⟩ v') B D S v' sure wait' left off :=
  ⟨heap_set hd _, (Below.heap_setCell _ _ _ _ ne.symm).trans hs, own_keep row (fun k hk => Below.heap_setCell _ _ _ _ (fun e => nD (by rw [hk]; exact congrArg some e))), len, wlen, bD, bS, ne, nD, nS⟩
#print axioms slice_wr
end Go.Proofs.YtpdnfaggdheneaaDoorS
