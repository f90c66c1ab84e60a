/- Forms: the Builder that stands at the head of a writer. -/
import Derived.Test.YtehghdmfdinpjaaDoorProg
import Derived.Test.YtehghdmfdinpjaaDoorWWords
import Derived.Test.YtehghdmfdinpjaaDoorWLast
import Derived.WalkKit
import Derived.WalkSpells
import Derived.WalkLawsBesides
import Derived.Below
import Derived.Lib.Hide
import Derived.Lib.Strings
import Derived.Lib.Slices
import Derived.Lib.Walk
import Derived.Lib.Builder
import Derived.Lib.AppendStr
import Derived.Lib.UnsafeStr
import Derived.Laws.Externs
import Derived.Laws.IdiomCopy
import Derived.RegionTactic
namespace Go.Proofs.YtehghdmfdinpjaaDoorF
open Go.RowKit Go.Proofs Go.Proofs.YtehghdmfdinpjaaDoorW.PrintWords Go.Proofs.YtehghdmfdinpjaaDoorW.PrintLast

theorem sizeB : (Tryd.prog.info? 56).map (·.size) = some 2 := by kernel_rfl
theorem liesB : liesAt Tryd.prog Tryd.prog.depth 58 (4 / Tryd.prog.cellsOf 58) 0 56 1 = true := by kernel_rfl
theorem infoByte : (Tryd.prog.info? 5).map (fun i => (i.zero, i.size, i.bytes)) = some (some (.int .u8 0), 1, 1) := by kernel_rfl
theorem cellsByte : Tryd.prog.cellsOf 5 = 1 := by kernel_rfl
/-- A writer: its Builder's two cells, its error, and whether it was too deep. -/
structure WrAt (w : World) (B g : Nat) (p : Value) (bs : List UInt8) (er : Value) (dp : Bool) : Prop where
  base : B ≤ g
  row : ∃ v, w.heap[g]? = some (.cells #[p, v, er, .bool dp] 58 (0, 0)) ∧ w.ownsRow B 5 1 v bs.length (Lib.byteCells bs) ∧ v.ownBlock ≠ some g
def Used (g : Nat) : Value := .pointer (some ⟨g, 0, none⟩)
def Wr (w : World) (B g : Nat) (bs : List UInt8) (er : Value) (dp : Bool) : Prop := WrAt w B g (.pointer none) bs er dp ∨ WrAt w B g (Used g) bs er dp
section
variable {w w' : World} {B g : Nat} {p er : Value} {bs : List UInt8} {dp : Bool}
theorem WrAt.lt (h : WrAt w B g p bs er dp) : g < w.heap.size := by
  obtain ⟨v, hb, _⟩ := h.row
  exact (Array.getElem?_eq_some_iff.1 hb).1
theorem Wr.at (h : Wr w B g bs er dp) : ∃ p, WrAt w B g p bs er dp := by
  rcases h with h | h
  · exact ⟨_, h⟩
  · exact ⟨_, h⟩
theorem Wr.lt (h : Wr w B g bs er dp) : g < w.heap.size := by
  obtain ⟨p, h⟩ := h.at
  exact h.lt
theorem own_keepB {w w' : World} {B : Nat} {e : TypeId} {size n : Nat} {v : Value} {xs : List Value} (h : w.ownsRow B e size v n xs) (hk : ∀ k, v.ownBlock = some k → w'.heap[k]? = w.heap[k]?) : w'.ownsRow B e size v n xs := own_move h hk
theorem WrAt.step (h : WrAt w B g p bs er dp) (hb : Below w.heap.size w w') : WrAt w' B g p bs er dp := by
  obtain ⟨v, h1, h2, h3⟩ := h.row
  exact ⟨h.base, v, (hb.block g h.lt).trans h1, own_move h2 (fun k hk => hb.block k (own_lt h2 k hk)), h3⟩
theorem Wr.step (h : Wr w B g bs er dp) (hb : Below w.heap.size w w') : Wr w' B g bs er dp := by
  rcases h with h | h
  · exact .inl (h.step hb)
  · exact .inr (h.step hb)
theorem heap_setF {D j : Nat} {cs : Array Value} {t : TypeId} {fr : Nat × Nat} (h : w.heap[D]? = some (.cells cs t fr)) (u : Value) : (w.setCell ⟨D, j, none⟩ u).heap[D]? = some (.cells (cs.setIfInBounds j u) t fr) := by
  simp only [World.setCell, Array.getElem?_modify]
  rw [if_pos trivial, h]
  rfl
theorem Wr.setErr (h : Wr w B g bs er dp) (u : Value) : Wr (w.setCell ⟨g, 2, none⟩ u) B g bs u dp := by
  have key : ∀ p, WrAt w B g p bs er dp → WrAt (w.setCell ⟨g, 2, none⟩ u) B g p bs u dp := fun p h => by
    obtain ⟨v, h1, h2, h3⟩ := h.row
    exact ⟨h.base, v, (heap_setF h1 u).trans rfl, own_move h2 (fun k hk => Below.heap_setCell _ _ _ _ (fun e => h3 (by rw [hk]; exact congrArg some e))), h3⟩
  rcases h with h | h
  · exact .inl (key _ h)
  · exact .inr (key _ h)
theorem Wr.setDeep (h : Wr w B g bs er dp) (b : Bool) : Wr (w.setCell ⟨g, 3, none⟩ (.bool b)) B g bs er b := by
  have key : ∀ p, WrAt w B g p bs er dp → WrAt (w.setCell ⟨g, 3, none⟩ (.bool b)) B g p bs er b := fun p h => by
    obtain ⟨v, h1, h2, h3⟩ := h.row
    exact ⟨h.base, v, (heap_setF h1 _).trans rfl, own_move h2 (fun k hk => Below.heap_setCell _ _ _ _ (fun e => h3 (by rw [hk]; exact congrArg some e))), h3⟩
  rcases h with h | h
  · exact .inl (key _ h)
  · exact .inr (key _ h)
theorem WrAt.used (h : WrAt w B g p bs er dp) (q : Value) : WrAt (w.setCell ⟨g, 0, none⟩ q) B g q bs er dp := by
  obtain ⟨v, h1, h2, h3⟩ := h.row
  exact ⟨h.base, v, (heap_setF h1 _).trans rfl, own_move h2 (fun k hk => Below.heap_setCell _ _ _ _ (fun e => h3 (by rw [hk]; exact congrArg some e))), h3⟩
theorem WrAt.cells (h : WrAt w B g p bs er dp) : w.cell? ⟨g, 0, none⟩ = some p ∧ (∃ ao cap, w.cell? ⟨g, 1, none⟩ = some (.slice ao bs.length cap)) ∧ w.cell? ⟨g, 2, none⟩ = some er ∧ w.cell? ⟨g, 3, none⟩ = some (.bool dp) := by
  obtain ⟨v, h1, h2, _⟩ := h.row
  refine ⟨by rw [Lib.cell_of_heap h1]; rfl, ?_, by rw [Lib.cell_of_heap h1]; rfl, by rw [Lib.cell_of_heap h1]; rfl⟩
  rcases h2.2 with ⟨hv, h0⟩ | ⟨q, cap, cur, hv, _⟩
  · exact ⟨none, 0, by rw [Lib.cell_of_heap h1, hv, h0]; rfl⟩
  · exact ⟨_, cap, by rw [Lib.cell_of_heap h1, hv]; rfl⟩
theorem WrAt.frozen (h : WrAt w B g p bs er dp) (k : Nat) : w.frozen? ⟨g, k, none⟩ = false := by
  obtain ⟨v, h1, _⟩ := h.row
  exact Lib.frozen_of_heap h1 k
end
/-- What is no byte's row and no writer is kept. -/
def FrT (w w' : World) : Prop := ∀ (k : Nat) (cs : Array Value) (t : TypeId), w.heap[k]? = some (Obj.cells cs t (0, 0)) → t ≠ 5 → t ≠ 58 → w'.heap[k]? = some (Obj.cells cs t (0, 0))
theorem FrT.refl (w : World) : FrT w w := fun _ _ _ h _ _ => h
theorem FrT.trans {a b c : World} (h : FrT a b) (h2 : FrT b c) : FrT a c := fun k cs t hk h5 h58 => h2 k cs t (h k cs t hk h5 h58) h5 h58
theorem FrT.below {w w' : World} (h : Below w.heap.size w w') : FrT w w' := fun k _ _ hk _ _ => (h.block k (Array.getElem?_eq_some_iff.1 hk).1).trans hk
theorem FrT.grown {w w' : World} {B n : Nat} {v : Value} {xs : List Value} (ho : w.ownsRow B 5 1 v n xs) (h : w.grownBy w' v.ownBlock) : FrT w w' := fun k _ _ hk h5 _ => (h.block k (Array.getElem?_eq_some_iff.1 hk).1 (fun e => own_ne ho hk (fun q => h5 q.symm) e)).trans hk
theorem FrT.set {w : World} {g j : Nat} {u : Value} {cs : Array Value} {fr : Nat × Nat} (hb : w.heap[g]? = some (.cells cs 58 fr)) : FrT w (w.setCell ⟨g, j, none⟩ u) := fun k _ _ hk _ h58 => (Below.heap_setCell _ _ _ _ (fun e => by subst e; rw [hk] at hb; injection hb with hb; injection hb with _ hb _; exact h58 hb)).trans hk
/-! ### Its functions -/
set_option maxHeartbeats 1000000 in
set_option maxRecDepth 100000 in
theorem copyCheck_calls {w : World} {B g : Nat} {bs : List UInt8} {er : Value} {dp : Bool} (h : Wr w B g bs er dp) :
    Calls Tryd.prog 51 #[.pointer (some ⟨g, 0, none⟩)] w fun e w' => e = .returned (.tuple #[]) ∧ WrAt w' B g (Used g) bs er dp ∧ Below B w w' ∧ FrT w w' := by
  obtain ⟨j, hj, hjs⟩ := Option.map_eq_some_iff.1 sizeB
  rcases h with h | h
  · obtain ⟨v, hb, _⟩ := h.row
    have h0 : w.cell? ⟨g, 0, none⟩ = some (.pointer none) := h.cells.1
    have hfz : w.frozen? ⟨g, 0, none⟩ = false := h.frozen 0
    have hsh : w.shape? g = some (58, 4) := by simp [World.shape?, hb]
    have H := Lib.hid h
    have HSH := Lib.hid hsh
    have HJ := Lib.hid hj
    have HJS := Lib.hid hjs
    clear h hb hsh hj hjs
    go_enter Tryd.func51, Tryd.ntmps51
    go_wp2
    rw [Lib.run_to_unsafe w ⟨g, 0, none⟩ Tryd.underlying53 Tryd.underlying79 HJ.out (by rw [HJS.out]; decide) HSH.out (Nat.zero_lt_succ 3)]
    simp only [Result.andThen]
    rw [Oper.upon_value]
    go_wp2
    rw [run_callFunc_extern Tryd.func61 (by kernel_rfl) (by kernel_rfl) (by kernel_rfl) (e := Extern.AbiNoEscape.same) (by kernel_rfl)]
    rw [Lib.run_noEscape]
    simp only [Result.andThen]
    rw [Oper.upon_value]
    go_wp2
    rw [Lib.run_from_unsafe w ⟨g, 0, none⟩ Tryd.underlying79 Tryd.underlying53 HJ.out HSH.out liesB]
    simp only [Result.andThen]
    rw [Oper.upon_value]
    go_wp2
    go_end0
    exact ⟨rfl, H.out.used _, (Below.refl B w).setCell (p := ⟨g, 0, none⟩) H.out.base _, FrT.set H.out.row.choose_spec.1⟩
  · have h0 : w.cell? ⟨g, 0, none⟩ = some (.pointer (some ⟨g, 0, none⟩)) := h.cells.1
    have H := Lib.hid h
    have HJ := Lib.hid hj
    clear h hj hjs
    go_enter Tryd.func51, Tryd.ntmps51
    go_wp2
    rw [Lib.run_neq_ptr_same w _ Tryd.underlying53 HJ.out]
    go_wp2
    go_end0
    exact ⟨rfl, H.out, Below.refl B _, FrT.refl _⟩
theorem len_calls {w : World} {B g : Nat} {bs : List UInt8} {er : Value} {dp : Bool} (h : Wr w B g bs er dp) :
    Calls Tryd.prog 25 #[.pointer (some ⟨g, 0, none⟩)] w fun e w' => e = .returned (.int .i64 bs.length) ∧ w = w' := by
  obtain ⟨p, h⟩ := h.at
  obtain ⟨_, ⟨ao, cap, c1⟩, _⟩ := h.cells
  clear h
  go_enter Tryd.func25, Tryd.ntmps25
  go_wp2
  go_ret
  exact ⟨rfl, rfl⟩
def WEnd (w : World) (v : Value) (B g : Nat) (bs : List UInt8) (er : Value) (dp : Bool) (e : Ending) (w' : World) : Prop := e = .returned v ∧ Wr w' B g bs er dp ∧ Below B w w' ∧ FrT w w'
theorem WrAt.put {w2 : World} {B g n : Nat} {p er v v' : Value} {bs' : List UInt8} {dp : Bool} (hB : B ≤ g) (hb : w2.heap[g]? = some (.cells #[p, v, er, .bool dp] 58 (0, 0))) (ho : w2.ownsRow B 5 1 v' n (Lib.byteCells bs')) (hn : n = bs'.length) : WrAt (w2.setCell ⟨g, 1, none⟩ v') B g p bs' er dp := by
  have hne : v'.ownBlock ≠ some g := fun e => own_ne ho hb (by decide) e.symm
  subst hn
  exact ⟨hB, v', (heap_setF hb _).trans rfl, own_move ho (fun k hk => Below.heap_setCell _ _ _ _ (fun e => hne (by rw [hk]; exact congrArg some e))), hne⟩
set_option maxHeartbeats 1000000 in
set_option maxRecDepth 100000 in
theorem writeByte_calls {w : World} {B g : Nat} {bs : List UInt8} {er : Value} {dp : Bool} (c : UInt8) (h : Wr w B g bs er dp) (hlen : bs.length + 1 ≤ 140737488355328) :
    Calls Tryd.prog 39 #[.pointer (some ⟨g, 0, none⟩), .int .u8 c.toNat] w (WEnd w .nilIface B g (bs ++ [c]) er dp) := by
  obtain ⟨i0, hi, hz0, hz1, hz2⟩ := info_parts infoByte
  have hBw : B ≤ w.heap.size := by
    obtain ⟨p, h⟩ := h.at
    have h1 := h.base
    have h2 := h.lt
    omega
  have H := Lib.hid h
  clear h
  go_enter Tryd.func39, Tryd.ntmps39
  go_wp2_with (go_at_call 51; refine (copyCheck_calls H.out).mono ?_)
  rintro e w1 ⟨rfl, h1, hb1, hf1⟩
  have HB := h1.base
  have hg1 := h1.lt
  obtain ⟨v, hbk, hown, hne⟩ := h1.row
  have c0 : w1.cell? ⟨g, 0, none⟩ = some (Used g) := by rw [Lib.cell_of_heap hbk]; rfl
  have c1 : w1.cell? ⟨g, 1, none⟩ = some v := by rw [Lib.cell_of_heap hbk]; rfl
  go_wp2_with (at_builtin; refine wpList_append_own _ rfl _ _ 54 rfl B 5 i0 (.int .u8 0) 1 1 Tryd.underlying54 hi hz0 hz1 hz2 rfl (by decide) _ _ _ rfl (hown.alloc _) ⟨w1.heap.size, 0, none⟩ 1 1 [.int .u8 c.toNat] rfl rfl ?c1 ?c2 ?c3 ?c4 ?c5 ?_)
  case c1 =>
    intro j u hj
    match j, hj with
    | 0, hj => simp at hj; subst hj; simp [Addr.add]
  case c2 => intro u hu; simp at hu; subst hu; rfl
  case c3 => unfold maxLen; omega
  case c4 => omega
  case c5 => have := hb1.size; simp; omega
  intro v' w2 hown' hgrow _
  have hb2 : w2.heap[g]? = some (.cells #[Used g, v, er, .bool dp] 58 (0, 0)) := by
    rw [hgrow.block g (by simp; omega) (fun e => hne e.symm), Lib.alloc_old w1 _ g hg1]
    exact hbk
  have d0 : w2.cell? ⟨g, 0, none⟩ = some (Used g) := by rw [Lib.cell_of_heap hb2]; rfl
  have d1 : w2.cell? ⟨g, 1, none⟩ = some v := by rw [Lib.cell_of_heap hb2]; rfl
  have hfz : w2.frozen? ⟨g, 1, none⟩ = false := by simp [World.frozen?, hb2]
  obtain ⟨q, cap, rfl⟩ : ∃ q cap, v' = .slice (some ⟨q, 0, none⟩) (bs.length + 1) cap := by
    rcases hown'.2 with ⟨_, h0⟩ | ⟨q, cap, cur, hv, _⟩
    · omega
    · exact ⟨q, cap, hv⟩
  go_wp2
  go_ret
  have hB1 : Below B w1 (w1.alloc (.cells #[.int .u8 c.toNat] 5)) := (Below.refl B w1).alloc (by have := hb1.size; omega) _
  have hB2 : Below B w w2 := hb1.trans (hB1.grown hgrow (by simp; have := hb1.size; omega) (fun k e => own_base hown k e))
  refine ⟨rfl, .inr (WrAt.put HB hb2 ?_ (by simp : bs.length + 1 = (bs ++ [c]).length)), hB2.setCell (p := ⟨g, 1, none⟩) HB _, hf1.trans ((FrT.below (below_alloc (Below.refl _ _) _)).trans ((FrT.grown (hown.alloc _) hgrow).trans (FrT.set hb2)))⟩
  have : Lib.byteCells (bs ++ [c]) = Lib.byteCells bs ++ [.int .u8 c.toNat] := by simp [Lib.byteCells]
  rw [this]
  exact hown'
set_option maxHeartbeats 2000000 in
set_option maxRecDepth 100000 in
theorem writeString_calls {w : World} {B g : Nat} {bs : List UInt8} {er : Value} {dp : Bool} (s : ByteArray) (h : Wr w B g bs er dp) (hlen : bs.length + s.size ≤ 140737488355328) :
    Calls Tryd.prog 38 #[.pointer (some ⟨g, 0, none⟩), .string s] w (WEnd w (.tuple #[.int .i64 s.size, .nilIface]) B g (bs ++ s.data.toList) er dp) := by
  obtain ⟨i0, hi, hz0, hz1, hz2⟩ := info_parts infoByte
  have hBw : B ≤ w.heap.size := by
    obtain ⟨p, h⟩ := h.at
    have h1 := h.base
    have h2 := h.lt
    omega
  have H := Lib.hid h
  clear h
  go_enter Tryd.func38, Tryd.ntmps38
  go_wp2_with (go_at_call 51; refine (copyCheck_calls H.out).mono ?_)
  rintro e w1 ⟨rfl, h1, hb1, hf1⟩
  have HB := h1.base
  have hg1 := h1.lt
  obtain ⟨v, hbk, hown, hne⟩ := h1.row
  have c0 : w1.cell? ⟨g, 0, none⟩ = some (Used g) := by rw [Lib.cell_of_heap hbk]; rfl
  have c1 : w1.cell? ⟨g, 1, none⟩ = some v := by rw [Lib.cell_of_heap hbk]; rfl
  go_wp2_with (at_builtin; refine Lib.wpList_append_own_string _ rfl _ _ 54 9 rfl B 5 i0 Tryd.underlying54 Tryd.underlying9 hi hz0 hz1 hz2 _ _ _ rfl hown s rfl ?c3 ?c4 ?c5 ?_)
  case c3 => unfold maxLen; omega
  case c4 => omega
  case c5 => have := hb1.size; omega
  intro v' w2 hown' hgrow _
  have hb2 : w2.heap[g]? = some (.cells #[Used g, v, er, .bool dp] 58 (0, 0)) := by
    rw [hgrow.block g hg1 (fun e => hne e.symm)]
    exact hbk
  have d0 : w2.cell? ⟨g, 0, none⟩ = some (Used g) := by rw [Lib.cell_of_heap hb2]; rfl
  have d1 : w2.cell? ⟨g, 1, none⟩ = some v := by rw [Lib.cell_of_heap hb2]; rfl
  have f1 : w2.frozen? ⟨g, 1, none⟩ = false := Lib.frozen_of_heap hb2 1
  obtain ⟨ao, n', cap, rfl⟩ : ∃ ao n' cap, v' = .slice ao n' cap := by
    rcases hown'.2 with ⟨hv, _⟩ | ⟨q, cap, cur, hv, _⟩
    · exact ⟨_, _, _, hv⟩
    · exact ⟨_, _, _, hv⟩
  go_wp2
  go_ret2
  have hB2 : Below B w w2 := hb1.grown hgrow (by have := hb1.size; omega) (fun k hk => (hown.lt k hk).1)
  refine ⟨rfl, .inr (WrAt.put HB hb2 ?_ (by rw [List.length_append, Array.length_toList]; rfl : bs.length + s.size = (bs ++ s.data.toList).length)), hB2.setCell (p := ⟨g, 1, none⟩) HB _, hf1.trans ((FrT.grown hown hgrow).trans (FrT.set hb2))⟩
  have : Lib.byteCells (bs ++ s.data.toList) = Lib.byteCells bs ++ Lib.strCells s := by simp [Lib.byteCells, Lib.strCells]
  rw [this]
  exact hown'
#print axioms writeString_calls
end Go.Proofs.YtehghdmfdinpjaaDoorF
