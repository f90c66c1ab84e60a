/- A disk of sectors: what memory holds of it, and what stays. -/
import Derived.Test.YtpdnfaggdheneaaDoorProg
import Derived.WalkKit
import Derived.WalkSpells
import Derived.WalkLawsBesides
import Derived.Below
import Derived.Lib.Hide
namespace Go.Proofs.YtpdnfaggdheneaaDoorS
open Go.RowKit Go.Proofs

/-- A sector's cells. -/
def secC (s : ByteArray) : List Value := s.data.toList.map fun b => .int .u8 (b.toNat : Int)
def secs (l : List ByteArray) : List Value := l.flatMap secC
abbrev Wr := Int × ByteArray
def wrs (l : List Wr) : List Value := l.flatMap fun x => .int .i64 x.1 :: secC x.2
/-- What stays: every block of w's that is ok. -/
structure Keep (w w' : World) (ok : Nat → Prop) : Prop where
  os : w'.os = w.os
  tape : w'.tape = w.tape
  output : w'.output = w.output
  size : w.heap.size ≤ w'.heap.size
  block : ∀ k, k < w.heap.size → ok k → w'.heap[k]? = w.heap[k]?
theorem Keep.refl (w : World) (ok : Nat → Prop) : Keep w w ok := ⟨rfl, rfl, rfl, Nat.le_refl _, fun _ _ _ => rfl⟩
theorem Keep.trans {a b c : World} {ok : Nat → Prop} (h : Keep a b ok) (h' : Keep b c ok) : Keep a c ok :=
  ⟨h'.os.trans h.os, h'.tape.trans h.tape, h'.output.trans h.output, Nat.le_trans h.size h'.size, fun k hk ho => (h'.block k (Nat.lt_of_lt_of_le hk h.size) ho).trans (h.block k hk ho)⟩
theorem Keep.mono {a b : World} {ok ok' : Nat → Prop} (h : Keep a b ok) (hm : ∀ k, k < a.heap.size → ok' k → ok k) : Keep a b ok' :=
  ⟨h.os, h.tape, h.output, h.size, fun k hk ho => h.block k hk (hm k hk ho)⟩
theorem Keep.below {a b : World} {ok : Nat → Prop} {B : Nat} (h : Keep a b ok) (hB : B ≤ a.heap.size) (hm : ∀ k, k < B → ok k) : Below B a b :=
  ⟨h.os, h.tape, h.output, h.size, fun k hk => h.block k (Nat.lt_of_lt_of_le hk hB) (hm k hk)⟩
theorem Keep.cell {a b : World} {ok : Nat → Prop} (h : Keep a b ok) {p : Addr} {v : Value} (hc : a.cell? p = some v) (ho : ok p.block) : b.cell? p = some v := by
  rw [World.cell?_of_block (w := a) (h.block p.block (World.block_lt_of_cell? a _ hc) ho)]
  exact hc
theorem Keep.setCell (w : World) (p : Addr) (u : Value) {ok : Nat → Prop} (h : ¬ ok p.block) : Keep w (w.setCell p u) ok :=
  ⟨rfl, rfl, rfl, by simp [World.setCell], fun k _ ho => Below.heap_setCell _ _ _ _ (fun e => h (by rw [← e]; exact ho))⟩

/-- The disk at block D: its sure sectors at block S, its pending writes in row vw. -/
structure Dk (w : World) (B D S : Nat) (vw : Value) (sure : List ByteArray) (wait : List Wr) (left : Int) (off : Bool) : Prop where
  disk : w.heap[D]? = some (.cells #[.slice (some ⟨S, 0, none⟩) sure.length sure.length, vw, .int .i64 left, .bool off] 57 (0, 0))
  secs : w.heap[S]? = some (.cells (secs sure).toArray 60 (0, 0))
  row : w.ownsRow B 62 513 vw wait.length (wrs wait)
  len : ∀ s, s ∈ sure → s.size = 512
  wlen : ∀ x, x ∈ wait → x.2.size = 512
  bD : B ≤ D
  bS : B ≤ S
  neDS : D ≠ S
  neD : vw.ownBlock ≠ some D
  neS : vw.ownBlock ≠ some S
/-- Blocks that are none of the disk's. -/
def okD (D S : Nat) (vw : Value) (k : Nat) : Prop := k ≠ D ∧ k ≠ S ∧ vw.ownBlock ≠ some k
section
variable {w : World} {B D S : Nat} {vw : Value} {sure : List ByteArray} {wait : List Wr} {left : Int} {off : Bool}
theorem Dk.c0 (h : Dk w B D S vw sure wait left off) : w.cell? ⟨D, 0, none⟩ = some (.slice (some ⟨S, 0, none⟩) sure.length sure.length) := (cell_of_row w D 0 _ _ (0, 0) h.disk).trans rfl
theorem Dk.c1 (h : Dk w B D S vw sure wait left off) : w.cell? ⟨D, 1, none⟩ = some vw := (cell_of_row w D 1 _ _ (0, 0) h.disk).trans rfl
theorem Dk.c2 (h : Dk w B D S vw sure wait left off) : w.cell? ⟨D, 2, none⟩ = some (.int .i64 left) := (cell_of_row w D 2 _ _ (0, 0) h.disk).trans rfl
theorem Dk.c3 (h : Dk w B D S vw sure wait left off) : w.cell? ⟨D, 3, none⟩ = some (.bool off) := (cell_of_row w D 3 _ _ (0, 0) h.disk).trans rfl
end

/-! ### Off, there -/
theorem off_calls {w : World} {D : Nat} {off : Bool} (h : w.cell? ⟨D, 3, none⟩ = some (.bool off)) : Calls Tryd.prog 10 #[.pointer (some ⟨D, 0, none⟩)] w fun e w' => e = .returned (.bool off) ∧ w' = w := by
  go_enter Tryd.func10, Tryd.ntmps10
  go_wp2
  go_ret
  exact ⟨rfl, rfl⟩
theorem there_calls {w : World} {D S n : Nat} (i : Int) (h : w.cell? ⟨D, 0, none⟩ = some (.slice (some ⟨S, 0, none⟩) n n)) : Calls Tryd.prog 21 #[.pointer (some ⟨D, 0, none⟩), .int .i64 i] w fun e w' => e = .returned (.bool (decide (0 ≤ i) && decide (i < n))) ∧ w' = w := by
  go_enter Tryd.func21, Tryd.ntmps21
  by_cases h0 : 0 ≤ i
  · have h0' : decide (0 ≤ i) = true := decide_eq_true h0
    go_wp2
    go_ret
    simp [h0]
  · have h0' : decide (0 ≤ i) = false := decide_eq_false h0
    go_wp2
    go_ret
    simp
theorem heap_set {w : World} {D j : Nat} {cs : Array Value} {t : TypeId} {fr : Nat × Nat} (h : w.heap[D]? = some (.cells cs t fr)) (u : Value) : (w.setCell ⟨D, j, none⟩ u).heap[D]? = some (.cells (cs.setIfInBounds j u) t fr) := by
  simp only [World.setCell, Array.getElem?_modify]
  rw [if_pos trivial, h]
  rfl
theorem own_keep {w w' : World} {B : Nat} {e : TypeId} {size n : Nat} {v : Value} {xs : List Value} (h : w.ownsRow B e size v n xs) (hk : ∀ k, v.ownBlock = some k → w'.heap[k]? = w.heap[k]?) : w'.ownsRow B e size v n xs := by
  obtain ⟨h1, h2⟩ := h
  refine ⟨h1, ?_⟩
  rcases h2 with h2 | ⟨g, cap, cur, rfl, hg, hh, r⟩
  · exact .inl h2
  · exact .inr ⟨g, cap, cur, rfl, hg, (hk g (by simp [Value.ownBlock])).trans hh, r⟩
section
variable {w : World} {B D S : Nat} {vw : Value} {sure : List ByteArray} {wait : List Wr} {left : Int} {off : Bool}
theorem Dk.lt (h : Dk w B D S vw sure wait left off) : D < w.heap.size ∧ S < w.heap.size := ⟨(Array.getElem?_eq_some_iff.1 h.disk).1, (Array.getElem?_eq_some_iff.1 h.secs).1⟩
theorem Dk.fr (h : Dk w B D S vw sure wait left off) (j : Nat) : w.frozen? ⟨D, j, none⟩ = false := by simp [World.frozen?, h.disk]
/-- The disk as it is behind any world that keeps its blocks. -/
theorem Dk.keep {w' : World} (h : Dk w B D S vw sure wait left off) (hD : w'.heap[D]? = w.heap[D]?) (hS : w'.heap[S]? = w.heap[S]?) (hv : ∀ k, vw.ownBlock = some k → w'.heap[k]? = w.heap[k]?) : Dk w' B D S vw sure wait left off :=
  ⟨hD.trans h.disk, hS.trans h.secs, own_keep h.row hv, h.len, h.wlen, h.bD, h.bS, h.neDS, h.neD, h.neS⟩
theorem Dk.setLeft (h : Dk w B D S vw sure wait left off) (l : Int) : Dk (w.setCell ⟨D, 2, none⟩ (.int .i64 l)) B D S vw sure wait l off :=
  ⟨heap_set h.disk _, (Below.heap_setCell _ _ _ _ h.neDS.symm).trans h.secs, own_keep h.row (fun k hk => Below.heap_setCell _ _ _ _ (fun e => h.neD (by rw [hk]; exact congrArg some e))), h.len, h.wlen, h.bD, h.bS, h.neDS, h.neD, h.neS⟩
theorem Dk.setOff (h : Dk w B D S vw sure wait left off) (o : Bool) : Dk (w.setCell ⟨D, 3, none⟩ (.bool o)) B D S vw sure wait left o :=
  ⟨heap_set h.disk _, (Below.heap_setCell _ _ _ _ h.neDS.symm).trans h.secs, own_keep h.row (fun k hk => Below.heap_setCell _ _ _ _ (fun e => h.neD (by rw [hk]; exact congrArg some e))), h.len, h.wlen, h.bD, h.bS, h.neDS, h.neD, h.neS⟩
end

/-! ### step, Fuel -/
/-- Is there fuel for a step? What is left, and is it off behind it? -/
def stepB (left : Int) (off : Bool) : Bool := !off && left != 0
def stepLeft (left : Int) (off : Bool) : Int := if off = false ∧ 0 < left then left - 1 else left
def stepOff (left : Int) (off : Bool) : Bool := off || left == 0
theorem step_calls {w : World} {B D S : Nat} {vw : Value} {sure : List ByteArray} {wait : List Wr} {left : Int} {off : Bool} (h : Dk w B D S vw sure wait left off) (hl0 : -1 ≤ left) (hl1 : left < 9223372036854775808) :
    Calls Tryd.prog 22 #[.pointer (some ⟨D, 0, none⟩)] w fun e w' => e = .returned (.bool (stepB left off)) ∧ Dk w' B D S vw sure wait (stepLeft left off) (stepOff left off) ∧ Keep w w' (fun k => k ≠ D) := by
  have h2 := h.c2
  have h3 := h.c3
  have f2 := h.fr 2
  have f3 := h.fr 3
  have H := Lib.hid h
  clear h
  go_enter Tryd.func22, Tryd.ntmps22
  cases off with
  | true =>
    go_wp2_with (first | (go_at_call 10; refine (off_calls h3).mono ?_; rintro e w' ⟨rfl, rfl⟩))
    go_ret
    exact ⟨rfl, by simpa [stepLeft, stepOff] using H.out, Keep.refl _ _⟩
  | false =>
    by_cases hz : left = 0
    · subst hz
      go_wp2_with (first | (go_at_call 10; refine (off_calls h3).mono ?_; rintro e w' ⟨rfl, rfl⟩))
      go_ret
      exact ⟨rfl, by simpa [stepLeft, stepOff] using H.out.setOff true, Keep.setCell _ _ _ (fun h => h rfl)⟩
    · by_cases hp : 0 < left
      · have hz' : (left == 0) = false := by simpa using hz
        have hp' : decide (0 < left) = true := decide_eq_true hp
        have hw : IntKind.i64.wrap (left - 1) = left - 1 := IntWalk.i64_in _ (by omega)
        go_wp2_with (first | (go_at_call 10; refine (off_calls h3).mono ?_; rintro e w' ⟨rfl, rfl⟩))
        go_ret
        exact ⟨by simp [stepB, hz], by rw [show stepLeft left false = left - 1 by simp [stepLeft, hp], show stepOff left false = false by simp [stepOff, hz]]; exact H.out.setLeft (left - 1), Keep.setCell _ _ _ (fun h => h rfl)⟩
      · have hz' : (left == 0) = false := by simpa using hz
        have hp' : decide (0 < left) = false := decide_eq_false hp
        go_wp2_with (first | (go_at_call 10; refine (off_calls h3).mono ?_; rintro e w' ⟨rfl, rfl⟩))
        go_ret
        exact ⟨by simp [stepB, hz], by rw [show stepLeft left false = left by simp [stepLeft]; omega, show stepOff left false = false by simp [stepOff, hz]]; exact H.out, Keep.refl _ _⟩
theorem fuel_calls {w : World} {B D S : Nat} {vw : Value} {sure : List ByteArray} {wait : List Wr} {left : Int} {off : Bool} (n : Int) (h : Dk w B D S vw sure wait left off) :
    Calls Tryd.prog 7 #[.pointer (some ⟨D, 0, none⟩), .int .i64 n] w fun e w' => e = .returned (.tuple #[]) ∧ Dk w' B D S vw sure wait (max n (-1)) off ∧ Keep w w' (fun k => k ≠ D) := by
  have h2 := h.c2
  have f2 := h.fr 2
  have H := Lib.hid h
  clear h
  go_enter Tryd.func7, Tryd.ntmps7
  go_wp2
  · go_end0
    exact ⟨rfl, by rw [show max n (-1) = -1 by omega]; exact H.out.setLeft (-1), Keep.setCell _ _ _ (fun h => h rfl)⟩
  · go_end0
    exact ⟨rfl, by rw [show max n (-1) = n by omega]; exact H.out.setLeft n, Keep.setCell _ _ _ (fun h => h rfl)⟩
#print axioms there_calls
end Go.Proofs.YtpdnfaggdheneaaDoorS
