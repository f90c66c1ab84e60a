/- Sectors put into the middle of a row of sectors; what 'make' makes. -/
import Derived.Test.YtpdnfaggdheneaaDoorSV
namespace Go.Proofs.YtpdnfaggdheneaaDoorS
open Go.RowKit Go.Proofs Go.Proofs.YtpdnfaggdheneaaDoorW.PrintWords

theorem setCells_heap (S : Nat) (t : TypeId) : ∀ (vs : List Value) (o : Nat) (w : World) (cs : Array Value), w.heap[S]? = some (.cells cs t (0, 0)) →
    ∃ cs', (w.setCells S o vs).heap[S]? = some (.cells cs' t (0, 0)) ∧ cs'.size = cs.size
  | [], _, _, cs, h => ⟨cs, h, rfl⟩
  | v :: vs, o, w, cs, h => by
    obtain ⟨cs', h1, h2⟩ := setCells_heap S t vs (o + 1) (w.setCell ⟨S, o, none⟩ v) _ (heap_set h v)
    exact ⟨cs', h1, by rw [h2]; simp⟩
theorem setCells_keep (S : Nat) (ok : Nat → Prop) (hS : ¬ ok S) : ∀ (vs : List Value) (o : Nat) (w : World), Keep w (w.setCells S o vs) ok
  | [], _, w => Keep.refl w ok
  | v :: vs, o, w => (Keep.setCell w ⟨S, o, none⟩ v hS).trans (setCells_keep S ok hS vs (o + 1) _)
theorem secs_length : ∀ (l : List ByteArray), (∀ s, s ∈ l → s.size = 512) → (secs l).length = l.length * 512
  | [], _ => rfl
  | s :: l, h => by
    rw [show secs (s :: l) = secC s ++ secs l from rfl, List.length_append, secC_length, h s List.mem_cons_self, secs_length l (fun t ht => h t (List.mem_cons_of_mem _ ht)), List.length_cons]
    omega
theorem set_size {l : List ByteArray} (hl : ∀ s, s ∈ l → s.size = 512) {x : ByteArray} (hx : x.size = 512) (i : Nat) : ∀ s, s ∈ l.set i x → s.size = 512 := fun s hs => by
  rcases List.mem_or_eq_of_mem_set hs with h | rfl
  · exact hl s h
  · exact hx
/-- A sector put in its place. -/
theorem put_sec {w : World} {S : Nat} {t : TypeId} {l : List ByteArray} (h : w.heap[S]? = some (.cells (secs l).toArray t (0, 0))) (hl : ∀ s, s ∈ l → s.size = 512) {x : ByteArray} (hx : x.size = 512) {i : Nat} (hi : i < l.length) :
    (w.setCells S (i * 512) (secC x)).heap[S]? = some (.cells (secs (l.set i x)).toArray t (0, 0)) := by
  obtain ⟨cs', h1, h2⟩ := setCells_heap S t (secC x) (i * 512) w _ h
  rw [h1]
  congr 2
  have hlen := secs_length l hl
  have hlen' := secs_length (l.set i x) (set_size hl hx i)
  rw [List.length_set] at hlen'
  have hxl : (secC x).length = 512 := by rw [secC_length, hx]
  apply Array.ext
  · rw [h2]; simp; omega
  intro j hj hj'
  rw [h2] at hj
  simp only [List.size_toArray] at hj hj'
  have hb : (i + 1) * 512 ≤ l.length * 512 := Nat.mul_le_mul_right _ hi
  have e1 : cs'[j]? = (w.setCells S (i * 512) (secC x)).cell? ⟨S, j, none⟩ := (cell_of_row _ S j _ _ (0, 0) h1).symm
  have hthere : ∀ q, q < (secC x).length → (w.cell? ⟨S, i * 512 + q, none⟩).isSome = true := fun q hq => by
    rw [cell_of_row w S _ _ _ (0, 0) h, List.getElem?_toArray, List.getElem?_eq_getElem (by omega)]
    rfl
  have key : cs'[j]? = (secs (l.set i x)).toArray[j]? := by
    rw [e1, List.getElem?_toArray]
    have hq : j / 512 < l.length := by omega
    have hm : j % 512 < 512 := Nat.mod_lt _ (by omega)
    have hj2 : j = j / 512 * 512 + j % 512 := by omega
    by_cases a : j / 512 = i
    · have hin := World.cell?_setCells_in S (secC x) (i * 512) w hthere (j % 512) (by omega)
      rw [show i * 512 + j % 512 = j by omega] at hin
      rw [hin]
      have hg := secs_get (l.set i x) i (j % 512) (set_size hl hx i) (by simpa using hi) hm
      rw [show i * 512 + j % 512 = j by omega] at hg
      rw [hg, List.getD_eq_getElem?_getD, List.getElem?_set_self hi, Option.getD_some, List.getElem?_eq_getElem (by omega)]
    · rw [World.cell?_setCells_out S (secC x) (i * 512) w ⟨S, j, none⟩ (fun _ _ => by
        show j < i * 512 ∨ i * 512 + (secC x).length ≤ j
        rcases Nat.lt_or_gt_of_ne a with a | a
        · left; omega
        · right; have : (i + 1) * 512 ≤ j / 512 * 512 := Nat.mul_le_mul_right _ a; omega)]
      rw [cell_of_row w S _ _ _ (0, 0) h, List.getElem?_toArray]
      have hg := secs_get l (j / 512) (j % 512) hl hq hm
      have hg' := secs_get (l.set i x) (j / 512) (j % 512) (set_size hl hx i) (by simpa using hq) hm
      rw [← hj2] at hg hg'
      rw [hg, hg', List.getD_eq_getElem?_getD, List.getD_eq_getElem?_getD, List.getElem?_set_ne (Ne.symm a)]
  rw [Array.getElem?_eq_getElem (by omega), Array.getElem?_eq_getElem (by simpa using hj')] at key
  exact Option.some.inj key
theorem sec_there {w : World} {S : Nat} {t : TypeId} {l : List ByteArray} (h : w.heap[S]? = some (.cells (secs l).toArray t (0, 0))) (hl : ∀ s, s ∈ l → s.size = 512) {i : Nat} (hi : i < l.length) {n : Nat} (hn : n = 512) : w.there S (i * 512) n := fun j hj => by
  have hlen := secs_length l hl
  have hb : (i + 1) * 512 ≤ l.length * 512 := Nat.mul_le_mul_right _ hi
  refine ⟨?_, by simp [World.frozen?, h]⟩
  rw [cell_of_row w S _ _ _ (0, 0) h, List.getElem?_toArray, List.getElem?_eq_getElem (by omega)]
  rfl

/-! ### What 'make' makes -/
/-- One pending write: made, or not. -/
def mk1 (b : Bool) (x : Wr) (s : List ByteArray) : List ByteArray := if b then s.set x.1.toNat x.2 else s
def madeL (keep : List Bool) (all : Bool) : List Wr → Nat → List ByteArray → List ByteArray
  | [], _, s => s
  | x :: r, k, s => madeL keep all r (k + 1) (mk1 (all || keep.getD k false) x s)
theorem madeL_snoc (keep : List Bool) (all : Bool) (x : Wr) : ∀ (l : List Wr) (k : Nat) (s : List ByteArray), madeL keep all (l ++ [x]) k s = mk1 (all || keep.getD (k + l.length) false) x (madeL keep all l k s)
  | [], _, _ => rfl
  | y :: l, k, s => by
    rw [List.cons_append, madeL, madeL_snoc keep all x l (k + 1), madeL, List.length_cons]
    rw [show k + 1 + l.length = k + (l.length + 1) by omega]
theorem madeL_step (keep : List Bool) (all : Bool) (l : List Wr) (s : List ByteArray) {j : Nat} (hj : j < l.length) : madeL keep all (l.take (j + 1)) 0 s = mk1 (all || keep.getD j false) (l.getD j (0, ByteArray.empty)) (madeL keep all (l.take j) 0 s) := by
  rw [List.take_succ_eq_append_getElem hj, madeL_snoc, List.length_take, List.getD_eq_getElem?_getD (l := l), List.getElem?_eq_getElem hj, Nat.min_eq_left (Nat.le_of_lt hj), Nat.zero_add]
  rfl
theorem mk1_length (b : Bool) (x : Wr) (s : List ByteArray) : (mk1 b x s).length = s.length := by
  unfold mk1
  split <;> simp
theorem mk1_size {b : Bool} {x : Wr} {s : List ByteArray} (hs : ∀ t, t ∈ s → t.size = 512) (hx : x.2.size = 512) : ∀ t, t ∈ mk1 b x s → t.size = 512 := by
  unfold mk1
  split
  · exact set_size hs hx _
  · exact hs
theorem madeL_length (keep : List Bool) (all : Bool) : ∀ (l : List Wr) (k : Nat) (s : List ByteArray), (madeL keep all l k s).length = s.length
  | [], _, _ => rfl
  | x :: l, k, s => by rw [madeL, madeL_length keep all l, mk1_length]
theorem madeL_size (keep : List Bool) (all : Bool) : ∀ (l : List Wr) (k : Nat) (s : List ByteArray), (∀ x, x ∈ l → x.2.size = 512) → (∀ t, t ∈ s → t.size = 512) → ∀ t, t ∈ madeL keep all l k s → t.size = 512
  | [], _, _, _, h => h
  | x :: l, k, s, hl, h => madeL_size keep all l (k + 1) _ (fun y hy => hl y (List.mem_cons_of_mem _ hy)) (mk1_size h (hl x List.mem_cons_self))
#print axioms put_sec
end Go.Proofs.YtpdnfaggdheneaaDoorS
