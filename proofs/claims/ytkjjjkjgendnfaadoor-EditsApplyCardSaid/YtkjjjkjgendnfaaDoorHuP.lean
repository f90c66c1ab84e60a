/- A row of hunks in memory, each with a row of lines of its own: lemmas without the walk. -/
import Derived.Test.YtkjjjkjgendnfaaDoorBk
namespace Go.Proofs.YtkjjjkjgendnfaaDoorR
open Go.RowKit Go.Proofs.YtkjjjkjgendnfaaDoorE Go.Proofs.YtkjjjkjgendnfaaDoorW.PrintWords

def hflat : List Hk → List Value → List Value
  | h :: hs, p :: ps => .int .i64 h.1 :: .int .i64 h.2.1 :: p :: hflat hs ps
  | _, _ => []
def lines (l : List ByteArray) : List Value := l.map Value.string
theorem lines_append (l m : List ByteArray) : lines (l ++ m) = lines l ++ lines m := by simp [lines]

theorem hflat_length : ∀ (hs : List Hk) (ps : List Value), ps.length = hs.length → (hflat hs ps).length = hs.length * 3
  | [], [], _ => rfl
  | [], _ :: _, h => by simp at h
  | _ :: _, [], h => by simp at h
  | h :: hs, p :: ps, hl => by
    have := hflat_length hs ps (by simpa using hl)
    simp only [hflat, List.length_cons, this]
    omega
theorem hflat_snoc : ∀ (hs : List Hk) (ps : List Value) (h : Hk) (p : Value), ps.length = hs.length → hflat (hs ++ [h]) (ps ++ [p]) = hflat hs ps ++ [.int .i64 h.1, .int .i64 h.2.1, p]
  | [], [], _, _, _ => rfl
  | [], _ :: _, _, _, h => by simp at h
  | _ :: _, [], _, _, h => by simp at h
  | x :: hs, q :: ps, h, p, hl => by
    have := hflat_snoc hs ps h p (by simpa using hl)
    simp only [List.cons_append, hflat, this]

/-- v is a row of hunks of the call's own, ps their rows of lines. -/
structure HRow (w : World) (B : Nat) (v : Value) (hs : List Hk) (ps : List Value) : Prop where
  len : ps.length = hs.length
  row : w.ownsRow B 26 3 v hs.length (hflat hs ps)
  puts : ∀ (i : Nat) (h : Hk) (p : Value), hs[i]? = some h → ps[i]? = some p → w.ownsRow B 9 1 p h.2.2.length (lines h.2.2)
  apart : ∀ (i j : Nat) (p q : Value), ps[i]? = some p → ps[j]? = some q → i ≠ j → p.ownBlock = none ∨ p.ownBlock ≠ q.ownBlock

theorem far_block {wc w4 : World} {o : Obj} {r : Option Nat} (hg : (wc.alloc o).drew.grownBy w4 r) {g : Nat} (hlt : g < wc.heap.size) (hne : some g ≠ r) : w4.heap[g]? = wc.heap[g]? := by
  have h1 := hg.block g (by show g < (wc.alloc o).heap.size; simp; omega) hne
  have h2 := (World.grownBy_alloc wc o none).block g hlt (by simp)
  exact h1.trans h2
theorem far_cell {wc w4 : World} {o : Obj} {r : Option Nat} (hg : (wc.alloc o).drew.grownBy w4 r) {g : Nat} (hlt : g < wc.heap.size) (hne : some g ≠ r) (j : Nat) : w4.cell? ⟨g, j, none⟩ = wc.cell? ⟨g, j, none⟩ ∧ w4.frozen? ⟨g, j, none⟩ = wc.frozen? ⟨g, j, none⟩ :=
  ⟨World.cell?_of_block (far_block hg hlt hne), World.frozen?_of_block (far_block hg hlt hne)⟩
theorem grown_alloc_drew {wc w4 : World} {o : Obj} {r : Option Nat} (hg : (wc.alloc o).drew.grownBy w4 r) : wc.grownBy w4 r := by
  have h : wc.grownBy (wc.alloc o) r := World.grownBy_alloc wc o r
  exact ⟨hg.os.trans h.os, hg.tape.trans h.tape, hg.output.trans h.output, Nat.le_trans h.size hg.size, fun k hk hne => (hg.block k (Nat.lt_of_lt_of_le hk h.size) hne).trans (h.block k hk hne)⟩
theorem open_false {at_ : Int} {init : List Hk} {c : Option Hk} (h : needH at_ c = false) : ∃ c0, c = some c0 ∧ openH at_ init c = (init, c0) := by
  cases c with
  | none => cases h
  | some c0 =>
    have he : c0.1 + c0.2.1 = at_ := by simpa [needH] using h
    exact ⟨c0, rfl, by simp [openH, he]⟩
theorem open_true {at_ : Int} {init : List Hk} {c : Option Hk} (h : needH at_ c = true) : openH at_ init c = (init ++ c.toList, (at_, 0, [])) := by
  cases c with
  | none => simp [openH]
  | some c0 =>
    have he : c0.1 + c0.2.1 ≠ at_ := by simpa [needH] using h
    simp [openH, he]

theorem hunksGo_step {ahead : Int} {b : List ByteArray} {l : List St} {k : Nat} {s : St} {init init' : List Hk} {c : Option Hk} {c' : Hk} (hs : l[k]? = some s) (ho : openH (ahead + s.1) init c = (init', c')) :
    hunksGo ahead b (l.drop k) init c = hunksGo ahead b (l.drop (k + 1)) init' (some (addH b s c')) := by
  obtain ⟨hk, rfl⟩ := List.getElem?_eq_some_iff.1 hs
  rw [List.drop_eq_getElem_cons hk, hunksGo, ho]

section
variable {w w1 : World} {B : Nat} {v v1 : Value} {hs init : List Hk} {ps ips : List Value} {c : Hk} {p : Value}

theorem HRow.nil (w : World) (B : Nat) : HRow w B (.slice none 0 0) [] [] := ⟨rfl, World.ownsRow_nil _ _ _ _, fun i h p hh => by simp at hh, fun i j p q hp => by simp at hp⟩

theorem HRow.put_far (h : HRow w B v hs ps) {i : Nat} {x : Hk} {q : Value} (h1 : hs[i]? = some x) (h2 : ps[i]? = some q) : q.ownBlock = none ∨ q.ownBlock ≠ v.ownBlock :=
  own_type_ne (h.puts i x q h1 h2) h.row (by decide)

/-- New blocks, and writes to a row that is none of these. -/
theorem HRow.alloc (h : HRow w B v hs ps) (o : Obj) : HRow (w.alloc o) B v hs ps := ⟨h.len, h.row.alloc o, fun i x q h1 h2 => (h.puts i x q h1 h2).alloc o, h.apart⟩
theorem HRow.drewN (h : HRow w B v hs ps) (n : Nat) : HRow (w.drewN n) B v hs ps := ⟨h.len, h.row, h.puts, h.apart⟩

theorem HRow.weaken (h : HRow w B v hs ps) {B' : Nat} (hb : B' ≤ B) : HRow w B' v hs ps := ⟨h.len, own_weaken h.row hb, fun i x q h1 h2 => own_weaken (h.puts i x q h1 h2) hb, h.apart⟩
/-- One hunk, written out. -/
theorem HRow.one (w : World) (at_ cut : Int) {p : Value} {l : List ByteArray} {B : Nat} (h : w.ownsRow B 9 1 p l.length (lines l)) (hb : B ≤ w.heap.size) :
    HRow (w.alloc (.cells #[.int .i64 at_, .int .i64 cut, p] 26)) B (.slice (some ⟨w.heap.size, 0, none⟩) 1 1) [(at_, cut, l)] [p] := by
  refine ⟨rfl, World.ownsRow_lit w #[.int .i64 at_, .int .i64 cut, p] 1 hb (by simp [maxLen]) (by simp), fun i x q h1 h2 => ?_, fun i j q r h1 h2 hne => ?_⟩
  · cases i with
    | zero =>
      obtain rfl : (at_, cut, l) = x := by simpa using h1
      obtain rfl : p = q := by simpa using h2
      exact h.alloc _
    | succ i => simp at h1
  · cases i with
    | zero =>
      cases j with
      | zero => exact absurd rfl hne
      | succ j => simp at h2
    | succ i => simp at h1

/-- A hunk more. -/
theorem HRow.push (h : HRow w B v hs ps) (at_ : Int) (hg : w.grownBy w1 v.ownBlock) (hr : w1.ownsRow B 26 3 v1 (hs.length + 1) (hflat hs ps ++ [.int .i64 at_, .int .i64 0, .slice none 0 0])) :
    HRow w1 B v1 (hs ++ [(at_, 0, [])]) (ps ++ [.slice none 0 0]) := by
  refine ⟨by simp [h.len], ?_, fun i x q h1 h2 => ?_, fun i j q r h1 h2 hne => ?_⟩
  · rw [hflat_snoc _ _ _ _ h.len, List.length_append]
    exact hr
  · rcases Nat.lt_or_ge i hs.length with hi | hi
    · rw [List.getElem?_append_left hi] at h1
      rw [List.getElem?_append_left (by rw [h.len]; exact hi)] at h2
      exact (h.puts i x q h1 h2).kept hg (h.put_far h1 h2)
    · have hi' : i = hs.length := by
        have := (List.getElem?_eq_some_iff.1 h1).1
        simp at this
        omega
      subst hi'
      obtain rfl : (at_, 0, []) = x := by simpa using h1
      obtain rfl : Value.slice none 0 0 = q := by
        rw [← h.len] at h2
        simpa using h2
      exact World.ownsRow_nil _ _ _ _
  · rcases Nat.lt_or_ge i ps.length with hi | hi
    · rw [List.getElem?_append_left hi] at h1
      rcases Nat.lt_or_ge j ps.length with hj | hj
      · rw [List.getElem?_append_left hj] at h2
        exact h.apart i j q r h1 h2 hne
      · have hj' : j = ps.length := by
          have := (List.getElem?_eq_some_iff.1 h2).1
          simp at this
          omega
        subst hj'
        obtain rfl : Value.slice none 0 0 = r := by simpa using h2
        cases hq : q.ownBlock with
        | none => exact .inl rfl
        | some k => exact .inr (by simp [Value.ownBlock])
    · have hi' : i = ps.length := by
        have := (List.getElem?_eq_some_iff.1 h1).1
        simp at this
        omega
      subst hi'
      obtain rfl : Value.slice none 0 0 = q := by simpa using h1
      exact .inl rfl

/-- The last hunk's cells. -/
theorem HRow.last (h : HRow w B v (init ++ [c]) (ips ++ [p])) : ∃ g cap, v = .slice (some ⟨g, 0, none⟩) (init.length + 1) cap ∧ B ≤ g ∧ g < w.heap.size ∧
    w.cell? ⟨g, init.length * 3, none⟩ = some (.int .i64 c.1) ∧ w.cell? ⟨g, init.length * 3 + 1, none⟩ = some (.int .i64 c.2.1) ∧ w.cell? ⟨g, init.length * 3 + 2, none⟩ = some p ∧
    ∀ j, w.frozen? ⟨g, j, none⟩ = false := by
  have hlen : ips.length = init.length := by have := h.len; simpa using this
  have hrow := h.row
  obtain ⟨g, cap, hv, hB, hg⟩ := World.ownsRow.form hrow (by simp)
  subst hv
  have hl : (hflat init ips).length = init.length * 3 := hflat_length _ _ hlen
  rw [hflat_snoc _ _ _ _ hlen] at hrow
  refine ⟨g, cap, by simp, hB, hg, ?_, ?_, ?_, fun j => hrow.frozenAt j⟩
  · rw [hrow.cellAt (init.length * 3) (by simp <;> omega), List.getElem?_append_right (by omega), hl]
    simp
  · rw [hrow.cellAt (init.length * 3 + 1) (by simp <;> omega), List.getElem?_append_right (by omega), hl]
    simp
  · rw [hrow.cellAt (init.length * 3 + 2) (by simp <;> omega), List.getElem?_append_right (by omega), hl]
    simp

/-- The rows of lines of a row of hunks that isn't empty. -/
theorem HRow.parts (h : HRow w B v (init ++ [c]) ps) : ∃ ips p, ps = ips ++ [p] := by
  have hl := h.len
  rw [List.length_append] at hl
  rcases List.eq_nil_or_concat ps with e | ⟨ips, p, e⟩
  · rw [e] at hl; simp at hl
  · exact ⟨ips, p, by simpa using e⟩

/-- Its number of lines that are cut is stored anew. -/
theorem HRow.cut (h : HRow w B v (init ++ [c]) (ips ++ [p])) {g cap : Nat} (hv : v = .slice (some ⟨g, 0, none⟩) (init.length + 1) cap) (n : Int) :
    HRow (w.setCell ⟨g, init.length * 3 + 1, none⟩ (.int .i64 n)) B v (init ++ [(c.1, n, c.2.2)]) (ips ++ [p]) := by
  have hlen : ips.length = init.length := by have := h.len; simpa using this
  have hl : (hflat init ips).length = init.length * 3 := hflat_length _ _ hlen
  subst hv
  have hrow := h.row
  rw [hflat_snoc _ _ _ _ hlen, List.length_append] at hrow
  obtain ⟨hs1, hg1⟩ := hrow.stored (init.length * 3 + 1) (.int .i64 n)
  refine ⟨by simp [hlen], ?_, fun i x q h1 h2 => ?_, h.apart⟩
  · rw [hflat_snoc _ _ _ _ hlen, List.length_append]
    rw [List.set_append_right _ _ (by omega), hl] at hs1
    simpa using hs1
  · have hx : ∃ y, (init ++ [c])[i]? = some y ∧ y.2.2 = x.2.2 := by
      rcases Nat.lt_or_ge i init.length with hi | hi
      · rw [List.getElem?_append_left hi] at h1
        exact ⟨x, by rw [List.getElem?_append_left hi]; exact h1, rfl⟩
      · have hi' : i = init.length := by
          have := (List.getElem?_eq_some_iff.1 h1).1
          simp at this
          omega
        subst hi'
        obtain rfl : (c.1, n, c.2.2) = x := by simpa using h1
        exact ⟨c, by simp, rfl⟩
    obtain ⟨y, hy, he⟩ := hx
    have := (h.puts i y q hy h2).kept hg1 (h.put_far hy h2)
    rwa [he] at this

/-- A line has been put behind its lines, and the new row is stored. -/
theorem HRow.add (h : HRow w B v (init ++ [c]) (ips ++ [p])) {g cap : Nat} (hv : v = .slice (some ⟨g, 0, none⟩) (init.length + 1) cap) {q : Value} {s : ByteArray} (hg : w.grownBy w1 p.ownBlock)
    (hr : w1.ownsRow B 9 1 q (c.2.2.length + 1) (lines c.2.2 ++ [.string s])) (hat : q.ownBlock = p.ownBlock ∨ ∃ k, q.ownBlock = some k ∧ w.heap.size ≤ k) :
    HRow (w1.setCell ⟨g, init.length * 3 + 2, none⟩ q) B v (init ++ [(c.1, c.2.1, c.2.2 ++ [s])]) (ips ++ [q]) := by
  have hlen : ips.length = init.length := by have := h.len; simpa using this
  have hl : (hflat init ips).length = init.length * 3 := hflat_length _ _ hlen
  subst hv
  have hpl : (init ++ [c])[init.length]? = some c := by simp
  have hpq : (ips ++ [p])[init.length]? = some p := by rw [← hlen]; simp
  have hpv := h.put_far hpl hpq
  have hrow := h.row
  rw [hflat_snoc _ _ _ _ hlen, List.length_append] at hrow
  have hrow1 := hrow.kept hg (by
    rcases hpv with hh | hh
    · rw [hh]; exact .inr (by simp [Value.ownBlock])
    · exact .inr (fun e => hh e.symm))
  obtain ⟨hs1, hg1⟩ := hrow1.stored (init.length * 3 + 2) q
  have hqv : q.ownBlock = none ∨ q.ownBlock ≠ (Value.slice (some ⟨g, 0, none⟩) (init.length + 1) cap).ownBlock := own_type_ne hr hrow1 (by decide)
  have far : ∀ (i : Nat) (x : Hk) (r : Value), i < init.length → init[i]? = some x → ips[i]? = some r → (w1.setCell ⟨g, init.length * 3 + 2, none⟩ q).ownsRow B 9 1 r x.2.2.length (lines x.2.2) ∧ (r.ownBlock = none ∨ r.ownBlock ≠ q.ownBlock) := by
    intro i x r hi h1 h2
    have h1' : (init ++ [c])[i]? = some x := by rw [List.getElem?_append_left hi]; exact h1
    have h2' : (ips ++ [p])[i]? = some r := by rw [List.getElem?_append_left (by omega)]; exact h2
    have hp0 := h.puts i x r h1' h2'
    have hne := h.apart i init.length r p h2' hpq (by omega)
    have hp1 := hp0.kept hg hne
    refine ⟨hp1.kept hg1 (own_type_ne hp1 hrow1 (by decide)), ?_⟩
    rcases hat with e | ⟨k, e, hk⟩
    · rw [e]; exact hne
    · cases hq : r.ownBlock with
      | none => exact .inl rfl
      | some k' =>
        have := (hp0.lt k' hq).2
        exact .inr (by rw [e]; intro ee; injection ee with ee; omega)
  refine ⟨by simp [hlen], ?_, fun i x r h1 h2 => ?_, fun i j r r' h1 h2 hne => ?_⟩
  · rw [hflat_snoc _ _ _ _ hlen, List.length_append]
    rw [List.set_append_right _ _ (by omega), hl] at hs1
    simpa using hs1
  · rcases Nat.lt_or_ge i init.length with hi | hi
    · rw [List.getElem?_append_left hi] at h1
      rw [List.getElem?_append_left (by omega)] at h2
      exact (far i x r hi h1 h2).1
    · have hi' : i = init.length := by
        have := (List.getElem?_eq_some_iff.1 h1).1
        simp at this
        omega
      subst hi'
      obtain rfl : (c.1, c.2.1, c.2.2 ++ [s]) = x := by simpa using h1
      obtain rfl : q = r := by
        rw [← hlen] at h2
        simpa using h2
      have := hr.kept hg1 hqv
      simpa [lines] using this
  · rcases Nat.lt_or_ge i init.length with hi | hi
    · rw [List.getElem?_append_left (by omega)] at h1
      have hx : ∃ x, init[i]? = some x := ⟨_, List.getElem?_eq_getElem hi⟩
      obtain ⟨x, hx⟩ := hx
      rcases Nat.lt_or_ge j init.length with hj | hj
      · rw [List.getElem?_append_left (by omega)] at h2
        exact h.apart i j r r' (by rw [List.getElem?_append_left (by omega)]; exact h1) (by rw [List.getElem?_append_left (by omega)]; exact h2) hne
      · have hj' : j = ips.length := by
          have := (List.getElem?_eq_some_iff.1 h2).1
          simp at this
          omega
        subst hj'
        obtain rfl : q = r' := by simpa using h2
        exact (far i x r hi hx h1).2
    · have hi' : i = ips.length := by
        have := (List.getElem?_eq_some_iff.1 h1).1
        simp at this
        omega
      subst hi'
      obtain rfl : q = r := by simpa using h1
      rcases Nat.lt_or_ge j init.length with hj | hj
      · rw [List.getElem?_append_left (by omega)] at h2
        have hx : ∃ x, init[j]? = some x := ⟨_, List.getElem?_eq_getElem hj⟩
        obtain ⟨x, hx⟩ := hx
        rcases (far j x r' hj hx h2).2 with e | e
        · cases hq : q.ownBlock with
          | none => exact .inl rfl
          | some k => exact .inr (by rw [e]; simp)
        · exact .inr (fun e' => e e'.symm)
      · have := (List.getElem?_eq_some_iff.1 h2).1
        simp at this
        omega
end
end Go.Proofs.YtkjjjkjgendnfaaDoorR
