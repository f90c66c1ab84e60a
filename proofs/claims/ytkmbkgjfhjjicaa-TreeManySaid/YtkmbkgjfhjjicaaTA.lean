/- Tree: rows of pairs. -/
import Derived.Test.YtkmbkgjfhjjicaaTU
namespace Go.Proofs.YtkmbkgjfhjjicaaT
open Go.RowKit Go.Maps Go.Proofs Go.Proofs.YtkmbkgjfhjjicaaW.PrintWords Go.Proofs.YtkmbkgjfhjjicaaW.PrintLast

abbrev Pr := ByteArray × ByteArray
def cellsP (x : Pr) : List Value := [.string x.1, .string x.2]
def flatP (l : List Pr) : List Value := l.flatMap cellsP
def RowP (w : World) (B : Nat) (v : Value) (l : List Pr) : Prop := w.ownsRow B 38 2 v l.length (flatP l)
def PrsAt (w : World) (A : Option Addr) (l : List Pr) : Prop := l ≠ [] → ∃ ad, A = some ad ∧ ad.spot = none ∧ ∀ j u, (flatP l)[j]? = some u → w.cell? ⟨ad.block, ad.off + j, none⟩ = some u
theorem flatP_append (a b : List Pr) : flatP (a ++ b) = flatP a ++ flatP b := by unfold flatP; rw [List.flatMap_append]
theorem flatP_cons (x : Pr) (l : List Pr) : flatP (x :: l) = .string x.1 :: .string x.2 :: flatP l := rfl
theorem flatP_len : ∀ l : List Pr, (flatP l).length = l.length * 2
  | [] => rfl
  | x :: l => by rw [flatP_cons, List.length_cons, List.length_cons, List.length_cons, flatP_len l]; omega
theorem flatP_one (l : List Pr) : ∀ u ∈ flatP l, u.oneCell' = true := by
  intro u hu
  simp only [flatP, List.mem_flatMap] at hu
  obtain ⟨x, _, hx⟩ := hu
  simp only [cellsP, List.mem_cons, List.not_mem_nil, or_false] at hx
  rcases hx with rfl | rfl <;> rfl
theorem infoP : (Try.prog.info? 38).map (fun i => (i.zero, i.size, i.bytes)) = some (some (.agg #[.string ⟨#[]⟩, .string ⟨#[]⟩]), 2, 32) := by kernel_rfl
theorem info_pair : ∃ i, Try.prog.info? 38 = some i ∧ i.zero = some (.agg #[.string ⟨#[]⟩, .string ⟨#[]⟩]) ∧ i.size = 2 ∧ i.bytes = 32 := by
  obtain ⟨i, hi, h⟩ := Option.map_eq_some_iff.1 infoP
  exact ⟨i, hi, congrArg Prod.fst h, congrArg (fun p => p.2.1) h, congrArg (fun p => p.2.2) h⟩
theorem RowP.run_append {w : World} {B : Nat} {v : Value} {l : List Pr} (h : RowP w B v l) (l2 : List Pr) (a : Addr) (c : Nat) (hnews : ∀ j u, (flatP l2)[j]? = some u → w.cell? (a.add j) = some u) (hl : l.length + l2.length ≤ 1000000) (hB : B ≤ w.heap.size) (ty : TypeId) :
    ∃ v' w', (Builtin.append_ #[34, 34] ty #[v, .slice (some a) l2.length c]).run Try.prog w = .ok v' w' ∧ RowP w' B v' (l ++ l2) ∧ w.grownBy w' v.ownBlock := by
  obtain ⟨i, hi, h1, h2, h3⟩ := info_pair
  obtain ⟨v', w', hr, ho, hgr, _⟩ := run_append_own (P := Try.prog) w B 34 ty 38 i _ 2 32 Try.underlying34 hi h1 h2 h3 rfl (by decide) v l.length (flatP l) h a l2.length c (flatP l2) (flatP_len l2) hnews (flatP_one l2) (by unfold maxLen; omega) (by omega) hB
  refine ⟨v', w', hr, ?_, hgr⟩
  unfold RowP
  rw [List.length_append, flatP_append]
  exact ho
theorem rowP_keep {w w' : World} {B : Nat} {v : Value} {l : List Pr} (h : RowP w B v l) (hk : ∀ k, v.ownBlock = some k → w'.heap[k]? = w.heap[k]?) : RowP w' B v l := by
  obtain ⟨h1, h2⟩ := h
  refine ⟨h1, ?_⟩
  rcases h2 with h2 | ⟨g, cap, cur, rfl, hg, hh, r⟩
  · exact .inl h2
  · exact .inr ⟨g, cap, cur, rfl, hg, (hk g rfl).trans hh, r⟩
theorem rowP_lt {w : World} {B : Nat} {v : Value} {l : List Pr} (h : RowP w B v l) {k : Nat} (hk : v.ownBlock = some k) : B ≤ k ∧ k < w.heap.size := World.ownsRow.lt h k hk
theorem RowP.keep {w w' : World} {B : Nat} {v : Value} {l : List Pr} (h : RowP w B v l) (hb : Below w.heap.size w w') : RowP w' B v l := rowP_keep h (fun k hk => hb.block k (rowP_lt h hk).2)
theorem RowP.base {w : World} {B B' : Nat} {v : Value} {l : List Pr} (h : RowP w B v l) (hB : B' ≤ B) : RowP w B' v l := by
  obtain ⟨h1, h2⟩ := h
  refine ⟨h1, ?_⟩
  rcases h2 with h2 | ⟨g, cap, cur, rfl, hg, hh, r⟩
  · exact .inl h2
  · exact .inr ⟨g, cap, cur, rfl, Nat.le_trans hB hg, hh, r⟩
theorem RowP.reads {w : World} {B : Nat} {v : Value} {l : List Pr} (h : RowP w B v l) : ∃ A c, v = .slice A l.length c ∧ l.length ≤ c ∧ PrsAt w A l := by
  obtain ⟨h1, ⟨rfl, h2⟩ | ⟨g, cap, cur, rfl, hg, hh, hn, hm, hs, ht⟩⟩ := h
  · exact ⟨none, 0, by rw [h2], by omega, fun h0 => absurd (List.eq_nil_of_length_eq_zero h2) h0⟩
  · refine ⟨_, cap, rfl, hn, fun _ => ⟨⟨g, 0, none⟩, rfl, rfl, fun j u hu => ?_⟩⟩
    rw [← ht] at hu
    have hj : j < l.length * 2 := by
      have := (List.getElem?_eq_some_iff.1 hu).1
      rw [List.length_take] at this
      omega
    rw [List.getElem?_take_of_lt hj, Array.getElem?_toList] at hu
    rw [Nat.zero_add]
    exact (blk_cell hh j).trans hu
theorem RowP.nil (w : World) (B : Nat) : RowP w B (.slice none 0 0) [] := World.ownsRow_nil _ _ _ _
theorem rowP_ne {w : World} {B g : Nat} {v : Value} {l : List Pr} (h : RowP w B v l) {cs : Array Value} {t : TypeId} {fr : Nat × Nat} (hg : w.heap[g]? = some (.cells cs t fr)) (ht : 38 ≠ t) : v.ownBlock ≠ some g := by
  obtain ⟨h1, ⟨rfl, h2⟩ | ⟨g', cap, cur, rfl, hg', hh, r⟩⟩ := h
  · exact fun e => by cases e
  · intro e
    obtain rfl : g' = g := Option.some.inj e
    rw [hh] at hg
    injection hg with hg
    injection hg with _ h3 _
    exact ht h3
/-- All blocks but rows of pairs are as they were. -/
structure KeepP (w w' : World) : Prop where
  os : w'.os = w.os
  tape : w'.tape = w.tape
  output : w'.output = w.output
  size : w.heap.size ≤ w'.heap.size
  block : ∀ (k : Nat) (cs : Array Value) (t : TypeId) (fr : Nat × Nat), w.heap[k]? = some (Obj.cells cs t fr) → 38 ≠ t → w'.heap[k]? = some (Obj.cells cs t fr)
theorem KeepP.refl (w : World) : KeepP w w := ⟨rfl, rfl, rfl, Nat.le_refl _, fun _ _ _ _ h _ => h⟩
theorem KeepP.trans {a b c : World} (h : KeepP a b) (h' : KeepP b c) : KeepP a c := ⟨h'.os.trans h.os, h'.tape.trans h.tape, h'.output.trans h.output, Nat.le_trans h.size h'.size, fun k cs t fr hk ht => h'.block k cs t fr (h.block k cs t fr hk ht) ht⟩
theorem KeepP.of_below {w w' : World} (h : Below w.heap.size w w') : KeepP w w' := ⟨h.os, h.tape, h.output, h.size, fun k cs t fr hk _ => (h.block k (Array.getElem?_eq_some_iff.1 hk).1).trans hk⟩
theorem KeepP.of_grown {w w' : World} {B : Nat} {v : Value} {l : List Pr} (hr : RowP w B v l) (h : w.grownBy w' v.ownBlock) : KeepP w w' := ⟨h.os, h.tape, h.output, h.size, fun k cs t fr hk ht => (h.block k (Array.getElem?_eq_some_iff.1 hk).1 (fun e => rowP_ne hr hk ht e.symm)).trans hk⟩
theorem RowI.keepP {w w' : World} {B : Nat} {v : Value} {l : List It} (h : RowI w B v l) (hk : KeepP w w') : RowI w' B v l := by
  obtain ⟨h1, h2⟩ := h
  refine ⟨h1, ?_⟩
  rcases h2 with h2 | ⟨g, cap, cur, rfl, hg, hh, r⟩
  · exact .inl h2
  · exact .inr ⟨g, cap, cur, rfl, hg, hk.block _ _ _ _ hh (by decide), r⟩
theorem grown_belowP {w0 w w' : World} {B : Nat} {v : Value} {l : List Pr} (h : RowP w B v l) (hb : Below B w0 w) (hB : B ≤ w.heap.size) (hg : w.grownBy w' v.ownBlock) : Below B w0 w' := by
  refine hb.trans ⟨hg.os, hg.tape, hg.output, hg.size, fun k hk => hg.block k (Nat.lt_of_lt_of_le hk hB) (fun e => ?_)⟩
  have := rowP_lt h e.symm
  omega
/-! ### walk, item by item -/
def walkI (k : Nat) (S : Pg) (leaf : Bool) (limit : Nat) : List It → List Pr → Option (List Pr)
  | [], l => some l
  | x :: xs, l => (if limit ≤ l.length then some l else if leaf then some (l ++ [(x.key, x.val)]) else walkF k S x.child limit l).bind (walkI k S leaf limit xs)
theorem walkI_eq {k : Nat} {S : Pg} {leaf : Bool} {limit : Nat} : ∀ (xs : List It) (l : List Pr), xs.foldlM (fun l x => if limit ≤ l.length then some l else if leaf then some (l ++ [(x.key, x.val)]) else walkF k S x.child limit l) l = walkI k S leaf limit xs l
  | [], l => rfl
  | x :: xs, l => by
    rw [List.foldlM_cons, walkI]
    show Option.bind _ _ = Option.bind _ _
    congr 1
    funext l2
    exact walkI_eq xs l2
theorem walkI_full {k : Nat} {S : Pg} {leaf : Bool} {limit : Nat} : ∀ {xs : List It} {l l' : List Pr}, walkI k S leaf limit xs l = some l' → limit ≤ l.length → l' = l
  | [], l, l', h, _ => by rw [walkI] at h; exact (Option.some.inj h).symm
  | x :: xs, l, l', h, hl => by
    rw [walkI, if_pos hl] at h
    exact walkI_full h hl
theorem walk_cases {k : Nat} {S : Pg} {p limit : Nat} {l l' : List Pr} (h : walkF (k + 1) S p limit l = some l') :
    ∃ leaf items, S.f p = some (some ⟨leaf, items⟩) ∧ okN ⟨leaf, items⟩ = true ∧ walkI k S leaf limit items l = some l' := by
  rw [walkF] at h
  obtain ⟨⟨leaf, items⟩, hg, h⟩ := Option.bind_eq_some_iff.1 h
  obtain ⟨h1, h2⟩ := get_spec hg
  refine ⟨leaf, items, h1, h2, ?_⟩
  rw [← walkI_eq]
  exact h
theorem walkI_next {k : Nat} {S : Pg} {leaf : Bool} {limit : Nat} {items : List It} {i : Nat} {x : It} {l l' : List Pr} (h : walkI k S leaf limit (items.drop i) l = some l') (hx : items[i]? = some x) (hl : ¬ limit ≤ l.length) :
    (leaf = true ∧ walkI k S leaf limit (items.drop (i + 1)) (l ++ [(x.key, x.val)]) = some l') ∨ (leaf = false ∧ ∃ l2, walkF k S x.child limit l = some l2 ∧ walkI k S leaf limit (items.drop (i + 1)) l2 = some l') := by
  obtain ⟨hi, hx2⟩ := List.getElem?_eq_some_iff.1 hx
  rw [List.drop_eq_getElem_cons hi, hx2, walkI, if_neg hl] at h
  cases leaf
  · rw [if_neg Bool.false_ne_true] at h
    obtain ⟨l2, h1, h2⟩ := Option.bind_eq_some_iff.1 h
    exact .inr ⟨rfl, l2, h1, h2⟩
  · rw [if_pos rfl] at h
    exact .inl ⟨rfl, h⟩
#print axioms walkI_next
end Go.Proofs.YtkmbkgjfhjjicaaT
