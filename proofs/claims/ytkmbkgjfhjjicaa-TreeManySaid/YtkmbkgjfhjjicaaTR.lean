/- Tree: rows of items. -/
import Derived.Test.YtkmbkgjfhjjicaaTE
namespace Go.Proofs.YtkmbkgjfhjjicaaT
open Go.RowKit Go.Maps Go.Proofs Go.Proofs.YtkmbkgjfhjjicaaW.PrintWords Go.Proofs.YtkmbkgjfhjjicaaW.PrintLast

theorem infoI : (Try.prog.info? 53).map (fun i => (i.zero, i.size, i.bytes)) = some (some (.agg #[.string ⟨#[]⟩, .string ⟨#[]⟩, .int .i64 0]), 3, 40) := by kernel_rfl
theorem info_item : ∃ i, Try.prog.info? 53 = some i ∧ i.zero = some (.agg #[.string ⟨#[]⟩, .string ⟨#[]⟩, .int .i64 0]) ∧ i.size = 3 ∧ i.bytes = 40 := by
  obtain ⟨i, hi, h⟩ := Option.map_eq_some_iff.1 infoI
  exact ⟨i, hi, congrArg Prod.fst h, congrArg (fun p => p.2.1) h, congrArg (fun p => p.2.2) h⟩
theorem flat_one (l : List It) : ∀ u ∈ flat l, u.oneCell' = true := by
  intro u hu
  simp only [flat, List.mem_flatMap] at hu
  obtain ⟨x, _, hx⟩ := hu
  simp only [cellsI, List.mem_cons, List.not_mem_nil, or_false] at hx
  rcases hx with rfl | rfl | rfl <;> rfl
theorem RowI.run_append {w : World} {B : Nat} {v : Value} {l : List It} (h : RowI w B v l) (l2 : List It) (a : Addr) (c : Nat) (hnews : ∀ j u, (flat l2)[j]? = some u → w.cell? (a.add j) = some u) (hl : l.length + l2.length ≤ 1000000) (hB : B ≤ w.heap.size) (ty : TypeId) :
    ∃ v' w', (Builtin.append_ #[54, 54] ty #[v, .slice (some a) l2.length c]).run Try.prog w = .ok v' w' ∧ RowI w' B v' (l ++ l2) ∧ w.grownBy w' v.ownBlock := by
  obtain ⟨i, hi, h1, h2, h3⟩ := info_item
  obtain ⟨v', w', hr, ho, hgr, _⟩ := run_append_own (P := Try.prog) w B 54 ty 53 i _ 3 40 Try.underlying54 hi h1 h2 h3 rfl (by decide) v l.length (flat l) h a l2.length c (flat l2) (flat_len l2) hnews (flat_one l2) (by unfold maxLen; omega) (by omega) hB
  refine ⟨v', w', hr, ?_, hgr⟩
  unfold RowI
  rw [List.length_append, flat_append]
  exact ho
theorem RowI.keep {w w' : World} {B : Nat} {v : Value} {l : List It} (h : RowI w B v l) (hb : Below w.heap.size w w') : RowI w' B v l := by
  obtain ⟨h1, h2⟩ := h
  refine ⟨h1, ?_⟩
  rcases h2 with h2 | ⟨g, cap, cur, rfl, hg, hh, r⟩
  · exact .inl h2
  · exact .inr ⟨g, cap, cur, rfl, hg, (hb.block g (Array.getElem?_eq_some_iff.1 hh).1).trans hh, r⟩
theorem row_keep {w w' : World} {B : Nat} {v : Value} {l : List It} (h : RowI w B v l) (hk : ∀ k, v.ownBlock = some k → w'.heap[k]? = w.heap[k]?) : RowI w' B v l := by
  obtain ⟨h1, h2⟩ := h
  refine ⟨h1, ?_⟩
  rcases h2 with h2 | ⟨g, cap, cur, rfl, hg, hh, r⟩
  · exact .inl h2
  · exact .inr ⟨g, cap, cur, rfl, hg, (hk g rfl).trans hh, r⟩
theorem Keep.blk {w w' : World} {gs g : Nat} {o : Obj} (h : Keep w w' (fun j => j ≠ gs)) (ho : w.heap[g]? = some o) (hne : g ≠ gs) : w'.heap[g]? = some o := h.heap ho hne
theorem Keep.row {w w' : World} {gs B : Nat} {v : Value} {l : List It} (h : Keep w w' (fun j => j ≠ gs)) (ho : RowI w B v l) {cs : Array Value} {t : TypeId} (hg : w.heap[gs]? = some (.cells cs t (0, 0))) (ht : 53 ≠ t) : RowI w' B v l := by
  have hne := own_ne ho hg ht
  exact row_keep ho (fun k hk => h.block k (World.ownsRow.lt ho k hk).2 (fun e => hne (by rw [← e, hk])))
/-- A row's value: how it is cut, and its items. -/
theorem RowI.reads {w : World} {B : Nat} {v : Value} {l : List It} (h : RowI w B v l) : ∃ A c, v = .slice A l.length c ∧ l.length ≤ c ∧ ItsAt w A l := by
  obtain ⟨h1, ⟨rfl, h2⟩ | ⟨g, cap, cur, rfl, hg, hh, hn, hm, hs, ht⟩⟩ := h
  · exact ⟨none, 0, by rw [h2], by omega, fun h0 => absurd (List.eq_nil_of_length_eq_zero h2) h0⟩
  · refine ⟨_, cap, rfl, hn, fun _ => ⟨⟨g, 0, none⟩, rfl, rfl, fun j u hu => ?_⟩⟩
    rw [← ht] at hu
    have hj : j < l.length * 3 := by
      have := (List.getElem?_eq_some_iff.1 hu).1
      rw [List.length_take] at this
      omega
    rw [List.getElem?_take_of_lt hj, Array.getElem?_toList] at hu
    rw [Nat.zero_add]
    exact (blk_cell hh j).trans hu
theorem RowI.base {w : World} {B B' : Nat} {v : Value} {l : List It} (h : RowI w B v l) (hB : B' ≤ B) : RowI w B' v l := by
  obtain ⟨h1, h2⟩ := h
  refine ⟨h1, ?_⟩
  rcases h2 with h2 | ⟨g, cap, cur, rfl, hg, hh, r⟩
  · exact .inl h2
  · exact .inr ⟨g, cap, cur, rfl, Nat.le_trans hB hg, hh, r⟩
theorem RowI.val {w : World} {B : Nat} {v : Value} {l : List It} (h : RowI w B v l) : ∃ A n c, v = .slice A n c := by
  obtain ⟨A, c, hv, _⟩ := h.reads
  exact ⟨A, _, c, hv⟩
theorem grown_belowI {w0 w w' : World} {B : Nat} {v : Value} {l : List It} (h : RowI w B v l) (hb : Below B w0 w) (hB : B ≤ w.heap.size) (hg : w.grownBy w' v.ownBlock) : Below B w0 w' := by
  refine hb.trans ⟨hg.os, hg.tape, hg.output, hg.size, fun k hk => hg.block k (Nat.lt_of_lt_of_le hk hB) (fun e => ?_)⟩
  have := World.ownsRow.lt h k e.symm
  omega
#print axioms RowI.reads
#print axioms RowI.run_append
end Go.Proofs.YtkmbkgjfhjjicaaT
