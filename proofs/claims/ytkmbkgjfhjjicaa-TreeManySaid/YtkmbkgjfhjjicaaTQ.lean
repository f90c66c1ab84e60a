/- Tree: plain laws of save, and what is kept where. -/
import Derived.Test.YtkmbkgjfhjjicaaTI
import Derived.Laws.OwnMore
namespace Go.Proofs.YtkmbkgjfhjjicaaT
open Go.RowKit Go.Maps Go.Proofs Go.Proofs.YtkmbkgjfhjjicaaW.PrintWords Go.Proofs.YtkmbkgjfhjjicaaW.PrintLast

theorem Pg.new_F (S : Pg) : S.new.F = updM S.F ((S.nx + 1 : Nat) : Int) (some ⟨#[]⟩) := by
  funext k
  by_cases h : 0 ≤ k
  · simp only [Pg.F, updM, Pg.new, h, if_true]
    by_cases e : k = ((S.nx + 1 : Nat) : Int)
    · rw [if_pos e, e]
      simp [bytesP]
    · rw [if_neg e, if_neg (by omega)]
  · simp only [Pg.F, updM, h, if_false]
    rw [if_neg (by omega)]
theorem Pg.set_F (S : Pg) (p : Nat) (n : Nd) : (S.set p n).F = updM S.F (p : Int) (some (bytesP (some n))) := by
  funext k
  by_cases h : 0 ≤ k
  · simp only [Pg.F, updM, Pg.set, h, if_true]
    by_cases e : k = (p : Int)
    · rw [if_pos e, e]
      simp [bytesP]
    · rw [if_neg e, if_neg (by omega)]
  · simp only [Pg.F, updM, h, if_false]
    rw [if_neg (by omega)]
theorem Pg.cut_F (S : Pg) (p : Nat) : (S.cut p).F = updM S.F (p : Int) none := by
  funext k
  by_cases h : 0 ≤ k
  · simp only [Pg.F, updM, Pg.cut, h, if_true]
    by_cases e : k = (p : Int)
    · rw [if_pos e, e]
      simp [bytesP]
    · rw [if_neg e, if_neg (by omega)]
  · simp only [Pg.F, updM, h, if_false]
    rw [if_neg (by omega)]
theorem Pg.at_F {S : Pg} {p : Nat} {x : Option Nd} (h : S.f p = some x) : S.F (p : Int) = some (bytesP x) := by
  unfold Pg.F
  rw [if_pos (by omega), Int.toNat_natCast, h]
  rfl
theorem Pg.put_spec {S S' : Pg} {p : Nat} {n : Nd} (h : S.put p n = some S') : S' = S.set p n ∧ okN n = true ∧ (encN n).length ≤ 512 ∧ ∃ x, S.f p = some x := by
  unfold Pg.put at h
  split at h
  · rename_i hc
    simp only [Bool.and_eq_true, decide_eq_true_eq] at hc
    cases h
    exact ⟨rfl, hc.1.1, hc.1.2, Option.isSome_iff_exists.1 hc.2⟩
  · cases h
/-! ### Where to part -/
theorem partAt_le (n : Nd) : ∀ (l : List Nat) (s : Nat × Nat) (m : Nat), s.1 ≤ m → 1 ≤ s.1 → (∀ x ∈ l, 1 ≤ x ∧ x ≤ m) → 1 ≤ (partAt n l s).1 ∧ (partAt n l s).1 ≤ m
  | [], s, m, h, h1, _ => ⟨h1, h⟩
  | i :: l, s, m, h, h1, hl => by
    rw [partAt]
    split
    · exact partAt_le n l _ m (hl i (by simp)).2 (hl i (by simp)).1 (fun x hx => hl x (by simp [hx]))
    · exact partAt_le n l s m h h1 (fun x hx => hl x (by simp [hx]))
theorem bestAt_in (n : Nd) (h : 2 ≤ n.items.length) : 1 ≤ bestAt n ∧ bestAt n ≤ n.items.length - 1 :=
  partAt_le n _ _ _ (by omega) (Nat.le_refl _) (fun x hx => by rw [List.mem_range'_1] at hx; omega)
theorem part_next (leaf : Bool) (items : List It) {i m a b : Nat} (h : i < m) : partAt ⟨leaf, items⟩ (List.range' i (m - i)) (a, b) = partAt ⟨leaf, items⟩ (List.range' (i + 1) (m - (i + 1))) (if max (encN ⟨leaf, items.take i⟩).length (encN ⟨leaf, items.drop i⟩).length < b then (i, max (encN ⟨leaf, items.take i⟩).length (encN ⟨leaf, items.drop i⟩).length) else (a, b)) := by
  rw [show m - i = (m - (i + 1)) + 1 by omega, List.range'_succ, partAt]
/-! ### save -/
theorem put_all {S S' : Pg} {p : Nat} {n : Nd} (h : S.put p n = some S') : n.items.all (okI n.leaf) = true ∧ 0 < n.items.length := by
  have := (Pg.put_spec h).2.1
  simp only [okN, Bool.and_eq_true, decide_eq_true_eq] at this
  exact ⟨this.1.1.1, this.1.1.2⟩
/-- What a save that ends well says. -/
theorem save_cases {k : Nat} {S S' : Pg} {p : Nat} {n : Nd} {m : List It} (h : saveF (k + 1) S p n = some (S', m)) :
    (fitN n = true ∧ S.put p n = some S' ∧ m = []) ∨
    (fitN n = false ∧ 2 ≤ n.items.length ∧ n.items.length ≤ 1000 ∧ ∃ S1 m1 m2 x, saveF k S p ⟨n.leaf, n.items.take (bestAt n)⟩ = some (S1, m1) ∧ S1.nx ≤ 60000 ∧ saveF k S1.new (S1.nx + 1) ⟨n.leaf, n.items.drop (bestAt n)⟩ = some (S', m2) ∧ n.items[bestAt n]? = some x ∧ m = m1 ++ [⟨x.key, ⟨#[]⟩, S1.nx + 1⟩] ++ m2) := by
  rw [saveF] at h
  cases hf : fitN n with
  | true =>
    rw [hf, if_pos rfl] at h
    obtain ⟨S1, h1, h2⟩ := Option.map_eq_some_iff.1 h
    cases h2
    exact .inl ⟨rfl, h1, rfl⟩
  | false =>
    rw [hf, if_neg (by decide)] at h
    split at h
    · cases h
    · rename_i hc
      refine .inr ⟨rfl, by omega, by omega, ?_⟩
      obtain ⟨⟨S1, m1⟩, h1, h2⟩ := Option.bind_eq_some_iff.1 h
      simp only at h2
      split at h2
      · cases h2
      · rename_i hx
        obtain ⟨⟨S2, m2⟩, h3, h4⟩ := Option.bind_eq_some_iff.1 h2
        simp only at h4
        cases hb : n.items[bestAt n]? with
        | none => rw [hb] at h4; cases h4
        | some x =>
          rw [hb] at h4
          cases h4
          exact ⟨S1, m1, m2, x, h1, by omega, h3, rfl, rfl⟩
theorem save_all : ∀ {k : Nat} {S S' : Pg} {p : Nat} {n : Nd} {m : List It}, saveF k S p n = some (S', m) → n.items.all (okI n.leaf) = true ∧ m.length + 1 ≤ n.items.length ∧ n.items.length ≤ 1000
  | 0, _, _, _, _, _, h => by cases h
  | k + 1, S, S', p, n, m, h => by
    rcases save_cases h with ⟨hf, h1, rfl⟩ | ⟨_, h2, h3, S1, m1, m2, x, h4, _, h5, _, rfl⟩
    · simp only [fitN, Bool.and_eq_true, decide_eq_true_eq] at hf
      exact ⟨(put_all h1).1, (put_all h1).2, by omega⟩
    · have a1 := save_all h4
      have a2 := save_all h5
      simp only [List.length_take, List.length_drop] at a1 a2
      refine ⟨?_, ?_, h3⟩
      · rw [← List.take_append_drop (bestAt n) n.items, List.all_append, Bool.and_eq_true]
        exact ⟨a1.1, a2.1⟩
      · have := bestAt_in n h2
        simp only [List.length_append, List.length_cons, List.length_nil]
        omega
/-! ### What is kept -/
abbrev farP (pp mb : Nat) : Nat → Prop := fun j => j ≠ mb ∧ j ≠ pp
theorem ItsAt.far {w w' : World} {pp mb nx : Nat} {F : Int → Option ByteArray} {A : Option Addr} {l : List It} (h : ItsAt w A l) (hp : PgAt w pp mb nx F) (hk : Keep w w' (farP pp mb)) : ItsAt w' A l := fun h0 => by
  obtain ⟨blk, off, rfl, hit⟩ := h.item h0
  obtain ⟨ad, e, hs, hc⟩ := h h0
  cases e
  refine ⟨_, rfl, rfl, fun j u hu => ?_⟩
  obtain ⟨x, hx⟩ : ∃ x, l[0]? = some x := ⟨_, List.getElem?_eq_getElem (List.length_pos_iff.2 h0)⟩
  have c0 := (hit 0 x hx).1
  have hne : farP pp mb blk := by
    refine ⟨fun e => ?_, fun e => ?_⟩
    · subst e
      obtain ⟨D, ⟨es, cl, h, _⟩, _⟩ := hp.map.out
      simp [World.cell?, h] at c0
    · subst e
      rw [blk_cell hp.blk] at c0
      rcases off with _ | _ | _ | _ | off <;> simp at c0
  exact hk.cell (hc j u hu) hne
theorem ItsAt.key {w : World} {blk off : Nat} {l : List It} (h : ItsAt w (some ⟨blk, off, none⟩) l) {i : Nat} {x : It} (hx : l[i]? = some x) : w.cell? ⟨blk, off + i * 3, none⟩ = some (.string x.key) ∧ w.cell? ⟨blk, off + i * 3 + 1, none⟩ = some (.string x.val) ∧ w.cell? ⟨blk, off + i * 3 + 2, none⟩ = some (.int .i64 (x.child : Int)) := by
  obtain ⟨b, o, e, hit⟩ := h.item (by rintro rfl; simp at hx)
  cases e
  exact hit i x hx
theorem ItsAt.take {w : World} {blk off : Nat} {l : List It} (h : ItsAt w (some ⟨blk, off, none⟩) l) (i : Nat) : ItsAt w (some ⟨blk, off, none⟩) (l.take i) := fun h0 => by
  have hl : l ≠ [] := fun e => h0 (by rw [e, List.take_nil])
  obtain ⟨ad, e, hs, hc⟩ := h hl
  refine ⟨ad, e, hs, fun j u hu => hc j u ?_⟩
  rw [← flat_take, List.getElem?_take] at hu
  split at hu
  · exact hu
  · cases hu
theorem ItsAt.drop {w : World} {blk off : Nat} {l : List It} (h : ItsAt w (some ⟨blk, off, none⟩) l) (i : Nat) : ItsAt w (some ⟨blk, off + i * 3, none⟩) (l.drop i) := fun h0 => by
  have hl : l ≠ [] := fun e => h0 (by rw [e, List.drop_nil])
  obtain ⟨ad, e, hs, hc⟩ := h hl
  cases e
  refine ⟨_, rfl, rfl, fun j u hu => ?_⟩
  rw [← flat_drop, List.getElem?_drop] at hu
  rw [Nat.add_assoc]
  exact hc _ u hu
/-- A row of the call's own is kept. -/
theorem RowI.far {w w' : World} {pp mb B : Nat} {v : Value} {l : List It} (h : RowI w B v l) (hk : Keep w w' (farP pp mb)) (h1 : pp < B) (h2 : mb < B) : RowI w' B v l :=
  row_keep h (fun k hv => by
    have := World.ownsRow.lt h k hv
    exact hk.block k this.2 ⟨by omega, by omega⟩)
/-- Rows behind one another. -/
theorem RowI.run_append_row {w : World} {B B2 : Nat} {v v2 : Value} {l l2 : List It} (h : RowI w B v l) (h2 : RowI w B2 v2 l2) (hl : l.length + l2.length ≤ 1000000) (hB : B ≤ w.heap.size) (ty : TypeId) :
    ∃ v' w', (Builtin.append_ #[54, 54] ty #[v, v2]).run Try.prog w = .ok v' w' ∧ RowI w' B v' (l ++ l2) ∧ w.grownBy w' v.ownBlock := by
  rcases h2.2 with ⟨rfl, e⟩ | ⟨g, cap, cur, rfl, hg, hh, hn, hm, hs, ht⟩
  · have : l2 = [] := List.eq_nil_of_length_eq_zero e
    subst this
    obtain ⟨i, hi, _, h2, _⟩ := info_item
    exact ⟨v, w, run_append_owned_none w B 54 ty 53 i 3 Try.underlying54 hi v l.length (flat l) h, by rw [List.append_nil]; exact h, ⟨rfl, rfl, rfl, Nat.le_refl _, fun _ _ _ => rfl⟩⟩
  · exact h.run_append l2 ⟨g, 0, none⟩ cap (fun j u hj => by
      rw [Addr.add_lit, Nat.zero_add]
      rw [← ht] at hj
      refine (blk_cell hh j).trans ?_
      rw [List.getElem?_take] at hj
      split at hj
      · rw [← Array.getElem?_toList]
        exact hj
      · cases hj) hl hB ty
theorem Keep.trans_below {a b c : World} {ok : Nat → Prop} (h : Keep a b ok) (hb : Below a.heap.size b c) : Keep a c ok :=
  ⟨hb.os.trans h.os, hb.tape.trans h.tape, hb.output.trans h.output, Nat.le_trans h.size hb.size, fun k hk ho => (hb.block k hk).trans (h.block k hk ho)⟩
theorem newq_calls {w : World} {pp mb : Nat} {S : Pg} (h : PgAt w pp mb S.nx S.F) {q : Nat} (hq : q = S.nx + 1) (hnx : q < 9000000000) :
    Calls Try.prog 46 #[.pointer (some ⟨pp, 0, none⟩)] w fun e w' => e = .returned (.tuple #[.int .i64 (q : Int), .nilIface]) ∧ PgAt w' pp mb S.new.nx S.new.F ∧ Keep w w' (farP pp mb) := by
  subst hq
  rw [Pg.new_F]
  exact new_calls h hnx
#print axioms save_all
#print axioms RowI.run_append_row
end Go.Proofs.YtkmbkgjfhjjicaaT
