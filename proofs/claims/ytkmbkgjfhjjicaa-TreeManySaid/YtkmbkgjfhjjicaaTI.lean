/- Tree: slices.Insert and slices.Delete of items. -/
import Derived.Test.YtkmbkgjfhjjicaaTO
import Derived.Shelf.Spec.SlicesInsert
import Derived.Lib.AppendZerosOnto
import Derived.Laws.CopyRow
import Derived.Laws.NewBlocks
namespace Go.Proofs.YtkmbkgjfhjjicaaT
open Go.RowKit Go.Maps Go.Proofs Go.Proofs.YtkmbkgjfhjjicaaW.PrintWords Go.Proofs.YtkmbkgjfhjjicaaW.PrintLast

def putL (o : Nat) (cs cur : List Value) : List Value := cur.take o ++ cs ++ cur.drop (o + cs.length)
theorem putL_len {o : Nat} {cs cur : List Value} (h : o + cs.length ≤ cur.length) : (putL o cs cur).length = cur.length := by
  simp only [putL, List.length_append, List.length_take, List.length_drop]
  omega
theorem putL_take {o k : Nat} {cs cur : List Value} (h : o + cs.length ≤ cur.length) (hk : k ≤ o) : (putL o cs cur).take k = cur.take k := by
  rw [putL, List.append_assoc, List.take_append_of_le_length (by rw [List.length_take]; omega), List.take_take, Nat.min_eq_left hk]
theorem putL_drop {o k : Nat} {cs cur : List Value} (h : o + cs.length ≤ cur.length) (hk : k = o + cs.length) : (putL o cs cur).drop k = cur.drop k := by
  subst hk
  have : (cur.take o ++ cs).length = o + cs.length := by rw [List.length_append, List.length_take]; omega
  rw [putL, ← this, List.drop_left]
theorem putL_upto {o : Nat} {cs cur : List Value} (h : o + cs.length ≤ cur.length) : (putL o cs cur).take (o + cs.length) = cur.take o ++ cs := by
  have : (cur.take o ++ cs).length = o + cs.length := by rw [List.length_append, List.length_take]; omega
  rw [putL, ← this, List.take_left]
theorem flat_take : ∀ (l : List It) (i : Nat), (flat l).take (i * 3) = flat (l.take i)
  | [], i => by simp [flat]
  | x :: l, 0 => by simp [flat]
  | x :: l, i + 1 => by
    rw [flat_cons, List.take_succ_cons, flat_cons, show (i + 1) * 3 = i * 3 + 1 + 1 + 1 by omega, List.take_succ_cons, List.take_succ_cons, List.take_succ_cons, flat_take l i]
theorem flat_drop : ∀ (l : List It) (i : Nat), (flat l).drop (i * 3) = flat (l.drop i)
  | [], i => by simp [flat]
  | x :: l, 0 => by simp
  | x :: l, i + 1 => by
    rw [flat_cons, List.drop_succ_cons, show (i + 1) * 3 = i * 3 + 1 + 1 + 1 by omega, List.drop_succ_cons, List.drop_succ_cons, List.drop_succ_cons, flat_drop l i]
theorem run_copy_item {w : World} {g o dLen dCap sLen sCap : Nat} {a : Addr} {cur : Array Value} (l : List It) (hg : w.heap[g]? = some (.cells cur 53 (0, 0))) (hn : l.length = min sLen dLen)
    (hsrc : ∀ j v, (flat l)[j]? = some v → w.cell? (a.add j) = some v) (hfit : o + l.length * 3 ≤ cur.size) (ty : TypeId) :
    (Builtin.copy_ #[54, 54] ty #[.slice (some ⟨g, o, none⟩) dLen dCap, .slice (some a) sLen sCap]).run Try.prog w = .ok (goInt l.length) (w.setRow g (putL o (flat l) cur.toList).toArray) := by
  obtain ⟨i, hi, _, h2, _⟩ := info_item
  have hfl := flat_len l
  have hl := run_firstCells_some (P := Try.prog) w i.size l.length a sLen sCap (flat l) (by rw [h2, hfl]) hsrc
  have hst := run_storeCells_at Try.prog g o 53 (flat l) 0 cur w hg (by rw [hfl]; simpa using hfit) (flat_one l)
  simp only [Nat.add_zero] at hst
  have hn' : Nat.min sLen dLen = l.length := hn.symm
  simp [Builtin.copy_, run_underlying Try.underlying54, Builtin.lenOf, sizeOf, typeInfo, hi, hn', hl, hst, putL]
theorem setRow_at {w : World} {g : Nat} {cur : Array Value} {t : TypeId} {fr : Nat × Nat} (h : w.heap[g]? = some (.cells cur t fr)) (new : Array Value) : (w.setRow g new).heap[g]? = some (.cells new t fr) := setRow_heap w g cur new t fr h
theorem Keep.setRow (w : World) (g : Nat) (new : Array Value) {ok : Nat → Prop} (h : ¬ ok g) : Keep w (w.setRow g new) ok :=
  ⟨rfl, rfl, rfl, by simp [World.setRow], fun k _ hk => by
    unfold World.setRow
    simp only
    rw [Array.getElem?_modify, if_neg (fun e => h (by rw [e]; exact hk))]⟩
/-- Room, and not at the end: in place. -/
theorem ins_cells {n m i c : Nat} {l l2 : List It} {cur : List Value} (hi : i < n) (hroom : n + m ≤ c) (hl : l.length = n) (hl2 : l2.length = m) (hcur : cur.length = c * 3) (hcs : cur.take (n * 3) = flat l) :
    (putL (i * 3) (flat l2) (putL ((i + m) * 3) (flat (l.drop i)) cur)).length = c * 3 ∧ (putL (i * 3) (flat l2) (putL ((i + m) * 3) (flat (l.drop i)) cur)).take ((n + m) * 3) = flat (l.take i ++ l2 ++ l.drop i) := by
  have f2 := flat_len l2
  have fd := flat_len (l.drop i)
  rw [List.length_drop] at fd
  have e1 : (i + m) * 3 + (flat (l.drop i)).length = (n + m) * 3 := by rw [fd]; omega
  have h1 : (i + m) * 3 + (flat (l.drop i)).length ≤ cur.length := by omega
  have h2 : i * 3 + (flat l2).length ≤ (putL ((i + m) * 3) (flat (l.drop i)) cur).length := by rw [putL_len h1]; omega
  refine ⟨by rw [putL_len h2, putL_len h1, hcur], ?_⟩
  have e2 : i * 3 + (flat l2).length = (i + m) * 3 := by rw [f2]; omega
  have ht : (putL ((i + m) * 3) (flat (l.drop i)) cur).take (i * 3) = flat (l.take i) := by
    rw [putL_take h1 (by omega), ← flat_take, ← hcs, List.take_take, Nat.min_eq_left (by omega)]
  have ha : ((putL ((i + m) * 3) (flat (l.drop i)) cur).take (i * 3)).length = i * 3 := by rw [List.length_take, putL_len h1]; omega
  have hd : ((putL ((i + m) * 3) (flat (l.drop i)) cur).drop ((i + m) * 3)).take ((n - i) * 3) = flat (l.drop i) := by
    rw [show (n - i) * 3 = (n + m) * 3 - (i + m) * 3 by omega, ← List.drop_take, ← e1, putL_upto h1, List.drop_left']
    rw [List.length_take]; omega
  rw [show putL (i * 3) (flat l2) (putL ((i + m) * 3) (flat (l.drop i)) cur) = (putL ((i + m) * 3) (flat (l.drop i)) cur).take (i * 3) ++ flat l2 ++ (putL ((i + m) * 3) (flat (l.drop i)) cur).drop (i * 3 + (flat l2).length) from rfl, e2, ht, flat_append, flat_append]
  have hlen : (flat (l.take i) ++ flat l2).length = (i + m) * 3 := by rw [List.length_append, ← ht, ha, f2]; omega
  rw [show (n + m) * 3 = (flat (l.take i) ++ flat l2).length + (n - i) * 3 by rw [hlen]; omega, List.take_length_add_append, hd]
set_option maxHeartbeats 4000000 in
set_option maxRecDepth 100000 in
theorem insert_shift {w : World} {B B2 g h n c m c2 i : Nat} {l l2 : List It} (H : RowI w B (.slice (some ⟨g, 0, none⟩) n c) l) (H2 : RowI w B2 (.slice (some ⟨h, 0, none⟩) m c2) l2) (hn : l.length = n) (hm : l2.length = m) (hgh : h ≠ g) (hi : i < n) (h0 : 0 < m) (hroom : n + m ≤ c) (hc : n + m ≤ 1000000) :
    Calls Try.prog 18 #[.slice (some ⟨g, 0, none⟩) n c, .int .i64 (i : Int), .slice (some ⟨h, 0, none⟩) m c2] w fun e w' => ∃ v', e = .returned v' ∧ RowI w' B v' (l.take i ++ l2 ++ l.drop i) ∧ Keep w w' (fun k => k ≠ g) := by
  have hz1 : ¬ ((m : Int) = 0) := by omega
  have hz2 : ¬ ((i : Int) = (n : Int)) := by omega
  have hw1 : IntKind.i64.wrap ((i : Int) + (m : Int)) = (i : Int) + (m : Int) := by rw [IntKind.wrap_i64]; omega
  have hw2 : IntKind.i64.wrap ((n : Int) + (m : Int)) = (n : Int) + (m : Int) := by rw [IntKind.wrap_i64]; omega
  have hb1 : (0 : Int) ≤ (i : Int) + (m : Int) := by omega
  have hin : i ≤ n := by omega
  have htn : ((i : Int) + (m : Int)).toNat = i + m := by omega
  have hb2 : ¬ (c = i + m) := by omega
  have hb3 : (i : Int) ≤ (n : Int) + (m : Int) := by omega
  have hb4 : ¬ (c = i) := by omega
  have mixed := show Try.prog.follows .mixedOrders = true by kernel_rfl
  have HH := Lib.hid (And.intro H H2)
  clear H H2
  obtain ⟨cur, hg, hcm, hcs, hct, hB⟩ : ∃ cur : Array Value, w.heap[g]? = some (.cells cur 53 (0, 0)) ∧ c ≤ maxLen ∧ cur.size = c * 3 ∧ cur.toList.take (n * 3) = flat l ∧ B ≤ g := by
    rcases HH.out.1.2 with ⟨e, _⟩ | ⟨g', cap', cur, hv, hB, hh, hcn, hcm, hcs, hct⟩
    · cases e
    · cases hv
      rw [hn] at hct
      exact ⟨cur, hh, hcm, hcs, hct, hB⟩
  obtain ⟨cur2, hh2, hcs2, hct2⟩ : ∃ cur2 : Array Value, w.heap[h]? = some (.cells cur2 53 (0, 0)) ∧ cur2.size = c2 * 3 ∧ cur2.toList.take (m * 3) = flat l2 := by
    rcases HH.out.2.2 with ⟨e, _⟩ | ⟨g', cap', cur, hv, hB, hh, hcn, hcm, hcs, hct⟩
    · cases e
    · cases hv
      rw [hm] at hct
      exact ⟨cur, hh, hcs, hct⟩
  have hov : ∀ lb cb o, (callFunc 24 #[.slice (some ⟨h, 0, none⟩) m c2, .slice (some ⟨g, o, none⟩) lb cb]).run Try.prog w = .ok (.value (.bool false)) w := fun lb cb o => by
    obtain ⟨it, hit, _, hi2, _⟩ := info_item
    rw [run_callFunc_extern Try.func24 (by kernel_rfl) (by kernel_rfl) (by kernel_rfl) (e := Extern.SlicesOverlaps.overlaps #[54, 54] #[4]) (by kernel_rfl),
      Lib.run_overlaps_apart w 54 4 53 Try.underlying54 3 (fun w => by simp [sizeOf, typeInfo, hit, hi2]) ⟨h, 0, none⟩ ⟨g, o, none⟩ m c2 lb cb hgh 53 53 cur2.size cur.size (by simp [World.shape?, hh2]) (by simp [World.shape?, hg]) (by omega) (blk_frozen hh2 0) (blk_frozen hh2 _)]
    rfl
  obtain ⟨W1, hW1⟩ : ∃ W1, W1 = w.drew.setRow g (putL ((i + m) * 3) (flat (l.drop i)) cur.toList).toArray := ⟨_, rfl⟩
  have hgd : w.drew.heap[g]? = some (.cells cur 53 (0, 0)) := hg
  have fd := flat_len (l.drop i)
  rw [List.length_drop, hn] at fd
  have hcp1 : ∀ ty dc sc, (Builtin.copy_ #[54, 54] ty #[.slice (some ⟨g, (i + m) * 3, none⟩) (n + m - (i + m)) dc, .slice (some ⟨g, i * 3, none⟩) (n + m - i) sc]).run Try.prog w.drew = .ok (goInt (l.drop i).length) W1 := fun ty dc sc => by
    rw [hW1]
    refine run_copy_item (l.drop i) hgd (by rw [List.length_drop]; simp only [Nat.min_def]; split <;> omega) (fun j v hj => ?_) (by rw [List.length_drop]; omega) ty
    rw [Addr.add_lit, ← flat_drop, List.getElem?_drop, ← hct] at *
    refine (blk_cell hgd (i * 3 + j)).trans ?_
    rw [List.getElem?_take] at hj
    split at hj
    · rw [← Array.getElem?_toList]
      exact hj
    · cases hj
  have hg1 : W1.heap[g]? = some (.cells (putL ((i + m) * 3) (flat (l.drop i)) cur.toList).toArray 53 (0, 0)) := by rw [hW1]; exact setRow_at hgd _
  have hk1 : Keep w W1 (fun k => k ≠ g) := by
    rw [hW1]
    exact (Keep.of_below (below_drew (Below.refl _ _))).trans (Keep.setRow _ _ _ (fun e => e rfl))
  have hh1 := hk1.heap hh2 hgh
  have hcp2 : ∀ ty dc, (Builtin.copy_ #[54, 54] ty #[.slice (some ⟨g, i * 3, none⟩) (n + m - i) dc, .slice (some ⟨h, 0, none⟩) m c2]).run Try.prog W1 = .ok (goInt l2.length) (W1.setRow g (putL (i * 3) (flat l2) (putL ((i + m) * 3) (flat (l.drop i)) cur.toList)).toArray) := fun ty dc => by
    refine run_copy_item l2 hg1 (by rw [hm]; simp only [Nat.min_def]; split <;> omega) (fun j v hj => ?_) (by
      rw [List.size_toArray, putL_len (by rw [fd]; simp; omega), hm]; simp; omega) ty
    rw [Addr.add_lit, Nat.zero_add, ← hct2] at *
    refine (blk_cell hh1 j).trans ?_
    rw [List.getElem?_take] at hj
    split at hj
    · rw [← Array.getElem?_toList]
      exact hj
    · cases hj
  have hc63 : c ≤ 9223372036854775807 := by unfold maxLen at hcm; omega
  have HK := Lib.hid (And.intro hk1 hg1)
  have HC := Lib.hid (ins_cells (c := c) (cur := cur.toList) hi hroom hn hm (by rw [Array.length_toList, hcs]) hct)
  have HB := Lib.hid (And.intro hcm hB)
  clear hW1 hg hcm hcs hct hh2 hcs2 hct2 hgd hg1 hk1 hh1 fd hB
  go_enter Try.func18, Try.ntmps18
  go_wp2_with (simp only [hov])
  go_region_law_o (refine step_copy_runI rfl _ _ 54 54 rfl _ _ (by simp [Act.eval, Act.put]) (by simp [Act.eval, Act.put]) (hcp1 _ _ _) ?_)
  go_wp2_with (at_builtin; refine wpList_copy_runI _ rfl _ _ 54 54 rfl _ _ rfl rfl (hcp2 _ _) ?_)
  go_ret
  have hlen : (l.take i ++ l2 ++ l.drop i).length = n + m := by rw [List.length_append, List.length_append, List.length_take, List.length_drop, hm]; omega
  refine ⟨_, rfl, ⟨flat_len _, .inr ⟨g, c, _, (by rw [hlen]; rfl), HB.out.2, setRow_at HK.out.2 _, by rw [hlen]; exact hroom, HB.out.1, by rw [List.size_toArray]; exact HC.out.1, by rw [hlen]; exact HC.out.2⟩⟩, HK.out.1.trans (Keep.setRow _ _ _ (fun e => e rfl))⟩
theorem ins_new {n m i G : Nat} {l l2 : List It} {z : List Value} (hi : i < n) (hl : l.length = n) (hl2 : l2.length = m) (hG : n + m ≤ G) (hz : z.length = (G - i) * 3) :
    (putL ((i + m) * 3) (flat (l.drop i)) (putL (i * 3) (flat l2) (flat (l.take i) ++ z))).length = G * 3 ∧ (putL ((i + m) * 3) (flat (l.drop i)) (putL (i * 3) (flat l2) (flat (l.take i) ++ z))).take ((n + m) * 3) = flat (l.take i ++ l2 ++ l.drop i) := by
  have f2 := flat_len l2
  have fd := flat_len (l.drop i)
  have ft := flat_len (l.take i)
  rw [List.length_drop] at fd
  rw [List.length_take] at ft
  have h0 : (flat (l.take i) ++ z).length = G * 3 := by rw [List.length_append, ft, hz, Nat.min_eq_left (by omega)]; omega
  have h1 : i * 3 + (flat l2).length ≤ (flat (l.take i) ++ z).length := by omega
  have e1 : i * 3 + (flat l2).length = (i + m) * 3 := by rw [f2]; omega
  have h2 : (i + m) * 3 + (flat (l.drop i)).length ≤ (putL (i * 3) (flat l2) (flat (l.take i) ++ z)).length := by rw [putL_len h1, h0, fd]; omega
  refine ⟨by rw [putL_len h2, putL_len h1, h0], ?_⟩
  rw [show (n + m) * 3 = (i + m) * 3 + (flat (l.drop i)).length by rw [fd]; omega, putL_upto h2, ← e1, putL_upto h1, flat_append, flat_append, List.take_left' (by rw [ft]; omega)]
set_option maxHeartbeats 4000000 in
set_option maxRecDepth 100000 in
/-- No room, and not at the end: a new row. -/
theorem insert_grow {w : World} {B B2 g h n c m c2 i : Nat} {l l2 : List It} (H : RowI w B (.slice (some ⟨g, 0, none⟩) n c) l) (H2 : RowI w B2 (.slice (some ⟨h, 0, none⟩) m c2) l2) (hn : l.length = n) (hm : l2.length = m) (hi : i < n) (h0 : 0 < m) (hnc : n ≤ c) (hroom : c < n + m) (hc : n + m ≤ 1000000) (hBw : B ≤ w.heap.size) :
    Calls Try.prog 18 #[.slice (some ⟨g, 0, none⟩) n c, .int .i64 (i : Int), .slice (some ⟨h, 0, none⟩) m c2] w fun e w' => ∃ v', e = .returned v' ∧ RowI w' B v' (l.take i ++ l2 ++ l.drop i) ∧ Below w.heap.size w w' := by
  have hz1 : ¬ ((m : Int) = 0) := by omega
  have hz2 : ¬ ((i : Int) = (n : Int)) := by omega
  have hz3 : (c : Int) < (n : Int) + (m : Int) := by omega
  have hw1 : IntKind.i64.wrap ((i : Int) + (m : Int)) = (i : Int) + (m : Int) := by rw [IntKind.wrap_i64]; omega
  have hw2 : IntKind.i64.wrap ((n : Int) + (m : Int)) = (n : Int) + (m : Int) := by rw [IntKind.wrap_i64]; omega
  have hw3 : IntKind.i64.wrap ((n : Int) + (m : Int) - (i : Int)) = (n : Int) + (m : Int) - (i : Int) := by rw [IntKind.wrap_i64]; omega
  have hb1 : (0 : Int) ≤ (i : Int) + (m : Int) := by omega
  have hin : i ≤ n := by omega
  have htn : ((i : Int) + (m : Int)).toNat = i + m := by omega
  have hb3 : (i : Int) ≤ (n : Int) := by omega
  have hkk : (n : Int) + (m : Int) - (i : Int) = ((n + m - i : Nat) : Int) := by omega
  have hik : i + (n + m - i) = n + m := by omega
  have mixed := show Try.prog.follows .mixedOrders = true by kernel_rfl
  obtain ⟨it, hit, hiz, hi2, hi3⟩ := info_item
  obtain ⟨cur, hg, hct⟩ : ∃ cur : Array Value, w.heap[g]? = some (.cells cur 53 (0, 0)) ∧ cur.toList.take (n * 3) = flat l := by
    rcases H.2 with ⟨e, _⟩ | ⟨g', cap', cur, hv, hB, hh, hcn, hcm, hcs, hct⟩
    · cases e
    · cases hv
      rw [hn] at hct
      exact ⟨cur, hh, hct⟩
  obtain ⟨cur2, hh2, hct2⟩ : ∃ cur2 : Array Value, w.heap[h]? = some (.cells cur2 53 (0, 0)) ∧ cur2.toList.take (m * 3) = flat l2 := by
    rcases H2.2 with ⟨e, _⟩ | ⟨g', cap', cur, hv, hB, hh, hcn, hcm, hcs, hct⟩
    · cases e
    · cases hv
      rw [hm] at hct
      exact ⟨cur, hh, hct⟩
  have hsrc : ∀ {W : World} (j : Nat) (v : Value), (flat l)[j]? = some v → W.heap[g]? = some (.cells cur 53 (0, 0)) → W.cell? ⟨g, j, none⟩ = some v := fun {W} j v hj hW => by
    rw [← hct] at hj
    refine (blk_cell hW j).trans ?_
    rw [List.getElem?_take] at hj
    split at hj
    · rw [← Array.getElem?_toList]
      exact hj
    · cases hj
  have hsrc2 : ∀ {W : World} (j : Nat) (v : Value), (flat l2)[j]? = some v → W.heap[h]? = some (.cells cur2 53 (0, 0)) → W.cell? ⟨h, j, none⟩ = some v := fun {W} j v hj hW => by
    rw [← hct2] at hj
    refine (blk_cell hW j).trans ?_
    rw [List.getElem?_take] at hj
    split at hj
    · rw [← Array.getElem?_toList]
      exact hj
    · cases hj
  have hold : (Builtin.firstCells it.size i (.slice (some ⟨g, 0, none⟩) i c)).run Try.prog w.drew = .ok (flat (l.take i)).toArray w.drew := by
    rw [hi2]
    exact run_firstCells_some w.drew 3 i ⟨g, 0, none⟩ i c (flat (l.take i)) (by rw [flat_len, List.length_take]; omega) (fun j v hj => by
      rw [Addr.add_lit, Nat.zero_add]
      rw [← flat_take, List.getElem?_take] at hj
      split at hj
      · exact hsrc (W := w.drew) j v hj hg
      · cases hj)
  obtain ⟨G, hG⟩ : ∃ G, G = grownCap w (n + m) c 53 := ⟨_, rfl⟩
  obtain ⟨z, hz⟩ : ∃ z : List Value, z = (Builtin.zeroCells (Value.agg #[.string ⟨#[]⟩, .string ⟨#[]⟩, .int .i64 0]).cells (n + m - i) ++ Builtin.zeroCells (Value.agg #[.string ⟨#[]⟩, .string ⟨#[]⟩, .int .i64 0]).cells (G - (n + m))).toList := ⟨_, rfl⟩
  have hGn : n + m ≤ G := by rw [hG]; exact grownCap_ge w _ _ _
  have hG63 : G ≤ maxLen := by rw [hG]; exact grownCap_le_maxLen w (n + m) c _ (by unfold maxLen; omega)
  have hzl : z.length = (G - i) * 3 := by
    rw [hz, Array.length_toList, Array.size_append]
    have h3 : (Value.agg #[.string ⟨#[]⟩, .string ⟨#[]⟩, .int .i64 0]).cells.size = 3 := rfl
    rw [size_zeroCells, size_zeroCells, h3]
    omega
  obtain ⟨W1, hW1⟩ : ∃ W1, W1 = w.drew.alloc (.cells (flat (l.take i) ++ z).toArray 53) := ⟨_, rfl⟩
  have hrz : ∀ ty, (Builtin.append_ #[54, 3] ty #[.slice (some ⟨g, 0, none⟩) i c, .int .i64 ((n : Int) + (m : Int) - (i : Int))]).run Try.prog w = .ok (.slice (some ⟨w.heap.size, 0, none⟩) (n + m) G) W1 := fun ty => by
    have h := Lib.run_append_grow_zeros w 54 3 ty 53 it _ .i64 .i64 Try.underlying54 Try.underlying3 hit hiz (some ⟨g, 0, none⟩) i c (flat (l.take i)) hold (n + m - i) (by omega) (by omega) (by omega) (by omega) (by rw [hi3]; omega) (by rw [hi3, hik]; exact growslice_fits hroom (by omega))
    rw [hik, ← hG] at h
    rw [hkk, hW1, hz]
    rw [h]
    congr 3
    simp [Array.append_assoc]
  have hN1 : W1.heap[w.heap.size]? = some (.cells (flat (l.take i) ++ z).toArray 53 (0, 0)) := by rw [hW1]; exact blk_new w.drew _
  have hb1' : Below w.heap.size w W1 := by rw [hW1]; exact below_alloc (below_drew (Below.refl _ _)) _
  have hg1 := blk_below hg hb1'
  have hh1 := blk_below hh2 hb1'
  have fd := flat_len (l.drop i)
  have ft := flat_len (l.take i)
  have f2 := flat_len l2
  rw [List.length_drop, hn] at fd
  rw [List.length_take, Nat.min_eq_left (by omega)] at ft
  rw [hm] at f2
  have hs0 : (flat (l.take i) ++ z).length = G * 3 := by rw [List.length_append, ft, hzl]; omega
  obtain ⟨W2, hW2⟩ : ∃ W2, W2 = W1.setRow w.heap.size (putL (i * 3) (flat l2) (flat (l.take i) ++ z)).toArray := ⟨_, rfl⟩
  have hcpA : ∀ ty dc, (Builtin.copy_ #[54, 54] ty #[.slice (some ⟨w.heap.size, i * 3, none⟩) (n + m - i) dc, .slice (some ⟨h, 0, none⟩) m c2]).run Try.prog W1 = .ok (goInt l2.length) W2 := fun ty dc => by
    rw [hW2]
    refine run_copy_item l2 hN1 (by rw [hm]; simp only [Nat.min_def]; split <;> omega) (fun j v hj => ?_) (by rw [List.size_toArray, hs0, hm]; omega) ty
    rw [Addr.add_lit, Nat.zero_add]
    exact hsrc2 j v hj hh1
  have hN2 : W2.heap[w.heap.size]? = some (.cells (putL (i * 3) (flat l2) (flat (l.take i) ++ z)).toArray 53 (0, 0)) := by rw [hW2]; exact setRow_at hN1 _
  have hb2' : Below w.heap.size w W2 := by
    rw [hW2]
    exact hb1'.trans ((Keep.setRow W1 w.heap.size _ (ok := fun k => k ≠ w.heap.size) (fun e => e rfl)).below hb1'.size (fun k hk e => by omega))
  have hg2 := blk_below hg hb2'
  have hcpB : ∀ ty dc sc, (Builtin.copy_ #[54, 54] ty #[.slice (some ⟨w.heap.size, (i + m) * 3, none⟩) (n + m - (i + m)) dc, .slice (some ⟨g, i * 3, none⟩) (n - i) sc]).run Try.prog W2.drew = .ok (goInt (l.drop i).length) (W2.drew.setRow w.heap.size (putL ((i + m) * 3) (flat (l.drop i)) (putL (i * 3) (flat l2) (flat (l.take i) ++ z))).toArray) := fun ty dc sc => by
    refine run_copy_item (l.drop i) (w := W2.drew) hN2 (by rw [List.length_drop]; simp only [Nat.min_def]; split <;> omega) (fun j v hj => ?_) (by rw [List.size_toArray, putL_len (by omega), hs0, List.length_drop]; omega) ty
    rw [Addr.add_lit]
    rw [← flat_drop, List.getElem?_drop] at hj
    exact hsrc (W := W2.drew) _ v hj hg2
  have HN2 := Lib.hid hN2
  have HB2 := Lib.hid hb2'
  have HC := Lib.hid (ins_new hi hn hm hGn hzl)
  have HG := Lib.hid hG63
  have HGn := Lib.hid hGn
  have hGi : ¬ (G = i) := by omega
  have hGim : ¬ (G = i + m) := by omega
  have hci : ¬ (c = i) := by omega
  have hG64 : G ≤ 9223372036854775807 := by unfold maxLen at hG63; omega
  have hGm : i + m ≤ G := by omega
  have hGm2 : i ≤ G := by omega
  clear hkk hik hold hG hz hGn hG63 hzl hW1 hN1 hb1' hg1 hh1 fd ft f2 hs0 hW2 hN2 hb2' hg2 hsrc hsrc2 hct hct2 hh2 hg H H2 hit hiz hi2 hi3
  go_enter Try.func18, Try.ntmps18
  go_upto_region 11 with (first
    | (at_builtin; refine wpList_append_run _ rfl _ _ _ _ rfl _ _ rfl rfl (hrz _) ?_)
    | (at_builtin; refine wpList_copy_runI _ rfl _ _ 54 54 rfl _ _ rfl rfl (hcpA _ _) ?_))
  go_region_law_o (refine step_copy_runI rfl _ _ 54 54 rfl _ _ (by simp [Act.eval, Act.put]) (by simp [Act.eval, Act.put]) (hcpB _ _ _) ?_)
  go_wp2_with fail
  go_ret
  have hlen : (l.take i ++ l2 ++ l.drop i).length = n + m := by rw [List.length_append, List.length_append, List.length_take, List.length_drop, hm]; omega
  refine ⟨_, rfl, ⟨flat_len _, .inr ⟨w.heap.size, G, _, (by rw [hlen]; rfl), hBw, setRow_at HN2.out _, by rw [hlen]; exact HGn.out, HG.out, by rw [List.size_toArray]; exact HC.out.1, by rw [hlen]; exact HC.out.2⟩⟩, ?_⟩
  exact HB2.out.trans ((Keep.trans (Keep.of_below (below_drew (Below.refl _ _))) (Keep.setRow _ w.heap.size _ (ok := fun k => k ≠ w.heap.size) (fun e => e rfl))).below HB2.out.size (fun k hk e => by omega))
set_option maxHeartbeats 4000000 in
set_option maxRecDepth 100000 in
theorem insert_end {w : World} {B B2 g h n c m c2 : Nat} {l l2 : List It} (H : RowI w B (.slice (some ⟨g, 0, none⟩) n c) l) (H2 : RowI w B2 (.slice (some ⟨h, 0, none⟩) m c2) l2) (hn : l.length = n) (hm : l2.length = m) (h0 : 0 < m) (hnc : n ≤ c) (hc : n + m ≤ 1000000) (hBw : B ≤ w.heap.size) :
    Calls Try.prog 18 #[.slice (some ⟨g, 0, none⟩) n c, .int .i64 (n : Int), .slice (some ⟨h, 0, none⟩) m c2] w fun e w' => ∃ v', e = .returned v' ∧ RowI w' B v' (l ++ l2) ∧ Keep w w' (fun k => k ≠ g) := by
  have hz1 : ¬ ((m : Int) = 0) := by omega
  have mixed := show Try.prog.follows .mixedOrders = true by kernel_rfl
  obtain ⟨cur2, hh2, hct2⟩ : ∃ cur2 : Array Value, w.heap[h]? = some (.cells cur2 53 (0, 0)) ∧ cur2.toList.take (m * 3) = flat l2 := by
    rcases H2.2 with ⟨e, _⟩ | ⟨g', cap', cur, hv, hB, hh, hcn, hcm, hcs, hct⟩
    · cases e
    · cases hv
      rw [hm] at hct
      exact ⟨cur, hh, hct⟩
  obtain ⟨v', w', hr, ho, hg⟩ := H.run_append l2 ⟨h, 0, none⟩ c2 (fun j v hj => by
    rw [Addr.add_lit, Nat.zero_add]
    rw [← hct2] at hj
    refine (blk_cell hh2 j).trans ?_
    rw [List.getElem?_take] at hj
    split at hj
    · rw [← Array.getElem?_toList]
      exact hj
    · cases hj) (by omega) hBw 54
  rw [hm] at hr
  have HO := Lib.hid ho
  have HG := Lib.hid (Keep.of_grown hg)
  clear H H2 hh2 hct2 ho hg
  go_enter Try.func18, Try.ntmps18
  go_wp2_with (at_builtin; refine wpList_append_run _ rfl _ _ _ _ rfl _ _ rfl rfl hr ?_)
  all_goals go_ret
  all_goals exact ⟨_, rfl, HO.out, HG.out.mono (fun k _ hk e => hk (by cases e; rfl))⟩
theorem RowI.some {w : World} {B : Nat} {v : Value} {l : List It} (h : RowI w B v l) (h0 : l ≠ []) : ∃ g c, v = .slice (some ⟨g, 0, none⟩) l.length c ∧ l.length ≤ c ∧ B ≤ g := by
  rcases h.2 with ⟨_, e⟩ | ⟨g, cap, cur, hv, hB, hh, hcn, _⟩
  · exact absurd (List.eq_nil_of_length_eq_zero e) h0
  · exact ⟨g, cap, hv, hcn, hB⟩
/-- slices.Insert. -/
theorem insert_calls {w : World} {B B2 : Nat} {v v2 : Value} {l l2 : List It} (H : RowI w B v l) (H2 : RowI w B2 v2 l2) (h0 : l ≠ []) (h20 : l2 ≠ []) (hne : v2.ownBlock ≠ v.ownBlock) (i : Nat) (hi : i ≤ l.length) (hlen : l.length + l2.length ≤ 1000000) (hBw : B ≤ w.heap.size) :
    Calls Try.prog 18 #[v, .int .i64 (i : Int), v2] w fun e w' => ∃ v', e = .returned v' ∧ RowI w' B v' (l.take i ++ l2 ++ l.drop i) ∧ Keep w w' (fun k => v.ownBlock ≠ some k) := by
  obtain ⟨g, c, rfl, hc, hg⟩ := H.some h0
  obtain ⟨h, c2, rfl, _, _⟩ := H2.some h20
  have hm0 : 0 < l2.length := List.length_pos_iff.2 h20
  by_cases hin : i < l.length
  · by_cases hroom : l.length + l2.length ≤ c
    · refine (insert_shift H H2 rfl rfl (fun e => hne (by rw [e]; rfl)) hin hm0 hroom hlen).mono ?_
      rintro e w' ⟨v', rfl, h1, h2⟩
      exact ⟨v', rfl, h1, h2.mono (fun k _ hk e => hk (by rw [e]; rfl))⟩
    · refine (insert_grow H H2 rfl rfl hin hm0 hc (by omega) hlen hBw).mono ?_
      rintro e w' ⟨v', rfl, h1, h2⟩
      exact ⟨v', rfl, h1, Keep.of_below h2⟩
  · obtain rfl : i = l.length := by omega
    refine (insert_end H H2 rfl rfl hm0 hc hlen hBw).mono ?_
    rintro e w' ⟨v', rfl, h1, h2⟩
    refine ⟨v', rfl, ?_, h2.mono (fun k _ hk e => hk (by rw [e]; rfl))⟩
    rw [List.take_length, List.drop_length, List.append_nil]
    exact h1
#print axioms insert_calls
theorem wpList_clear_run {P : Program} (w : World) {ops : Array Oper} {rest : List Oper} {o : Oper} {a : Act} {Q : Exit → Act → World → Prop} (hgd : o.guard = none) (d : Operand) (dT : TypeId)
    (hop : o.op = Op.call { callee := Callee.builtin Builtin.clear, args := #[d], argTypes := #[dT] }) (v : Value) (hd : a.eval d = v) {v' : Value} {w' : World}
    (hr : (Builtin.clear_ #[dT] o.type #[v]).run P w = .ok v' w') (h : wpList P ops Q rest (a.put o.dst v') w') : wpList P ops Q (o :: rest) a w :=
  wpList_plain hgd fun _ hK => by
    unfold Oper.wp
    simp [execOp, hop, resolve, invoke, builtin, hd, hr, Result.andThen]
    exact hK _ _ h
theorem zeroI (w : World) : (zeroValue 53).run Try.prog w = .ok (.agg #[.string ⟨#[]⟩, .string ⟨#[]⟩, .int .i64 0]) w := by kernel_rfl
theorem run_clear_item {w : World} {g o cc : Nat} {cur : Array Value} (hg : w.heap[g]? = some (.cells cur 53 (0, 0))) (hfit : o + 3 ≤ cur.size) (ty : TypeId) :
    (Builtin.clear_ #[54] ty #[.slice (some ⟨g, o, none⟩) 1 cc]).run Try.prog w = .ok (.tuple #[]) (w.setRow g (putL o [.string ⟨#[]⟩, .string ⟨#[]⟩, .int .i64 0] cur.toList).toArray) := by
  have hst := run_storeCells_at Try.prog g o 53 [.string ⟨#[]⟩, .string ⟨#[]⟩, .int .i64 0] 0 cur w hg (by simpa using hfit) (by intro u hu; simp at hu; rcases hu with rfl | rfl <;> rfl)
  simp only [Nat.add_zero] at hst
  have hzc : (Builtin.zeroCells (Value.agg #[.string ⟨#[]⟩, .string ⟨#[]⟩, .int .i64 0]).cells 1).toList = [.string ⟨#[]⟩, .string ⟨#[]⟩, .int .i64 0] := by simp [Builtin.zeroCells, Value.cells, List.range, List.range.loop]
  simp [Builtin.clear_, run_underlying Try.underlying54, zeroI, hzc, hst, putL]
theorem del_cells {n p i c : Nat} {l : List It} {cur z : List Value} (hi : i < n) (hnp : n = p + 1) (hnc : n ≤ c) (hl : l.length = n) (hcur : cur.length = c * 3) (hcs : cur.take (n * 3) = flat l) (hz : z.length = 3) :
    (putL (p * 3) z (putL (i * 3) (flat (l.drop (i + 1))) cur)).length = c * 3 ∧ (putL (p * 3) z (putL (i * 3) (flat (l.drop (i + 1))) cur)).take (p * 3) = flat (l.eraseIdx i) := by
  have fd := flat_len (l.drop (i + 1))
  rw [List.length_drop] at fd
  have h1 : i * 3 + (flat (l.drop (i + 1))).length ≤ cur.length := by omega
  have h2 : p * 3 + z.length ≤ (putL (i * 3) (flat (l.drop (i + 1))) cur).length := by rw [putL_len h1]; omega
  refine ⟨by rw [putL_len h2, putL_len h1, hcur], ?_⟩
  rw [putL_take h2 (Nat.le_refl _), show p * 3 = i * 3 + (flat (l.drop (i + 1))).length by omega, putL_upto h1, List.eraseIdx_eq_take_drop_succ, flat_append, ← flat_take l i, ← hcs, List.take_take, Nat.min_eq_left (by omega)]
set_option maxHeartbeats 4000000 in
set_option maxRecDepth 100000 in
/-- slices.Delete, one item. -/
theorem delete_calls {w : World} {B : Nat} {v : Value} {l : List It} (H : RowI w B v l) (i : Nat) (hi : i < l.length) (hlen : l.length ≤ 1000000) :
    Calls Try.prog 19 #[v, .int .i64 (i : Int), .int .i64 ((i + 1 : Nat) : Int)] w fun e w' => ∃ v', e = .returned v' ∧ RowI w' B v' (l.eraseIdx i) ∧ Keep w w' (fun k => v.ownBlock ≠ some k) := by
  obtain ⟨g, c, rfl, hnc, hB⟩ := H.some (by rintro rfl; simp at hi)
  obtain ⟨it, hit, hiz, hi2, hi3⟩ := info_item
  obtain ⟨n, hn⟩ : ∃ n, n = l.length := ⟨_, rfl⟩
  rw [← hn] at hi hlen hnc H ⊢
  obtain ⟨cur, hg, hcm, hcs, hct⟩ : ∃ cur : Array Value, w.heap[g]? = some (.cells cur 53 (0, 0)) ∧ c ≤ maxLen ∧ cur.size = c * 3 ∧ cur.toList.take (n * 3) = flat l := by
    rcases H.2 with ⟨e, _⟩ | ⟨g', cap', cur, hv, hB, hh, hcn, hcm, hcs, hct⟩
    · cases e
    · cases hv
      rw [← hn] at hct
      exact ⟨cur, hh, hcm, hcs, hct⟩
  obtain ⟨p, hp⟩ : ∃ p, n = p + 1 := ⟨n - 1, by omega⟩
  obtain ⟨j, hj⟩ : ∃ j, j = i + 1 := ⟨_, rfl⟩
  rw [← hj]
  have fd := flat_len (l.drop j)
  rw [List.length_drop, ← hn] at fd
  have hgd : w.drew.heap[g]? = some (.cells cur 53 (0, 0)) := hg
  obtain ⟨W1, hW1⟩ : ∃ W1, W1 = w.drew.setRow g (putL (i * 3) (flat (l.drop j)) cur.toList).toArray := ⟨_, rfl⟩
  have hap : ∀ a ty dc, (a = ⟨g, j * 3, none⟩ ∨ n = j) → (Builtin.append_ #[54, 54] ty #[.slice (some ⟨g, 0, none⟩) i c, .slice (some a) (n - j) dc]).run Try.prog w.drew = .ok (.slice (some ⟨g, 0, none⟩) p c) W1 := fun a ty dc ha => by
    have h := run_append_room (P := Try.prog) w.drew 54 ty 53 it Try.underlying54 hit g i c cur hgd a (n - j) dc (flat (l.drop j)) (by rw [fd, hi2]) (fun q u hq => by
      rcases ha with rfl | e
      · rw [Addr.add_lit]
        rw [← flat_drop, List.getElem?_drop, ← hct, List.getElem?_take] at hq
        split at hq
        · refine (blk_cell hgd _).trans ?_
          rw [← Array.getElem?_toList]
          exact hq
        · cases hq
      · have : flat (l.drop j) = [] := List.eq_nil_of_length_eq_zero (by rw [fd]; omega)
        rw [this] at hq
        simp at hq) (flat_one _) (by omega) (by rw [hi2, fd]; omega)
    rw [show i + (n - j) = p by omega, hi2] at h
    rw [h, hW1]
    rfl
  have hg1 : W1.heap[g]? = some (.cells (putL (i * 3) (flat (l.drop j)) cur.toList).toArray 53 (0, 0)) := by rw [hW1]; exact setRow_at hgd _
  have hk1 : Keep w W1 (fun k => k ≠ g) := by
    rw [hW1]
    exact (Keep.of_below (below_drew (Below.refl _ _))).trans (Keep.setRow _ _ _ (fun e => e rfl))
  have hcl : ∀ ty cc, _ := fun ty cc => run_clear_item (o := p * 3) (cc := cc) hg1 (by rw [List.size_toArray, putL_len (by rw [fd, Array.length_toList]; omega), Array.length_toList]; omega) ty
  have HC := Lib.hid (del_cells (p := p) (i := i) (c := c) (cur := cur.toList) (z := [.string ⟨#[]⟩, .string ⟨#[]⟩, .int .i64 0]) hi hp hnc hn.symm (by rw [Array.length_toList, hcs]) hct rfl)
  have HG := Lib.hid (show Keep w W1 (fun k => k ≠ g) ∧ B ≤ g ∧ c ≤ maxLen ∧ W1.heap[g]? = some (.cells (putL (i * 3) (flat (l.drop j)) cur.toList).toArray 53 (0, 0)) from ⟨hk1, hB, hcm, hg1⟩)
  have hc63 : c ≤ 9223372036854775807 := by unfold maxLen at hcm; omega
  have e1 : ((i : Int) == (j : Int)) = false := by rw [beq_eq_false_iff_ne]; omega
  have e2 : i ≤ j := by omega
  have e3 : j ≤ n := by omega
  have e4 : p ≤ n := by omega
  have e5 : n - p = 1 := by omega
  have e6 : ¬ (c = p) := by omega
  have e7 : i ≤ n := by omega
  have e8 : j ≤ c := by omega
  have e9 : i ≤ c := by omega
  have e10 : p ≤ c := by omega
  have e11 : ¬ (n = i) := by omega
  have HP := Lib.hid (And.intro hp (And.intro hj hn))
  have mixed := show Try.prog.follows .mixedOrders = true by kernel_rfl
  have h10 : c = j → n = j := by omega
  have hW1d : n = j → W1 = w.drew := fun e => by
    have h0 : flat (l.drop j) = [] := List.eq_nil_of_length_eq_zero (by rw [fd]; omega)
    have h1 : (putL (i * 3) ([] : List Value) cur.toList).toArray = cur := by simp [putL]
    rw [hW1, h0, h1, setRow_self _ _ _ _ _ hgd]
  clear H hit hiz hi2 hi3 hg hcm hcs hct hp hj hn fd hgd hW1 hg1 hk1 hB hlen
  go_enter Try.func19, Try.ntmps19
  go_wp2_with fail
  have fin : ∀ w', w' = W1.setRow g (putL (p * 3) [.string ⟨#[]⟩, .string ⟨#[]⟩, .int .i64 0] (putL (i * 3) (flat (l.drop j)) cur.toList)).toArray → RowI w' B (.slice (some ⟨g, 0, none⟩) p c) (l.eraseIdx i) ∧ Keep w w' (fun k => k ≠ g) := by
    rintro w' rfl
    have hlen : (l.eraseIdx i).length = p := by rw [List.length_eraseIdx_of_lt (by rw [← HP.out.2.2]; exact hi), ← HP.out.2.2]; have := HP.out.1; omega
    have hc := HC.out
    rw [← HP.out.2.1] at hc
    exact ⟨⟨flat_len _, .inr ⟨g, c, _, by rw [hlen], HG.out.2.1, setRow_at HG.out.2.2.2 _, by rw [hlen]; exact e10, HG.out.2.2.1, by rw [List.size_toArray]; exact hc.1, by rw [hlen]; exact hc.2⟩⟩, HG.out.1.trans (Keep.setRow _ _ _ (fun e => e rfl))⟩
  have FIN := Lib.hid fin
  clear fin
  by_cases hcj : c = j
  · subst hcj
    have hnj := h10 rfl
    obtain rfl := hW1d hnj
    obtain rfl : p = i := by have := HP.out.1; have := HP.out.2.1; omega
    clear hap h10 hW1d hnj
    go_region_law_o (fail)
    go_wp2_with (at_builtin; refine wpList_clear_run _ rfl _ 54 rfl _ rfl (hcl _ _) ?_)
    go_ret
    exact ⟨.slice (some ⟨g, 0, none⟩) p c, rfl, (FIN.out _ rfl).1, (FIN.out _ rfl).2.mono (fun k _ hk e => hk (by rw [e]; rfl))⟩
  · have hap' := fun ty dc => hap ⟨g, j * 3, none⟩ ty dc (.inl rfl)
    clear hap h10 hW1d
    go_region_law_o (refine step_append_run rfl _ _ 54 54 rfl (.slice (some ⟨g, 0, none⟩) i c) (.slice (some ⟨g, j * 3, none⟩) (n - j) (c - j)) (by simp [Act.eval, Act.put]) (by simp [Act.eval, Act.put]) (hap' _ _) ?_)
    go_wp2_with (at_builtin; refine wpList_clear_run _ rfl _ 54 rfl _ rfl (hcl _ _) ?_)
    go_ret
    exact ⟨.slice (some ⟨g, 0, none⟩) p c, rfl, (FIN.out _ rfl).1, (FIN.out _ rfl).2.mono (fun k _ hk e => hk (by rw [e]; rfl))⟩
#print axioms delete_calls
#print axioms run_copy_item
#print axioms Keep.setRow
end Go.Proofs.YtkmbkgjfhjjicaaT
