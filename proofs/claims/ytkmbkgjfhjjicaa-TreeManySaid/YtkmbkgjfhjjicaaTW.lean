/- Tree: put. -/
import Derived.Test.YtkmbkgjfhjjicaaTV
namespace Go.Proofs.YtkmbkgjfhjjicaaT
open Go.RowKit Go.Maps Go.Proofs Go.Proofs.YtkmbkgjfhjjicaaW.PrintWords Go.Proofs.YtkmbkgjfhjjicaaW.PrintLast

theorem flat_set : ∀ {l : List It} {i : Nat} {x : It} (val : ByteArray), l[i]? = some x → flat (l.set i ⟨x.key, val, x.child⟩) = (flat l).set (i * 3 + 1) (.string val)
  | [], i, x, val, h => by simp at h
  | y :: l, 0, x, val, h => by
    simp at h
    subst h
    rfl
  | y :: l, i + 1, x, val, h => by
    have h' : l[i]? = some x := by simpa using h
    rw [List.set_cons_succ, flat_cons, flat_cons, flat_set val h', show (i + 1) * 3 + 1 = (i * 3 + 1) + 1 + 1 + 1 by omega, List.set_cons_succ, List.set_cons_succ, List.set_cons_succ]
theorem row_set {w : World} {B g n c : Nat} {l : List It} (h : RowI w B (.slice (some ⟨g, 0, none⟩) n c) l) {i : Nat} {x : It} (hx : l[i]? = some x) (val : ByteArray) : RowI (w.setCell ⟨g, i * 3 + 1, none⟩ (.string val)) B (.slice (some ⟨g, 0, none⟩) n c) (l.set i ⟨x.key, val, x.child⟩) := by
  obtain ⟨h1, h2 | ⟨g', cap, cur, hv, hg, hh, hn, hm, hs, ht⟩⟩ := h
  · cases h2.1
  · cases hv
    refine ⟨flat_len _, .inr ⟨g, c, cur.setIfInBounds (i * 3 + 1) (.string val), by rw [List.length_set], hg, heap_set hh _, by rw [List.length_set]; exact hn, hm, by rw [Array.size_setIfInBounds]; exact hs, ?_⟩⟩
    rw [List.length_set, flat_set val hx, ← ht, Array.toList_setIfInBounds, List.take_set]
theorem row_block {w : World} {B g n c : Nat} {l : List It} (h : RowI w B (.slice (some ⟨g, 0, none⟩) n c) l) : ∃ cur, w.heap[g]? = some (.cells cur 53 (0, 0)) := by
  obtain ⟨h1, h2 | ⟨g', cap, cur, hv, hg, hh, hn, hm, hs, ht⟩⟩ := h
  · cases h2.1
  · cases hv
    exact ⟨cur, hh⟩
theorem get_spec {S : Pg} {p : Nat} {n : Nd} (h : S.get p = some n) : S.f p = some (some n) ∧ okN n = true := by
  unfold Pg.get at h
  split at h
  · rename_i n' he
    split at h
    · cases h
      exact ⟨he, by assumption⟩
    · cases h
  · cases h
theorem put_cases {k : Nat} {S S' : Pg} {p : Nat} {key val : ByteArray} {m : List It} (h : putF (k + 1) S p key val = some (S', m)) :
    ∃ leaf items, S.f p = some (some ⟨leaf, items⟩) ∧ okN ⟨leaf, items⟩ = true ∧
      ((leaf = true ∧ (placeN ⟨leaf, items⟩ key).2 = true ∧ ∃ x, items[(placeN ⟨leaf, items⟩ key).1]? = some x ∧ saveF 300 S p ⟨leaf, items.set (placeN ⟨leaf, items⟩ key).1 ⟨x.key, val, x.child⟩⟩ = some (S', m)) ∨
       (leaf = true ∧ (placeN ⟨leaf, items⟩ key).2 = false ∧ saveF 300 S p ⟨leaf, items.take (placeN ⟨leaf, items⟩ key).1 ++ [⟨key, val, 0⟩] ++ items.drop (placeN ⟨leaf, items⟩ key).1⟩ = some (S', m)) ∨
       (leaf = false ∧ ∃ x S1 m1, items[(placeN ⟨leaf, items⟩ key).1]? = some x ∧ putF k S x.child key val = some (S1, m1) ∧
         ((m1 = [] ∧ S' = S1 ∧ m = []) ∨ (m1 ≠ [] ∧ m1.length ≤ 200 ∧ saveF 300 S1 p ⟨leaf, items.take ((placeN ⟨leaf, items⟩ key).1 + 1) ++ m1 ++ items.drop ((placeN ⟨leaf, items⟩ key).1 + 1)⟩ = some (S', m))))) := by
  rw [putF] at h
  obtain ⟨⟨leaf, items⟩, hg, h⟩ := Option.bind_eq_some_iff.1 h
  obtain ⟨h1, h2⟩ := get_spec hg
  refine ⟨leaf, items, h1, h2, ?_⟩
  simp only at h
  cases leaf with
  | true =>
    rw [if_pos rfl] at h
    cases hp : (placeN ⟨true, items⟩ key).2 with
    | true =>
      rw [hp, if_pos rfl] at h
      cases hx : items[(placeN ⟨true, items⟩ key).1]? with
      | none => rw [hx] at h; cases h
      | some x =>
        rw [hx] at h
        exact .inl ⟨rfl, rfl, x, rfl, h⟩
    | false =>
      rw [hp, if_neg (by decide)] at h
      exact .inr (.inl ⟨rfl, rfl, h⟩)
  | false =>
    rw [if_neg (by decide)] at h
    cases hx : items[(placeN ⟨false, items⟩ key).1]? with
    | none => rw [hx] at h; cases h
    | some x =>
      rw [hx] at h
      simp only at h
      obtain ⟨⟨S1, m1⟩, h3, h4⟩ := Option.bind_eq_some_iff.1 h
      refine .inr (.inr ⟨rfl, x, S1, m1, rfl, h3, ?_⟩)
      simp only at h4
      cases m1 with
      | nil =>
        simp only [List.isEmpty_nil, if_true] at h4
        cases h4
        exact .inl ⟨rfl, rfl, rfl⟩
      | cons y l =>
        simp only [List.isEmpty_cons] at h4
        rw [if_neg (by decide)] at h4
        split at h4
        · cases h4
        · exact .inr ⟨by simp, by omega, h4⟩
def PutSpec (pp mb k : Nat) : Prop := ∀ (w : World) (S S' : Pg) (p : Nat) (key val : ByteArray) (m : List It), putF k S p key val = some (S', m) → PgAt w pp mb S.nx S.F → p < 9000000000 →
    Calls Try.prog 12 #[pgv pp, .int .i64 (p : Int), .string key, .string val] w (SaveEnd w pp mb S' m)
theorem PutSpec.use {pp mb k : Nat} (H : PutSpec pp mb k) {w : World} {S S' : Pg} {p : Nat} {key val : ByteArray} {m : List It} (h1 : putF k S p key val = some (S', m)) (h2 : PgAt w pp mb S.nx S.F) (h3 : p < 9000000000) :
    Calls Try.prog 12 #[pgv pp, .int .i64 (p : Int), .string key, .string val] w (SaveEnd w pp mb S' m) := H w S S' p key val m h1 h2 h3
/-- Where the ways of put meet. -/
structure PutAt (w wx : World) (pp mb g p : Nat) (leaf : Bool) (S' : Pg) (m : List It) : Prop where
  out : ∃ S1 items A c, wx.heap[g]? = some (.cells #[.bool leaf, .slice A items.length c] 56 (0, 0)) ∧ RowI wx w.heap.size (.slice A items.length c) items ∧ PgAt wx pp mb S1.nx S1.F ∧ Keep w wx (farP pp mb) ∧ saveF 300 S1 p ⟨leaf, items⟩ = some (S', m)
theorem row_new (w : World) (x : It) {z : Int} (hz : z = (x.child : Int)) : RowI (w.alloc (.cells #[.string x.key, .string x.val, .int .i64 z] 53)) w.heap.size (.slice (some ⟨w.heap.size, 0, none⟩) 1 1) [x] := by
  subst hz
  exact ⟨rfl, .inr ⟨w.heap.size, 1, _, rfl, Nat.le_refl _, blk_new _ _, Nat.le_refl _, by decide, rfl, rfl⟩⟩
theorem keep_own {w w' : World} {gi n c : Nat} (h : Keep w w' (fun k => (Value.slice (some ⟨gi, 0, none⟩) n c).ownBlock ≠ some k)) : Keep w w' (fun k => k ≠ gi) := h.mono (fun k _ hk e => hk (Option.some.inj (show some gi = some k from e)).symm)
theorem placeN_le {leaf ok : Bool} {items : List It} {key : ByteArray} {i : Nat} (h : (i, ok) = placeN ⟨leaf, items⟩ key) : i ≤ items.length := by
  unfold placeN at h
  cases leaf
  · rw [if_neg (show ¬ (Nd.mk false items).leaf = true from Bool.false_ne_true)] at h
    have h1 := congrArg Prod.fst h
    have h2 := firstIdx_le (fun x => !(lt x.key key || x.key.toList == key.toList)) (items.drop 1)
    rw [List.length_drop] at h2
    simp only at h1
    omega
  · rw [if_pos rfl] at h
    have h1 := congrArg Prod.fst h
    have h2 := firstIdx_le (fun x => !lt x.key key) items
    simp only at h1
    omega
theorem okN_len {leaf : Bool} {items : List It} (h : okN ⟨leaf, items⟩ = true) : 0 < items.length ∧ items.length < 256 := by
  simp only [okN, Bool.and_eq_true, decide_eq_true_eq] at h
  exact ⟨h.1.1.2, h.1.2⟩
theorem okN_child {items : List It} (h : okN ⟨false, items⟩ = true) {i : Nat} {x : It} (hx : items[i]? = some x) : x.child < 65536 := by
  simp only [okN, Bool.and_eq_true, decide_eq_true_eq] at h
  have h1 := List.all_eq_true.1 h.1.1.1 x (List.mem_of_getElem? hx)
  simp only [okI, Bool.and_eq_true, decide_eq_true_eq] at h1
  have h2 := h1.2
  rw [if_neg (by decide)] at h2
  simp only [Bool.and_eq_true, decide_eq_true_eq] at h2
  exact h2.2
theorem row_cap {w : World} {B g n c : Nat} {l : List It} (h : RowI w B (.slice (some ⟨g, 0, none⟩) n c) l) : c ≤ 9223372036854775807 := by
  obtain ⟨h1, h2 | ⟨g', cap, cur, hv, hg, hh, hn, hm, hs, ht⟩⟩ := h
  · cases h2.1
  · cases hv
    unfold maxLen at hm
    omega
theorem put_fin {w wr w5 : World} {pp mb g10 gi p : Nat} {leaf : Bool} {v v' : Value} {items' m : List It} {S1 S' : Pg} (hlt : pp < w.heap.size ∧ mb < w.heap.size) (hk : Keep w wr (farP pp mb)) (hp : PgAt wr pp mb S1.nx S1.F) (hgi : w.heap.size ≤ gi) (hg : w.heap.size ≤ g10) (hne : g10 ≠ gi)
    (hb : wr.heap[g10]? = some (.cells #[.bool leaf, v] 56 (0, 0))) (h5 : Keep wr w5 (fun k => k ≠ gi)) (hr : RowI w5 w.heap.size v' items') (hs : saveF 300 S1 p ⟨leaf, items'⟩ = some (S', m)) : PutAt w (w5.setCell ⟨g10, 1, none⟩ v') pp mb g10 p leaf S' m := by
  have h6 : Below w.heap.size wr w5 := h5.below hk.size (fun k hk e => by omega)
  have h7 : Below w.heap.size wr (w5.setCell ⟨g10, 1, none⟩ v') := h6.setCell (p := ⟨g10, 1, none⟩) hg _
  have hb5 := h5.heap hb hne
  obtain ⟨A, c, rfl, -, -⟩ := hr.reads
  exact ⟨⟨S1, items', A, c, (heap_set hb5 _).trans rfl, row_keep hr (fun k hv => Below.heap_setCell _ _ _ _ (fun e => own_ne hr hb5 (by decide) (by rw [hv]; exact congrArg Option.some e.symm))), hp.keep (h7.block _ hlt.1) (h7.block _ hlt.2), hk.trans_below h7, hs⟩⟩
theorem placeq_calls {w : World} {leaf ok : Bool} {items : List It} {A : Option Addr} {c ln i : Nat} {key : ByteArray} (hA : ItsAt w A items) (hok : okN ⟨leaf, items⟩ = true) (hln : ln = items.length) (hpi : (i, ok) = placeN ⟨leaf, items⟩ key) :
    Calls Try.prog 17 #[.agg #[.bool leaf, .slice A ln c], .string key] w fun e w' => e = .returned (.tuple #[.int .i64 (i : Int), .bool ok]) ∧ Below w.heap.size w w' := by
  have h := place_calls ⟨leaf, items⟩ A c hA hok key
  rw [← hpi] at h
  subst hln
  exact h
set_option maxHeartbeats 4000000 in
set_option maxRecDepth 100000 in
theorem put_calls {pp mb : Nat} (k : Nat) : PutSpec pp mb k := by
  induction k with
  | zero =>
    intro w S S' p key val m h
    cases h
  | succ k ih =>
    intro w S S' p key val m h hp hpk
    have IH := Lib.hid ih
    obtain ⟨leaf, items, hf, hok, hcs⟩ := put_cases h
    obtain ⟨pi, hpi⟩ : ∃ pi, pi = placeN ⟨leaf, items⟩ key := ⟨_, rfl⟩
    obtain ⟨i, ok⟩ := pi
    rw [← hpi] at hcs
    simp only at hcs
    obtain ⟨ln, hln⟩ : ∃ ln, ln = items.length := ⟨_, rfl⟩
    have hlt := hp.lt
    have HP := Lib.hid hp
    have HF := Lib.hid (And.intro hf hok)
    have HCS := Lib.hid hcs
    have HPI := Lib.hid hpi
    have HLN := Lib.hid hln
    have HLT := Lib.hid hlt
    clear h hp hf hok hcs hpi hln hlt ih
    have hne : items ≠ [] := by
      rintro rfl
      have := HF.out.2
      simp [okN] at this
    go_enter Try.func12, Try.ntmps12
    go_upto_region 2 with (first | (go_at_call 16; refine (load_calls HP.out hpk ⟨leaf, items⟩ HF.out.2 (Pg.at_F HF.out.1)).mono ?_; rintro e w1 ⟨v, rfl, hr1, hb1⟩; obtain ⟨gi, c, rfl, hlc, hgi⟩ := hr1.some hne; obtain ⟨A, c', hv, _, hit⟩ := hr1.reads; cases hv; simp only; rw [← HLN.out] at hlc hr1 ⊢; have HR1 := Lib.hid hr1; have HB1 := Lib.hid hb1; have HI1 := Lib.hid hit; clear hr1 hb1 hit))
    obtain ⟨g10, hg10⟩ : ∃ g10, g10 = w1.heap.size := ⟨_, rfl⟩
    obtain ⟨w2, hw2⟩ : ∃ w2, w2 = w1.alloc (.cells #[.bool leaf, .slice (some ⟨gi, 0, none⟩) ln c] 56) := ⟨_, rfl⟩
    have hb2 : Below w1.heap.size w1 w2 := by rw [hw2]; exact below_alloc (Below.refl _ _) _
    have BX2 := Lib.hid (show w2.heap[g10]? = some (.cells #[.bool leaf, .slice (some ⟨gi, 0, none⟩) ln c] 56 (0, 0)) by rw [hw2, hg10]; exact blk_new _ _)
    rw [← hw2, ← hg10]
    have HR2 := Lib.hid (HR1.out.keep hb2)
    have HI2 := Lib.hid (HI1.out.below hb2)
    have HB2 := Lib.hid (HB1.out.trans (hb2.mono HB1.out.size))
    have HG10 := Lib.hid hg10
    clear hg10 hw2 hb2
    have c0 := (blk_cell BX2.out 0).trans rfl
    have c1 := (blk_cell BX2.out 1).trans rfl
    go_upto_block 0 with (first | (go_at_call 17; refine (placeq_calls HI2.out HF.out.2 HLN.out HPI.out).mono ?_; rintro e w3 ⟨rfl, hb3⟩; have HB3 := Lib.hid (HB2.out.trans (hb3.mono HB2.out.size)); have BX3 := Lib.hid (blk_below BX2.out hb3); have HR3 := Lib.hid (HR2.out.keep hb3); have HI3 := Lib.hid (HI2.out.below hb3); clear hb3))
    clear c0 c1
    have c0 := (blk_cell BX3.out 0).trans rfl
    have c1 := (blk_cell BX3.out 1).trans rfl
    go_cut [] (fun wx => PutAt w wx pp mb g10 p leaf S' m)
    case first =>
      rcases HCS.out with ⟨rfl, hok1, x, hx, hs1⟩ | ⟨rfl, hok1, hs1⟩ | ⟨rfl, x, S1, m1, hx, hs1, h2⟩
      · obtain rfl : ok = true := hok1
        have hin : i < ln := by rw [HLN.out]; exact (List.getElem?_eq_some_iff.1 hx).1
        have hin2 : (i : Int) < (ln : Int) := by omega
        obtain ⟨-, y1, -⟩ := HI3.out.key hx
        rw [Nat.zero_add] at y1
        obtain ⟨cur, hcur⟩ := row_block HR3.out
        have f0 := blk_frozen hcur (i * 3 + 1)
        have h10 := (World.ownsRow.lt HR1.out gi rfl).2
        go_wp2_with fail
        go_meet
        rw [← HG10.out] at h10
        have hr4 := HR3.out
        rw [HLN.out] at hr4
        have hb4 : Below w.heap.size w3 (w3.setCell ⟨gi, i * 3 + 1, none⟩ (.string val)) := (Below.refl _ _).setCell (p := ⟨gi, i * 3 + 1, none⟩) hgi _
        refine ⟨⟨S, _, _, c, ?_, by rw [List.length_set]; exact row_set hr4 hx val, HP.out.below (HB3.out.trans hb4), Keep.of_below (HB3.out.trans hb4), hs1⟩⟩
        rw [Below.heap_setCell _ _ _ _ (fun e => by have : g10 = gi := e; omega), List.length_set, ← HLN.out]
        exact BX3.out
      · obtain rfl : ok = false := hok1
        have h10 := (World.ownsRow.lt HR1.out gi rfl).2
        rw [← HG10.out] at h10
        have hlen := (okN_len HF.out.2).2
        have hil := placeN_le HPI.out
        have HS1 := Lib.hid hs1
        have ha4 : Below w3.heap.size w3 (w3.alloc (.cells #[.string key, .string val, .int .i64 0] 53)) := below_alloc (Below.refl _ _) _
        have h3 := (World.ownsRow.lt HR3.out gi rfl).2
        have hb4 := HB3.out.trans (ha4.mono HB3.out.size)
        have HK4 := Lib.hid (Keep.of_below (ok := farP pp mb) hb4)
        have HP4 := Lib.hid (HP.out.below hb4)
        have BX4 := Lib.hid (blk_below BX3.out ha4)
        have HSZ4 := Lib.hid hb4.size
        have HA4 := Lib.hid ha4
        have HG := Lib.hid (show w.heap.size ≤ g10 by omega)
        have H10 := Lib.hid (show g10 ≠ gi by omega)
        have HNB := Lib.hid (show (Value.slice (some ⟨w3.heap.size, 0, none⟩) 1 1).ownBlock ≠ (Value.slice (some ⟨gi, 0, none⟩) ln c).ownBlock from fun e => by have : w3.heap.size = gi := Option.some.inj e; omega)
        clear hs1 ha4 h10 h3 hb4
        go_wp2_with (first | (go_at_call 18; refine (insert_calls (HR3.out.keep HA4.out) (row_new w3 ⟨key, val, 0⟩ rfl) hne (by simp) HNB.out i hil (by simp only [List.length_cons, List.length_nil]; omega) HSZ4.out).mono ?_; rintro e w5 ⟨v5, rfl, hr5, hk5⟩; obtain ⟨A5, n5, c5, rfl⟩ := hr5.val; have HR5 := Lib.hid hr5; have HK5 := Lib.hid (keep_own hk5); have BX5 := Lib.hid (HK5.out.heap BX4.out H10.out); clear hr5 hk5; clear c0 c1; have c0 := (blk_cell BX5.out 0).trans rfl; have c1 := (blk_cell BX5.out 1).trans rfl; have f1 := blk_frozen BX5.out 1))
        go_meet
        exact put_fin HLT.out HK4.out HP4.out hgi HG.out H10.out BX4.out HK5.out HR5.out HS1.out
      · have hin : i < ln := by rw [HLN.out]; exact (List.getElem?_eq_some_iff.1 hx).1
        have hin2 : (i : Int) < (ln : Int) := by omega
        obtain ⟨-, -, y2⟩ := HI3.out.key hx
        rw [Nat.zero_add] at y2
        have hch : x.child < 9000000000 := by have := okN_child HF.out.2 hx; omega
        have h10 := (World.ownsRow.lt HR1.out gi rfl).2
        rw [← HG10.out] at h10
        have hlen := (okN_len HF.out.2).2
        rw [← HLN.out] at hlen
        have h3 := (World.ownsRow.lt HR3.out gi rfl).2
        have HG3 := Lib.hid h3
        have HK3 := Lib.hid (Keep.of_below (ok := farP pp mb) HB3.out)
        have HP3 := Lib.hid (HP.out.below HB3.out)
        have HSZ3 := Lib.hid HB3.out.size
        have HG := Lib.hid (show w.heap.size ≤ g10 by omega)
        have H10 := Lib.hid (show g10 ≠ gi by omega)
        have HX := Lib.hid hx
        have HS1 := Lib.hid hs1
        have H2 := Lib.hid h2
        have HFG := Lib.hid (show farP pp mb g10 from ⟨by have := HLT.out; omega, by have := HLT.out; omega⟩)
        clear h10 h3 hx hs1 h2
        go_upto_region 6 with (first | (go_at_call 12; refine (IH.out.use HS1.out HP3.out hch).mono ?_; rintro e w7 ⟨v7, rfl, hr7, hp7, hk7⟩; obtain ⟨A7, c7, rfl, hlc7, hit7⟩ := hr7.reads; have HR7 := Lib.hid hr7; have HP7 := Lib.hid hp7; have HK7 := Lib.hid hk7; clear hr7 hp7 hk7 hit7))
        clear c0 c1 y2
        have BX7 := Lib.hid (HK7.out.heap BX3.out HFG.out)
        have c0 := (blk_cell BX7.out 0).trans rfl
        have c1 := (blk_cell BX7.out 1).trans rfl
        rcases H2.out with ⟨rfl, rfl, rfl⟩ | ⟨hm0, hm200, hs2⟩
        · go_wp2_with fail
          go_ret2
          exact ⟨_, rfl, World.ownsRow_nil _ _ _ _, HP7.out, HK3.out.trans HK7.out⟩
        · have d0 : ¬ m1.length = 0 := by have := List.length_pos_iff.2 hm0; omega
          have HS2 := Lib.hid hs2
          have hlt3 := HLT.out
          have hsz3 := HSZ3.out
          have HR7b := Lib.hid (HR3.out.far HK7.out (by omega) (by omega))
          have HNB := Lib.hid (show (Value.slice A7 m1.length c7).ownBlock ≠ (Value.slice (some ⟨gi, 0, none⟩) ln c).ownBlock from fun e => by have h7 := World.ownsRow.lt HR7.out gi e; have := HG3.out; omega)
          have HSZ7 := Lib.hid (Nat.le_trans HSZ3.out HK7.out.size)
          have hln2 : items.length + m1.length ≤ 1000000 := by rw [← HLN.out]; omega
          have hil : i + 1 ≤ items.length := by rw [← HLN.out]; omega
          have HM0 := Lib.hid hm0
          have HD0 := Lib.hid d0
          clear hs2 hlt3 hsz3 hm0
          go_wp2_with (first | (go_at_call 18; refine (insert_calls HR7b.out HR7.out hne HM0.out HNB.out (i + 1) hil hln2 HSZ7.out).mono ?_; rintro e w8 ⟨v8, rfl, hr8, hk8⟩; obtain ⟨A8, n8, c8, rfl⟩ := hr8.val; have HR8 := Lib.hid hr8; have HK8 := Lib.hid (keep_own hk8); have BX8 := Lib.hid (HK8.out.heap BX7.out H10.out); clear hr8 hk8; clear c0 c1; have c0 := (blk_cell BX8.out 0).trans rfl; have c1 := (blk_cell BX8.out 1).trans rfl; have f1 := blk_frozen BX8.out 1))
          go_meet
          exact put_fin HLT.out (HK3.out.trans HK7.out) HP7.out hgi HG.out H10.out BX7.out HK8.out HR8.out HS2.out
    case rest =>
      clear c0 c1
      obtain ⟨S1, items2, A2, c2, hb9, hr9, hp9, hk9, hs9⟩ := hcut.out
      obtain ⟨g2, c2', hv, hlc2, hg2⟩ := hr9.some (by rintro rfl; have := (save_all hs9).2.1; simp only [List.length_nil] at this; omega)
      cases hv
      have hit9 : ItsAt wc (some ⟨g2, 0, none⟩) items2 := by
        obtain ⟨A, c', hv, _, hit⟩ := hr9.reads
        cases hv
        exact hit
      have hc2 := row_cap hr9
      obtain ⟨n2, hn2⟩ : ∃ n2, n2 = items2.length := ⟨_, rfl⟩
      rw [← hn2] at hb9 hlc2
      have HN2 := Lib.hid hn2
      have HIT9 := Lib.hid hit9
      have HP9 := Lib.hid hp9
      have HK9 := Lib.hid hk9
      have HS9 := Lib.hid hs9
      have c0 := (blk_cell hb9 0).trans rfl
      have c1 := (blk_cell hb9 1).trans rfl
      clear hcut hb9 hr9 hp9 hk9 hs9 hit9 hn2 hg2
      go_wp2_with (first | (go_at_call 13; refine ((save_calls 300).use HS9.out HP9.out HIT9.out HN2.out hlc2 hc2 hpk).mono ?_; rintro e w10 ⟨v10, rfl, hr10, hp10, hk10⟩; have HR10 := Lib.hid hr10; have HP10 := Lib.hid hp10; have HK10 := Lib.hid hk10; clear hr10 hp10 hk10))
      go_ret2
      exact ⟨_, rfl, HR10.out.base HK9.out.size, HP10.out, HK9.out.trans HK10.out⟩
#print axioms put_calls
end Go.Proofs.YtkmbkgjfhjjicaaT
