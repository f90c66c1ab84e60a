/- Tree: cut. -/
import Derived.Test.YtkmbkgjfhjjicaaTW
namespace Go.Proofs.YtkmbkgjfhjjicaaT
open Go.RowKit Go.Maps Go.Proofs Go.Proofs.YtkmbkgjfhjjicaaW.PrintWords Go.Proofs.YtkmbkgjfhjjicaaW.PrintLast

theorem nil_put (a : Addr) (w : World) : (nilAhead 201 24 (.pointer (some a)) "Put").run Try.prog w = .ok (some false) w := by kernel_rfl
theorem cut_cases {k : Nat} {S S' : Pg} {p : Nat} {key : ByteArray} {fd em : Bool} (h : cutF (k + 1) S p key = some (S', fd, em)) :
    ∃ leaf items, S.f p = some (some ⟨leaf, items⟩) ∧ okN ⟨leaf, items⟩ = true ∧
      ((leaf = true ∧ (placeN ⟨leaf, items⟩ key).2 = false ∧ S' = S ∧ fd = false ∧ em = false) ∨
       (leaf = false ∧ ∃ x, items[(placeN ⟨leaf, items⟩ key).1]? = some x ∧ cutF k S x.child key = some (S', fd, false) ∧ em = false) ∨
       (∃ S1 x, items[(placeN ⟨leaf, items⟩ key).1]? = some x ∧ ((leaf = true ∧ (placeN ⟨leaf, items⟩ key).2 = true ∧ S1 = S) ∨ (leaf = false ∧ ∃ fd1, cutF k S x.child key = some (S1, fd1, true))) ∧ fd = true ∧
         ((items.eraseIdx (placeN ⟨leaf, items⟩ key).1 = [] ∧ em = true ∧ (∃ t, S1.f p = some t) ∧ S' = S1.cut p) ∨
          (items.eraseIdx (placeN ⟨leaf, items⟩ key).1 ≠ [] ∧ em = false ∧ S1.put p ⟨leaf, items.eraseIdx (placeN ⟨leaf, items⟩ key).1⟩ = some S')))) := by
  rw [cutF] at h
  obtain ⟨⟨leaf, items⟩, hg, h⟩ := Option.bind_eq_some_iff.1 h
  obtain ⟨h1, h2⟩ := get_spec hg
  refine ⟨leaf, items, h1, h2, ?_⟩
  simp only at h
  have hfin : ∀ S1 : Pg, (if (items.eraseIdx (placeN ⟨leaf, items⟩ key).1).isEmpty = true then (if (S1.f p).isSome = true then some (S1.cut p, true, true) else none) else (S1.put p ⟨leaf, items.eraseIdx (placeN ⟨leaf, items⟩ key).1⟩).map fun S' => (S', true, false)) = some (S', fd, em) →
      fd = true ∧ ((items.eraseIdx (placeN ⟨leaf, items⟩ key).1 = [] ∧ em = true ∧ (∃ t, S1.f p = some t) ∧ S' = S1.cut p) ∨ (items.eraseIdx (placeN ⟨leaf, items⟩ key).1 ≠ [] ∧ em = false ∧ S1.put p ⟨leaf, items.eraseIdx (placeN ⟨leaf, items⟩ key).1⟩ = some S')) := by
    intro S1 h
    split at h
    · rename_i he
      split at h
      · rename_i hs
        cases h
        exact ⟨rfl, .inl ⟨List.isEmpty_iff.1 he, rfl, Option.isSome_iff_exists.1 hs, rfl⟩⟩
      · cases h
    · rename_i he
      obtain ⟨S2, hp, hq⟩ := Option.map_eq_some_iff.1 h
      cases hq
      exact ⟨rfl, .inr ⟨fun e => he (by rw [e]; rfl), rfl, hp⟩⟩
  cases leaf with
  | true =>
    rw [if_pos rfl] at h
    cases hp : (placeN ⟨true, items⟩ key).2 with
    | false =>
      rw [hp, if_neg Bool.false_ne_true] at h
      cases h
      exact .inl ⟨rfl, rfl, rfl, rfl, rfl⟩
    | true =>
      rw [hp, if_pos rfl] at h
      cases hx : items[(placeN ⟨true, items⟩ key).1]? with
      | none =>
        unfold placeN at hp hx
        rw [if_pos rfl] at hp hx
        simp only at hp hx
        rw [hx] at hp
        cases hp
      | some x => exact .inr (.inr ⟨S, x, rfl, .inl ⟨rfl, rfl, rfl⟩, hfin S h⟩)
  | false =>
    rw [if_neg Bool.false_ne_true] at h
    cases hx : items[(placeN ⟨false, items⟩ key).1]? with
    | none => rw [hx] at h; cases h
    | some x =>
      rw [hx] at h
      simp only at h
      obtain ⟨⟨S1, fd1, em1⟩, h3, h4⟩ := Option.bind_eq_some_iff.1 h
      simp only at h4
      cases em1 with
      | false =>
        rw [if_neg Bool.false_ne_true] at h4
        cases h4
        exact .inr (.inl ⟨rfl, x, rfl, h3, rfl⟩)
      | true =>
        rw [if_pos rfl] at h4
        exact .inr (.inr ⟨S1, x, rfl, .inr ⟨rfl, fd1, h3⟩, hfin S1 h4⟩)
def CutEnd (w : World) (pp mb : Nat) (S' : Pg) (fd em : Bool) (e : Ending) (w' : World) : Prop :=
  e = .returned (.tuple #[.bool fd, .bool em, .nilIface]) ∧ PgAt w' pp mb S'.nx S'.F ∧ Keep w w' (farP pp mb)
def CutSpec (pp mb k : Nat) : Prop := ∀ (w : World) (S S' : Pg) (p : Nat) (key : ByteArray) (fd em : Bool), cutF k S p key = some (S', fd, em) → PgAt w pp mb S.nx S.F → p < 9000000000 →
    Calls Try.prog 15 #[pgv pp, .int .i64 (p : Int), .string key] w (CutEnd w pp mb S' fd em)
theorem CutSpec.use {pp mb k : Nat} (H : CutSpec pp mb k) {w : World} {S S' : Pg} {p : Nat} {key : ByteArray} {fd em : Bool} (h1 : cutF k S p key = some (S', fd, em)) (h2 : PgAt w pp mb S.nx S.F) (h3 : p < 9000000000) :
    Calls Try.prog 15 #[pgv pp, .int .i64 (p : Int), .string key] w (CutEnd w pp mb S' fd em) := H w S S' p key fd em h1 h2 h3
/-- Where the ways of cut meet. -/
structure CutAt (w wx : World) (pp mb g9 gi c : Nat) (leaf : Bool) (items : List It) (S1 : Pg) : Prop where
  blk : wx.heap[g9]? = some (.cells #[.bool leaf, .slice (some ⟨gi, 0, none⟩) items.length c] 56 (0, 0))
  row : RowI wx w.heap.size (.slice (some ⟨gi, 0, none⟩) items.length c) items
  pg : PgAt wx pp mb S1.nx S1.F
  keep : Keep w wx (farP pp mb)
theorem store_fin {w wr w5 : World} {pp mb g10 gi c : Nat} {A : Option Addr} {leaf : Bool} {v : Value} {items' : List It} {S1 : Pg} (hlt : pp < w.heap.size ∧ mb < w.heap.size) (hk : Keep w wr (farP pp mb)) (hp : PgAt wr pp mb S1.nx S1.F) (hgi : w.heap.size ≤ gi) (hg : w.heap.size ≤ g10) (hne : g10 ≠ gi)
    (hb : wr.heap[g10]? = some (.cells #[.bool leaf, v] 56 (0, 0))) (h5 : Keep wr w5 (fun k => k ≠ gi)) (hr : RowI w5 w.heap.size (.slice A items'.length c) items') :
    (w5.setCell ⟨g10, 1, none⟩ (.slice A items'.length c)).heap[g10]? = some (.cells #[.bool leaf, .slice A items'.length c] 56 (0, 0)) ∧ RowI (w5.setCell ⟨g10, 1, none⟩ (.slice A items'.length c)) w.heap.size (.slice A items'.length c) items' ∧ PgAt (w5.setCell ⟨g10, 1, none⟩ (.slice A items'.length c)) pp mb S1.nx S1.F ∧ Keep w (w5.setCell ⟨g10, 1, none⟩ (.slice A items'.length c)) (farP pp mb) := by
  have h6 : Below w.heap.size wr w5 := h5.below hk.size (fun k hk e => by omega)
  have h7 : Below w.heap.size wr (w5.setCell ⟨g10, 1, none⟩ (.slice A items'.length c)) := h6.setCell (p := ⟨g10, 1, none⟩) hg _
  have hb5 := h5.heap hb hne
  exact ⟨(heap_set hb5 _).trans rfl, row_keep hr (fun k hv => Below.heap_setCell _ _ _ _ (fun e => own_ne hr hb5 (by decide) (by rw [hv]; exact congrArg Option.some e.symm))), hp.keep (h7.block _ hlt.1) (h7.block _ hlt.2), hk.trans_below h7⟩
set_option maxHeartbeats 4000000 in
set_option maxRecDepth 100000 in
theorem cut_calls {pp mb : Nat} (k : Nat) : CutSpec pp mb k := by
  induction k with
  | zero =>
    intro w S S' p key fd em h
    cases h
  | succ k ih =>
    intro w S S' p key fd em h hp hpk
    have IH := Lib.hid ih
    obtain ⟨leaf, items, hf, hok, hcs⟩ := cut_cases h
    obtain ⟨pi, hpi⟩ : ∃ pi, pi = placeN ⟨leaf, items⟩ key := ⟨_, rfl⟩
    obtain ⟨i, ok⟩ := pi
    rw [← hpi] at hcs
    simp only at hcs
    obtain ⟨ln, hln⟩ : ∃ ln, ln = items.length := ⟨_, rfl⟩
    have hlt := hp.lt
    have hm1 := meth_put ⟨pp, 0, none⟩
    have hm2 := meth_free ⟨pp, 0, none⟩
    have hm3 := nil_put ⟨pp, 0, none⟩
    have HP := Lib.hid hp
    have HF := Lib.hid (And.intro hf hok)
    have HCS := Lib.hid hcs
    have HPI := Lib.hid hpi
    have HLN := Lib.hid hln
    have HLT := Lib.hid hlt
    clear h hp hf hok hcs hpi hln hlt ih
    have hne : items ≠ [] := by
      rintro rfl
      have := HF.out.2
      simp [okN] at this
    go_enter Try.func15, Try.ntmps15
    go_upto_region 2 with (first | (go_at_call 16; refine (load_calls HP.out hpk ⟨leaf, items⟩ HF.out.2 (Pg.at_F HF.out.1)).mono ?_; rintro e w1 ⟨v, rfl, hr1, hb1⟩; obtain ⟨gi, c, rfl, hlc, hgi⟩ := hr1.some hne; obtain ⟨A, c', hv, _, hit⟩ := hr1.reads; cases hv; simp only; rw [← HLN.out] at hlc hr1 ⊢; have HR1 := Lib.hid hr1; have HB1 := Lib.hid hb1; have HI1 := Lib.hid hit; clear hr1 hb1 hit))
    obtain ⟨g9, hg9⟩ : ∃ g9, g9 = w1.heap.size := ⟨_, rfl⟩
    obtain ⟨w2, hw2⟩ : ∃ w2, w2 = w1.alloc (.cells #[.bool leaf, .slice (some ⟨gi, 0, none⟩) ln c] 56) := ⟨_, rfl⟩
    have hb2 : Below w1.heap.size w1 w2 := by rw [hw2]; exact below_alloc (Below.refl _ _) _
    have BX2 := Lib.hid (show w2.heap[g9]? = some (.cells #[.bool leaf, .slice (some ⟨gi, 0, none⟩) ln c] 56 (0, 0)) by rw [hw2, hg9]; exact blk_new _ _)
    rw [← hw2, ← hg9]
    have HR2 := Lib.hid (HR1.out.keep hb2)
    have HI2 := Lib.hid (HI1.out.below hb2)
    have HB2 := Lib.hid (HB1.out.trans (hb2.mono HB1.out.size))
    have HG9 := Lib.hid hg9
    clear hg9 hw2 hb2
    have c0 := (blk_cell BX2.out 0).trans rfl
    have c1 := (blk_cell BX2.out 1).trans rfl
    go_upto_region 5 with (first | (go_at_call 17; refine (placeq_calls HI2.out HF.out.2 HLN.out HPI.out).mono ?_; rintro e w3 ⟨rfl, hb3⟩; have HB3 := Lib.hid (HB2.out.trans (hb3.mono HB2.out.size)); have BX3 := Lib.hid (blk_below BX2.out hb3); have HR3 := Lib.hid (HR2.out.keep hb3); have HI3 := Lib.hid (HI2.out.below hb3); clear hb3))
    clear c0 c1
    have c0 := (blk_cell BX3.out 0).trans rfl
    have c1 := (blk_cell BX3.out 1).trans rfl
    have HK3 := Lib.hid (Keep.of_below (ok := farP pp mb) HB3.out)
    have HP3 := Lib.hid (HP.out.below HB3.out)
    have h10 := (World.ownsRow.lt HR1.out gi rfl).2
    rw [← HG9.out] at h10
    have HG := Lib.hid (show w.heap.size ≤ g9 by omega)
    have H10 := Lib.hid (show g9 ≠ gi by omega)
    have HFG := Lib.hid (show farP pp mb g9 from ⟨by have := HLT.out; omega, by have := HLT.out; omega⟩)
    clear h10
    rcases HCS.out with ⟨rfl, hok1, rfl, rfl, rfl⟩ | hcs2
    · obtain rfl : ok = false := hok1
      go_wp2_with fail
      go_ret3
      exact ⟨rfl, HP3.out, HK3.out⟩
    · have HC2 := Lib.hid hcs2
      have hno : leaf = false ∨ (leaf = true ∧ ok = true) := by
        rcases hcs2 with ⟨h, _⟩ | ⟨_, _, _, ⟨h, h2, _⟩ | ⟨h, _⟩, _⟩
        · exact .inl h
        · exact .inr ⟨h, h2⟩
        · exact .inl h
      clear hcs2
      go_cut [36] (fun t wx => t = .bool false ∧ w3 = wx)
      case first =>
        rcases hno with rfl | ⟨rfl, rfl⟩
        · go_wp2_with fail
          go_meet
          exact ⟨rfl, rfl⟩
        · go_wp2_with fail
          go_meet
          exact ⟨rfl, rfl⟩
      case rest =>
        obtain ⟨rfl, rfl⟩ := hcut
        clear hno
        rcases HC2.out with ⟨rfl, x, hx, hc1, rfl⟩ | ⟨S1, x, hx, hway, rfl, hfin⟩
        · have hin : i < ln := by rw [HLN.out]; exact (List.getElem?_eq_some_iff.1 hx).1
          have hin2 : (i : Int) < (ln : Int) := by omega
          obtain ⟨-, -, y2⟩ := HI3.out.key hx
          rw [Nat.zero_add] at y2
          have hch : x.child < 9000000000 := by have := okN_child HF.out.2 hx; omega
          have HC1 := Lib.hid hc1
          clear hc1 hx
          go_wp2_with (first | (go_at_call 15; refine (IH.out.use HC1.out HP3.out hch).mono ?_; rintro e w7 ⟨rfl, hp7, hk7⟩; have HP7 := Lib.hid hp7; have HK7 := Lib.hid hk7; clear hp7 hk7))
          go_ret3
          exact ⟨rfl, HP7.out, HK3.out.trans HK7.out⟩
        · have HX := Lib.hid hx
          have HFIN := Lib.hid hfin
          clear hx hfin
          go_upto_if 39 with fail
          go_cut [] (fun wx => CutAt w wx pp mb g9 gi c leaf items S1)
          case first =>
            rcases hway with ⟨rfl, rfl, rfl⟩ | ⟨rfl, fd1, hc1⟩
            · go_wp2_with fail
              go_meet
              exact ⟨by rw [← HLN.out]; exact BX3.out, by rw [← HLN.out]; exact HR3.out, HP3.out, HK3.out⟩
            · have hx := HX.out
              have hin : i < ln := by rw [HLN.out]; exact (List.getElem?_eq_some_iff.1 hx).1
              have hin2 : (i : Int) < (ln : Int) := by omega
              obtain ⟨-, -, y2⟩ := HI3.out.key hx
              rw [Nat.zero_add] at y2
              have hch : x.child < 9000000000 := by have := okN_child HF.out.2 hx; omega
              have HC1 := Lib.hid hc1
              clear hc1 hx
              go_wp2_with (first | (go_at_call 15; refine (IH.out.use HC1.out HP3.out hch).mono ?_; rintro e w7 ⟨rfl, hp7, hk7⟩; have HP7 := Lib.hid hp7; have HK7 := Lib.hid hk7; clear hp7 hk7))
              go_meet
              have hlt := HLT.out
              have hsz := HB3.out.size
              exact ⟨by rw [← HLN.out]; exact HK7.out.heap BX3.out HFG.out, by rw [← HLN.out]; exact HR3.out.far HK7.out (by omega) (by omega), HP7.out, HK3.out.trans HK7.out⟩
          case rest =>
            have hx := HX.out
            have hi : i < items.length := (List.getElem?_eq_some_iff.1 hx).1
            have hlen : items.length ≤ 1000000 := by have := (okN_len HF.out.2).2; omega
            have hi63 : (i : Int) + 1 ≤ 9223372036854775807 := by omega
            have hB := hcut.blk
            have hR := hcut.row
            rw [← HLN.out] at hB hR
            have HBX := Lib.hid hB
            have HRR := Lib.hid hR
            have HCA := Lib.hid hcut
            clear hway hcut hx c0 c1 hB hR
            have c0 := (blk_cell HBX.out 0).trans rfl
            have c1 := (blk_cell HBX.out 1).trans rfl
            go_upto_region 12 with (first | (go_at_call 19; refine (delete_calls HRR.out i hi hlen).mono ?_; rintro e w8 ⟨v8, rfl, hr8, hk8⟩; obtain ⟨A8, c8, rfl, hlc8, _⟩ := hr8.reads; have HR8 := Lib.hid hr8; have HK8 := Lib.hid (keep_own hk8); have BX8 := Lib.hid (HK8.out.heap HBX.out H10.out); clear hr8 hk8; clear c0 c1; have c0 := (blk_cell BX8.out 0).trans rfl; have c1 := (blk_cell BX8.out 1).trans rfl; have f1 := blk_frozen BX8.out 1))
            obtain ⟨n8, hn8⟩ : ∃ n8, n8 = (items.eraseIdx i).length := ⟨_, rfl⟩
            obtain ⟨w9, hw9⟩ : ∃ w9, w9 = w8.setCell ⟨g9, 1, none⟩ (.slice A8 n8 c8) := ⟨_, rfl⟩
            rw [← hn8, ← hw9]
            have h9 := store_fin HLT.out HCA.out.keep HCA.out.pg hgi HG.out H10.out HBX.out HK8.out HR8.out
            rw [← hn8, ← hw9] at h9
            obtain ⟨hb9, hr9, hp9, hk9⟩ := h9
            have BX9 := Lib.hid hb9
            have HR9 := Lib.hid hr9
            have HP9 := Lib.hid hp9
            have HK9 := Lib.hid hk9
            have HN8 := Lib.hid hn8
            clear hb9 hr9 hp9 hk9 hw9 hn8 c0 c1 f1
            have c0 := (blk_cell BX9.out 0).trans rfl
            have c1 := (blk_cell BX9.out 1).trans rfl
            rcases HFIN.out with ⟨he, rfl, ht, rfl⟩ | ⟨he, rfl, hput⟩
            · obtain ⟨t, ht⟩ := ht
              have HT := Lib.hid ht
              obtain rfl : n8 = 0 := by rw [HN8.out, he]; rfl
              clear ht he
              go_wp2_with (first | (go_at_call 44; refine (free_calls HP9.out hpk (Pg.at_F HT.out)).mono ?_; rintro e w10 ⟨rfl, hp10, hk10⟩; have HP10 := Lib.hid hp10; have HK10 := Lib.hid hk10; clear hp10 hk10))
              go_ret3
              refine ⟨rfl, ?_, HK9.out.trans (HK10.out.mono (fun _ _ h => And.left h))⟩
              rw [Pg.cut_F]
              exact HP10.out
            · have hn0 : ¬ n8 = 0 := by have := List.length_pos_iff.2 he; rw [← HN8.out] at this; omega
              obtain ⟨g8, c8', hv, hlc, _⟩ := HR9.out.some he
              rw [← HN8.out] at hv
              cases hv
              have hit9 : ItsAt w9 (some ⟨g8, 0, none⟩) (items.eraseIdx i) := by
                obtain ⟨A, c', hv, _, hit⟩ := HR9.out.reads
                rw [← HN8.out] at hv
                cases hv
                exact hit
              have HALL := Lib.hid (put_all hput).1
              obtain ⟨rfl, hok9, hs512, y, hy⟩ := Pg.put_spec hput
              have HY := Lib.hid hy
              have hn1000 : n8 ≤ 1000 := by have := (okN_len hok9).2; rw [← HN8.out] at this; omega
              obtain ⟨s, hs⟩ : ∃ s, s = ba (encN ⟨leaf, items.eraseIdx i⟩) := ⟨_, rfl⟩
              rw [← ba_size, ← hs] at hs512
              have HS := Lib.hid hs
              have HI9 := Lib.hid hit9
              clear hs hy hok9 hput he hit9 hlc hlc8 hi hlen hi63
              go_upto_region 14 with fail
              obtain ⟨w10, hw10⟩ : ∃ w10, w10 = w9.drew := ⟨_, rfl⟩
              have hb10 : Below w9.heap.size w9 w10 := by rw [hw10]; exact below_drew (Below.refl _ _)
              have hb10b : Below w9.heap.size w9 w10 := hb10
              have BX10 := Lib.hid (blk_below BX9.out hb10)
              have HI10 := Lib.hid (HI9.out.below hb10)
              have HP10 := Lib.hid (HP9.out.below hb10)
              have HW10 := Lib.hid hw10
              clear hw10 hb10 c0 c1
              refine start_ (n := 11) (S := fun w' => w'.cell? ⟨g9, 0, none⟩ = some (.bool leaf) ∧ w'.cell? ⟨g9, 1, none⟩ = some (.slice (some ⟨g8, 0, none⟩) n8 c8)) (ds := []) #[false, false, false, false, false, false, false, false, false, false, false] (by kernel_rfl) rfl rfl ⟨(by rw [← HW10.out]; exact (blk_cell BX10.out 0).trans rfl), (by rw [← HW10.out]; exact (blk_cell BX10.out 1).trans rfl)⟩ (fun hHeld => ?_)
              rw [← HW10.out] at hHeld ⊢
              refine pure_ (i := 0) (N := some 75) (v := ?_) (a' := ?_) #[true, false, false, false, false, false, false, false, false, false, false] rfl rfl (by kernel_rfl) (fun _ _ _ h => h) (Or.inl ⟨by rfl, ?_⟩) ?_ ?_
              rotate_left
              · intro w'
                go_simp
                with_reducible rfl
              rotate_left
              · simp only [Act.put, List.setIfInBounds_toArray, List.set_cons_zero, List.set_cons_succ]
                rfl
              refine pure_ (i := 1) (N := some 76) (v := ?_) (a' := ?_) #[true, true, false, false, false, false, false, false, false, false, false] rfl rfl (by kernel_rfl) (fun _ _ _ h => h) (Or.inl ⟨by rfl, ?_⟩) ?_ ?_
              rotate_left
              · intro w'
                go_simp
                with_reducible rfl
              rotate_left
              · simp only [Act.put, List.setIfInBounds_toArray, List.set_cons_zero, List.set_cons_succ]
                rfl
              refine pure_ (i := 4) (N := some 79) (v := ?_) (a' := ?_) #[true, true, false, false, true, false, false, false, false, false, false] rfl rfl (by kernel_rfl) (fun _ _ _ h => h) (Or.inl ⟨by rfl, ?_⟩) ?_ ?_
              rotate_left
              · intro w'
                go_simp
                with_reducible rfl
              rotate_left
              · simp only [Act.put, List.setIfInBounds_toArray, List.set_cons_zero, List.set_cons_succ]
                rfl
              refine pure_ (i := 5) (N := some 80) (v := ?_) (a' := ?_) #[true, true, false, false, true, true, false, false, false, false, false] rfl rfl (by kernel_rfl) (fun _ _ _ h => h) (Or.inl ⟨by rfl, ?_⟩) ?_ ?_
              rotate_left
              · intro w'
                go_simp
                with_reducible rfl
              rotate_left
              · simp only [Act.put, List.setIfInBounds_toArray, List.set_cons_zero, List.set_cons_succ]
                rfl
              refine pure_ (i := 6) (N := some 81) (v := ?_) (a' := ?_) #[true, true, false, false, true, true, true, false, false, false, false] rfl rfl (by kernel_rfl) (fun _ _ _ h => h) (Or.inl ⟨by rfl, ?_⟩) ?_ ?_
              rotate_left
              · intro w'
                go_simp
                with_reducible rfl
              rotate_left
              · simp only [Act.put, List.setIfInBounds_toArray, List.set_cons_zero, List.set_cons_succ]
                rfl
              refine take_ (i := 2) (N := some 77) (v := ?_) (a' := ?_) #[true, true, true, false, true, true, true, false, false, false, false] rfl rfl (by kernel_rfl) (fun _ _ _ h => h) (Or.inl ⟨by rfl, ?_⟩) hHeld ?_ ?_
              rotate_left
              · rintro w' ⟨s0, s1⟩
                go_simp
                with_reducible rfl
              rotate_left
              · simp only [Act.put, List.setIfInBounds_toArray, List.set_cons_zero, List.set_cons_succ]
                rfl
              refine one_ (i := 3) (N := some 78) #[true, true, true, true, true, true, true, false, false, false, false] rfl rfl (by kernel_rfl) (by decide) (fun K hK => ?_)
              refine goes_ Try.func11 (by kernel_rfl) rfl #[.agg #[.bool leaf, .slice (some ⟨g8, 0, none⟩) n8 c8]] (by rfl) rfl rfl (by simp only [List.map_toArray, List.map_cons, List.map_nil]; rfl) ?_
              with_reducible refine (encW_calls HI10.out HALL.out HN8.out hn1000 c8).mono ?_
              rintro e w11 ⟨rfl, hb11⟩
              refine ⟨_, rfl, ?_⟩
              rw [← HS.out]
              have HB11 := Lib.hid (hb10b.trans (hb11.mono hb10b.size))
              have HP11 := Lib.hid (HP10.out.below hb11)
              have BX11 := Lib.hid (blk_below BX10.out hb11)
              clear hb11
              refine hK.out _ _ ⟨(blk_cell BX11.out 0).trans rfl, (blk_cell BX11.out 1).trans rfl⟩ (fun hHeld => ?_)
              clear hK K
              refine norm_ (a' := ?_) ?_ ?_
              rotate_left
              · show Act.put _ (some 78) _ = _
                simp only [Act.put, List.setIfInBounds_toArray, List.set_cons_zero, List.set_cons_succ]
                rfl
              refine one_ (i := 7) (N := some 82) #[true, true, true, true, true, true, true, true, false, false, false] rfl rfl (by kernel_rfl) (by decide) (fun K hK => ?_)
              refine call_ 47 #[.pointer (some ⟨pp, 0, none⟩), .int .i64 (p : Int), .string s] (by rfl) rfl ?_ ?_
              · go_simp
              with_reducible refine (pput_calls HP11.out hpk (Pg.at_F HY.out) hs512).mono ?_
              rintro e w12 ⟨rfl, hp12, hk12⟩
              refine ⟨_, rfl, ?_⟩
              have HP12 := Lib.hid hp12
              have HK12 := Lib.hid (show Keep w11 w12 (farP pp mb) from hk12.mono (fun _ _ h => And.left h))
              clear hp12 hk12
              have BX12 := Lib.hid (HK12.out.heap BX11.out HFG.out)
              refine hK.out _ _ ⟨(blk_cell BX12.out 0).trans rfl, (blk_cell BX12.out 1).trans rfl⟩ (fun hHeld => ?_)
              clear hK K
              refine norm_ (a' := ?_) ?_ ?_
              rotate_left
              · show Act.put _ (some 82) _ = _
                simp only [Act.put, List.setIfInBounds_toArray, List.set_cons_zero, List.set_cons_succ]
                rfl
              refine pure_ (i := 8) (N := some 6) (v := ?_) (a' := ?_) #[true, true, true, true, true, true, true, true, true, false, false] rfl rfl (by kernel_rfl) (fun _ _ _ h => h) (Or.inl ⟨by rfl, ?_⟩) ?_ ?_
              rotate_left
              · intro w'
                go_simp
                with_reducible rfl
              rotate_left
              · simp only [Act.put, List.setIfInBounds_toArray, List.set_cons_zero, List.set_cons_succ]
                rfl
              refine pure_ (i := 9) (N := some 7) (v := ?_) (a' := ?_) #[true, true, true, true, true, true, true, true, true, true, false] rfl rfl (by kernel_rfl) (fun _ _ _ h => h) (Or.inl ⟨by rfl, ?_⟩) ?_ ?_
              rotate_left
              · intro w'
                go_simp
                with_reducible rfl
              rotate_left
              · simp only [Act.put, List.setIfInBounds_toArray, List.set_cons_zero, List.set_cons_succ]
                rfl
              refine pure_ (i := 10) (N := some 8) (v := ?_) (a' := ?_) #[true, true, true, true, true, true, true, true, true, true, true] rfl rfl (by kernel_rfl) (fun _ _ _ h => h) (Or.inl ⟨by rfl, ?_⟩) ?_ ?_
              rotate_left
              · intro w'
                go_simp
                with_reducible rfl
              rotate_left
              · simp only [Act.put, List.setIfInBounds_toArray, List.set_cons_zero, List.set_cons_succ]
                rfl
              refine done_ (by kernel_rfl) ?_
              clear hHeld
              go_wp2_with fail
              go_ret3
              refine ⟨rfl, ?_, (HK9.out.trans (Keep.of_below HB11.out)).trans (HK12.out)⟩
              rw [Pg.set_F, show bytesP (some ⟨leaf, items.eraseIdx i⟩) = s from HS.out.symm]
              exact HP12.out
#print axioms cut_calls
end Go.Proofs.YtkmbkgjfhjjicaaT
