/- Tree: walk. -/
import Derived.Test.YtkmbkgjfhjjicaaTA
namespace Go.Proofs.YtkmbkgjfhjjicaaT
open Go.RowKit Go.Maps Go.Proofs Go.Proofs.YtkmbkgjfhjjicaaW.PrintWords Go.Proofs.YtkmbkgjfhjjicaaW.PrintLast

def WalkEnd (w : World) (B : Nat) (l' : List Pr) (e : Ending) (w' : World) : Prop := ∃ v, e = .returned (.tuple #[v, .nilIface]) ∧ RowP w' B v l' ∧ KeepP w w' ∧ Below B w w'
def WalkSpec (pp mb k : Nat) : Prop := ∀ (w : World) (S : Pg) (p limit B : Nat) (v : Value) (l l' : List Pr), walkF k S p limit l = some l' → PgAt w pp mb S.nx S.F → p < 9000000000 → limit ≤ 1000 → RowP w B v l → B ≤ w.heap.size → pp < B → mb < B →
    Calls Try.prog 14 #[pgv pp, .int .i64 (p : Int), .string ⟨#[]⟩, .string ⟨#[]⟩, .int .i64 (limit : Int), v] w (WalkEnd w B l')
theorem WalkSpec.use {pp mb k : Nat} (H : WalkSpec pp mb k) {w : World} {S : Pg} {p limit B : Nat} {v : Value} {l l' : List Pr} (h1 : walkF k S p limit l = some l') (h2 : PgAt w pp mb S.nx S.F) (h3 : p < 9000000000) (h4 : limit ≤ 1000) (h5 : RowP w B v l) (h6 : B ≤ w.heap.size) (h7 : pp < B) (h8 : mb < B) :
    Calls Try.prog 14 #[pgv pp, .int .i64 (p : Int), .string ⟨#[]⟩, .string ⟨#[]⟩, .int .i64 (limit : Int), v] w (WalkEnd w B l') := H w S p limit B v l l' h1 h2 h3 h4 h5 h6 h7 h8
/-- What holds at each item. -/
structure WalkAt (w wr : World) (pp mb B g14 gi ln c k limit : Nat) (S : Pg) (leaf : Bool) (items : List It) (l l' : List Pr) (v : Value) (i : Nat) : Prop where
  blk : wr.heap[g14]? = some (.cells #[.bool leaf, .slice (some ⟨gi, 0, none⟩) ln c] 56 (0, 0))
  row : RowI wr w.heap.size (.slice (some ⟨gi, 0, none⟩) ln c) items
  rowP : RowP wr B v l
  keep : KeepP w wr
  bel : Below B w wr
  left : walkI k S leaf limit (items.drop i) l = some l'
theorem notless_nil (k : ByteArray) : Op.bytesLess k.toList [] = false := by
  cases h : k.toList <;> rfl
theorem nil_less {k : ByteArray} (h : k.size ≠ 0) : Op.bytesLess [] k.toList = true := by
  rw [ByteArray.toList_eq]
  obtain ⟨⟨l⟩⟩ := k
  cases l with
  | nil => exact absurd rfl h
  | cons a l => rfl
theorem okN_key {items : List It} (h : okN ⟨false, items⟩ = true) {i : Nat} {x : It} (hx : items[i]? = some x) (hi : 0 < i) : x.key.size ≠ 0 := by
  simp only [okN, Bool.and_eq_true] at h
  have h2 := h.2
  rw [if_neg Bool.false_ne_true] at h2
  simp only [Bool.and_eq_true] at h2
  have hm : x ∈ items.drop 1 := List.mem_of_getElem? (i := i - 1) (by rw [List.getElem?_drop, show 1 + (i - 1) = i by omega]; exact hx)
  exact of_decide_eq_true (List.all_eq_true.1 h2.2 x hm)
theorem isEmpty_no {l : List UInt8} (h : ¬ l = []) : l.isEmpty = false := by
  cases l with
  | nil => exact absurd rfl h
  | cons a l => rfl
theorem WalkAt.step {w wr w5 : World} {pp mb B g14 gi ln c k limit : Nat} {S : Pg} {leaf : Bool} {items : List It} {l l' : List Pr} {v : Value} {i : Nat} (h : WalkAt w wr pp mb B g14 gi ln c k limit S leaf items l l' v i) (hb : Below wr.heap.size wr w5) (hBw : B ≤ w.heap.size) : WalkAt w w5 pp mb B g14 gi ln c k limit S leaf items l l' v i :=
  ⟨blk_below h.blk hb, h.row.keep hb, h.rowP.keep hb, h.keep.trans (KeepP.of_below hb), h.bel.trans (hb.mono (Nat.le_trans hBw h.keep.size)), h.left⟩
set_option maxHeartbeats 4000000 in
set_option maxRecDepth 100000 in
theorem walk_calls {pp mb : Nat} (k : Nat) : WalkSpec pp mb k := by
  induction k with
  | zero =>
    intro w S p limit B v l l' h
    cases h
  | succ k ih =>
    intro w S p limit B v l l' h hp hpk hlim hrp hBw hB1 hB2
    have IH := Lib.hid ih
    obtain ⟨leaf, items, hf, hok, hcs⟩ := walk_cases h
    obtain ⟨ln, hln⟩ : ∃ ln, ln = items.length := ⟨_, rfl⟩
    have HP := Lib.hid hp
    have HF := Lib.hid (And.intro hf hok)
    have HCS := Lib.hid hcs
    have HLN := Lib.hid hln
    have HRP := Lib.hid hrp
    have HB := Lib.hid (And.intro hBw (And.intro hB1 hB2))
    clear h hp hf hok hcs hln ih hrp hBw hB1 hB2
    have hne : items ≠ [] := by
      rintro rfl
      have := HF.out.2
      simp [okN] at this
    go_enter Try.func14, Try.ntmps14
    go_upto_region 2 with (first | (go_at_call 16; refine (load_calls HP.out hpk ⟨leaf, items⟩ HF.out.2 (Pg.at_F HF.out.1)).mono ?_; rintro e w1 ⟨v1, rfl, hr1, hb1⟩; obtain ⟨gi, c, rfl, hlc, hgi⟩ := hr1.some hne; simp only; rw [← HLN.out] at hlc hr1 ⊢; have HR1 := Lib.hid hr1; have HB1 := Lib.hid hb1; clear hr1 hb1))
    obtain ⟨g14, hg14⟩ : ∃ g14, g14 = w1.heap.size := ⟨_, rfl⟩
    obtain ⟨w2, hw2⟩ : ∃ w2, w2 = w1.alloc (.cells #[.bool leaf, .slice (some ⟨gi, 0, none⟩) ln c] 56) := ⟨_, rfl⟩
    have hb2 : Below w1.heap.size w1 w2 := by rw [hw2]; exact below_alloc (Below.refl _ _) _
    have BX2 := Lib.hid (show w2.heap[g14]? = some (.cells #[.bool leaf, .slice (some ⟨gi, 0, none⟩) ln c] 56 (0, 0)) by rw [hw2, hg14]; exact blk_new _ _)
    rw [← hw2, ← hg14]
    have hbr := HB1.out.trans (hb2.mono HB1.out.size)
    have HW := Lib.hid (show WalkAt w w2 pp mb B g14 gi ln c k limit S leaf items l l' v 0 from ⟨BX2.out, HR1.out.keep hb2, HRP.out.keep hbr, KeepP.of_below hbr, hbr.mono HB.out.1, by rw [List.drop_zero]; exact HCS.out⟩)
    clear hw2 hb2 hbr hg14
    have c0 := (blk_cell BX2.out 0).trans rfl
    have c1 := (blk_cell BX2.out 1).trans rfl
    go_wp2_with fail
    go_loopw [5, 30] (fun av iv wr => ∃ i : Nat, iv = .int .i64 (i : Int) ∧ i ≤ ln ∧ Hid (∃ l1, WalkAt w wr pp mb B g14 gi ln c k limit S leaf items l1 l' av i)) (fun _ iv _ => ln - (intOf iv).toNat)
    case atStart => exact ⟨0, rfl, Nat.zero_le _, Lib.hid ⟨l, HW.out⟩⟩
    case round =>
      obtain ⟨i, rfl, hil, HWR⟩ := hrel
      obtain ⟨l1, hwr⟩ := HWR.out
      obtain ⟨A5, c5, rfl, hlc5, -⟩ := hwr.rowP.reads
      obtain ⟨n5, hn5⟩ : ∃ n5, n5 = l1.length := ⟨_, rfl⟩
      rw [← hn5] at hwr hlc5 ⊢
      have HN5 := Lib.hid hn5
      have HWA := Lib.hid hwr
      clear hwr HWR hn5 c0 c1
      have c0 := (blk_cell HWA.out.blk 0).trans rfl
      have c1 := (blk_cell HWA.out.blk 1).trans rfl
      by_cases hin : i < ln
      · have hin2 : (i : Int) < (ln : Int) := by omega
        obtain ⟨x, hx⟩ : ∃ x, items[i]? = some x := ⟨_, List.getElem?_eq_getElem (by rw [← HLN.out]; exact hin)⟩
        have hit : ItsAt wr (some ⟨gi, 0, none⟩) items := itsat_of HWA.out.row
        obtain ⟨y0, y1, y2⟩ := hit.key hx
        have HX := Lib.hid hx
        have HIT := Lib.hid hit
        simp only [Nat.zero_add] at y0 y1 y2
        clear hx hit
        go_upto_region 7 with fail
        obtain ⟨g17, hg17⟩ : ∃ g17, g17 = wr.heap.size := ⟨_, rfl⟩
        obtain ⟨w5, hw5⟩ : ∃ w5, w5 = wr.alloc (.cells #[.string x.key, .string x.val, .int .i64 (x.child : Int)] 53) := ⟨_, rfl⟩
        have hb5 : Below wr.heap.size wr w5 := by rw [hw5]; exact below_alloc (Below.refl _ _) _
        have BX5 := Lib.hid (show w5.heap[g17]? = some (.cells #[.string x.key, .string x.val, .int .i64 (x.child : Int)] 53 (0, 0)) by rw [hw5, hg17]; exact blk_new _ _)
        rw [← hw5, ← hg17]
        have HW5 := Lib.hid (HWA.out.step hb5 HB.out.1)
        clear hw5 hg17 hb5 c0 c1 y0 y1 y2
        have c0 := (blk_cell HW5.out.blk 0).trans rfl
        have c1 := (blk_cell HW5.out.blk 1).trans rfl
        have x0 := (blk_cell BX5.out 0).trans rfl
        have x1 := (blk_cell BX5.out 1).trans rfl
        have x2 := (blk_cell BX5.out 2).trans rfl
        have hlen : ln < 256 := by have := (okN_len HF.out.2).2; rw [← HLN.out] at this; exact this
        by_cases hfull : limit ≤ n5
        · have e0 : (limit : Int) ≤ (n5 : Int) := by omega
          go_wp2_with fail
          go_ret2
          have hl := walkI_full HW5.out.left (by rw [← HN5.out]; exact hfull)
          subst hl
          exact ⟨_, rfl, HW5.out.rowP, HW5.out.keep, HW5.out.bel⟩
        · have e0 : ¬ ((limit : Int) ≤ (n5 : Int)) := by omega
          have hnext := walkI_next HW5.out.left HX.out (by rw [← HN5.out]; exact hfull)
          rcases hnext with ⟨rfl, hl2⟩ | ⟨rfl, l2, hw2, hl2⟩
          · have HL2 := Lib.hid hl2
            have b0 := notless_nil x.key
            have hsz5 : B ≤ w5.heap.size := Nat.le_trans HB.out.1 HW5.out.keep.size
            have ha6 : Below w5.heap.size w5 (w5.alloc (.cells #[.string x.key, .string x.val] 38)) := below_alloc (Below.refl _ _) _
            have hs6 := HW5.out.step ha6 HB.out.1
            obtain ⟨v6, w6, hr6, ho6, hg6⟩ := hs6.rowP.run_append [(x.key, x.val)] ⟨w5.heap.size, 0, none⟩ 1 (fun j u hu => by
              rw [Addr.add_lit, Nat.zero_add]
              refine (blk_cell (blk_new w5 (.cells #[.string x.key, .string x.val] 38)) j).trans ?_
              rw [← hu, show flatP [(x.key, x.val)] = [.string x.key, .string x.val] from rfl]
              simp) (by rw [← HN5.out]; simp only [List.length_cons, List.length_nil]; omega) (Nat.le_trans hsz5 ha6.size) 34
            have HO6 := Lib.hid ho6
            have HKP6 := Lib.hid (KeepP.of_grown hs6.rowP hg6)
            have HBL6 := Lib.hid (grown_belowP hs6.rowP hs6.bel (Nat.le_trans hsz5 ha6.size) hg6)
            have HS6 := Lib.hid hs6
            clear hl2 hs6 ho6 hg6 ha6 hsz5
            go_wp2_with (first | (at_builtin; refine wpList_append_run _ rfl _ _ _ _ rfl _ _ rfl rfl hr6 ?_))
            exact ⟨⟨i + 1, rfl, by omega, Lib.hid ⟨_, HKP6.out.block _ _ _ _ HS6.out.blk (by decide), HS6.out.row.keepP HKP6.out, HO6.out, HS6.out.keep.trans HKP6.out, HBL6.out, HL2.out⟩⟩, by simp only [intOf]; omega⟩
          · have HL2 := Lib.hid hl2
            have HW2 := Lib.hid hw2
            clear hl2 hw2
            go_upto_region 11 with fail
            go_cut [93] (fun t wx => t = .bool false ∧ w5 = wx)
            case first =>
              by_cases e1 : i + 1 < ln
              · have e1' : (i : Int) + 1 < (ln : Int) := by omega
                obtain ⟨y, hy⟩ : ∃ y, items[i + 1]? = some y := ⟨_, List.getElem?_eq_getElem (by rw [← HLN.out]; exact e1)⟩
                obtain ⟨y0, -, -⟩ := (itsat_of HW5.out.row).key hy
                simp only [Nat.zero_add] at y0
                have b2 := notless_nil y.key
                have b3 : ¬ y.key.toList = [] := fun e => by
                  have := nil_less (okN_key HF.out.2 hy (by omega))
                  rw [e] at this
                  cases this
                clear hy
                by_cases e2 : 0 < i
                · go_wp2_with fail
                  go_meet
                  exact ⟨congrArg Value.bool (isEmpty_no b3), rfl⟩
                · go_wp2_with fail
                  go_meet
                  exact ⟨congrArg Value.bool (isEmpty_no b3), rfl⟩
              · have e1' : ¬ ((i : Int) + 1 < (ln : Int)) := by omega
                by_cases e2 : 0 < i
                · go_wp2_with fail
                  go_meet
                  exact ⟨rfl, rfl⟩
                · go_wp2_with fail
                  go_meet
                  exact ⟨rfl, rfl⟩
            case rest =>
              obtain ⟨rfl, rfl⟩ := hcut
              have hch : x.child < 9000000000 := by have := okN_child HF.out.2 HX.out; omega
              have HSZ5 := Lib.hid (Nat.le_trans HB.out.1 HW5.out.keep.size)
              have HP5 := Lib.hid (HP.out.keep (HW5.out.bel.block _ HB.out.2.1) (HW5.out.bel.block _ HB.out.2.2))
              go_wp2_with (first | (go_at_call 14; refine (IH.out.use HW2.out HP5.out hch hlim HW5.out.rowP HSZ5.out HB.out.2.1 HB.out.2.2).mono ?_; rintro e w6 ⟨v6, rfl, hr6, hk6, hb6⟩; have HR6 := Lib.hid hr6; have HK6 := Lib.hid hk6; have HB6 := Lib.hid hb6; clear hr6 hk6 hb6))
              exact ⟨⟨i + 1, rfl, by omega, Lib.hid ⟨_, HK6.out.block _ _ _ _ HW5.out.blk (by decide), HW5.out.row.keepP HK6.out, HR6.out, HW5.out.keep.trans HK6.out, HW5.out.bel.trans HB6.out, HL2.out⟩⟩, by simp only [intOf]; omega⟩
      · have hin2 : ¬ ((i : Int) < (ln : Int)) := by omega
        obtain rfl : i = ln := by omega
        clear hin
        go_wp2_with fail
        go_ret2
        have hl := HWA.out.left
        rw [List.drop_eq_nil_of_le (Nat.le_of_eq HLN.out.symm), walkI] at hl
        obtain rfl := Option.some.inj hl
        exact ⟨_, rfl, HWA.out.rowP, HWA.out.keep, HWA.out.bel⟩
#print axioms walk_calls
end Go.Proofs.YtkmbkgjfhjjicaaT
