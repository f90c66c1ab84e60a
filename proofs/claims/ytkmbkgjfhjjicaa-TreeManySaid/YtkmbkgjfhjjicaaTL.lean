/- Tree: the order of keys, and place. -/
import Derived.Test.YtkmbkgjfhjjicaaTS
namespace Go.Proofs.YtkmbkgjfhjjicaaT
open Go.RowKit Go.Maps Go.Proofs Go.Proofs.YtkmbkgjfhjjicaaW.PrintWords Go.Proofs.YtkmbkgjfhjjicaaW.PrintLast Go.Lib Go.Sort

/-! ### The order -/
theorem lt_iff {a b : ByteArray} : lt a b = true ↔ a.data.toList < b.data.toList := by
  rw [lt, bytesLess_eq, decide_eq_true_eq, ByteArray.toList_eq, ByteArray.toList_eq]
theorem lt_trans {a b c : ByteArray} (h : lt a b = true) (h2 : lt b c = true) : lt a c = true := lt_iff.2 (List.lt_trans (lt_iff.1 h) (lt_iff.1 h2))
theorem lt_irrefl (a : ByteArray) : lt a a = false := by
  cases h : lt a a with
  | false => rfl
  | true => exact absurd (lt_iff.1 h) (List.lt_irrefl _)
theorem same_iff {a b : ByteArray} : (a.toList == b.toList) = true ↔ a = b := by
  rw [beq_iff_eq, ByteArray.toList_eq, ByteArray.toList_eq]
  exact ⟨fun h => by obtain ⟨⟨x⟩⟩ := a; obtain ⟨⟨y⟩⟩ := b; exact congrArg (fun l : List UInt8 => (⟨⟨l⟩⟩ : ByteArray)) h, fun h => by rw [h]⟩
theorem lt_total {a b : ByteArray} (h : a ≠ b) : lt a b = true ∨ lt b a = true := by
  rcases Decidable.em (a.data.toList < b.data.toList) with h1 | h1
  · exact .inl (lt_iff.2 h1)
  · rcases Decidable.em (b.data.toList < a.data.toList) with h2 | h2
    · exact .inr (lt_iff.2 h2)
    · have h3 : a.data.toList = b.data.toList := List.le_antisymm (List.not_lt.1 h2) (List.not_lt.1 h1)
      exact absurd (same_iff.1 (by rw [ByteArray.toList_eq, ByteArray.toList_eq, h3]; exact beq_self_eq_true _)) h
theorem rising_at : ∀ {l : List It}, rising l = true → ∀ {a b : Nat} {x y : It}, a < b → l[a]? = some x → l[b]? = some y → lt x.key y.key = true
  | [], _, a, b, x, y, _, hx, _ => by simp at hx
  | [z], _, a, b, x, y, hab, hx, hy => by
    have := (List.getElem?_eq_some_iff.1 hy).1
    simp at this
    omega
  | z :: u :: l, h, a, b, x, y, hab, hx, hy => by
    rw [rising, Bool.and_eq_true] at h
    cases b with
    | zero => omega
    | succ b =>
      have hy' : (u :: l)[b]? = some y := by simpa using hy
      cases a with
      | zero =>
        simp at hx
        subst hx
        cases b with
        | zero =>
          simp at hy'
          subst hy'
          exact h.1
        | succ b => exact lt_trans h.1 (rising_at h.2 (a := 0) (b := b + 1) (by omega) (by simp) hy')
      | succ a => exact rising_at h.2 (a := a) (b := b) (by omega) (by simpa using hx) hy'
/-- A search over a list: how many are still false. -/
theorem count_first (p : It → Bool) : ∀ (l : List It), (∀ (a b : Nat) (x y : It), a ≤ b → l[a]? = some x → l[b]? = some y → p x = true → p y = true) → ∀ d : It, (List.range l.length).countP (fun i => !p (l.getD i d)) = firstIdx p l
  | [], _, d => rfl
  | x :: l, h, d => by
    have h2 := count_first p l (fun a b y z hab hy hz => h (a + 1) (b + 1) y z (by omega) (by simpa using hy) (by simpa using hz)) d
    rw [List.length_cons, List.range_succ_eq_map, List.countP_cons, List.countP_map]
    have e : (List.range l.length).countP ((fun i => !p ((x :: l).getD i d)) ∘ Nat.succ) = (List.range l.length).countP (fun i => !p (l.getD i d)) := by
      congr 1
    rw [e, h2, firstIdx]
    cases hp : p x with
    | true =>
      have : firstIdx p l = 0 := by
        cases l with
        | nil => rfl
        | cons y l => rw [firstIdx, h 0 1 x y (by omega) (by simp) (by simp) hp]; rfl
      rw [this]
      simp [List.getD, hp]
    | false => simp [List.getD, hp]
theorem getD_at {l : List It} {i : Nat} (h : i < l.length) (d : It) : l[i]? = some (l.getD i d) := by
  rw [List.getD_eq_getElem?_getD, List.getElem?_eq_getElem h]
  rfl
theorem firstIdx_le (p : It → Bool) : ∀ l : List It, firstIdx p l ≤ l.length
  | [] => Nat.le_refl _
  | x :: l => by
    have := firstIdx_le p l
    rw [firstIdx, List.length_cons]
    split <;> omega
/-! ### Items in memory -/
theorem flat_cons (x : It) (l : List It) : flat (x :: l) = .string x.key :: .string x.val :: .int .i64 (x.child : Int) :: flat l := rfl
theorem flat_append (l m : List It) : flat (l ++ m) = flat l ++ flat m := by simp [flat]
theorem flat_len : ∀ l : List It, (flat l).length = l.length * 3
  | [] => rfl
  | x :: l => by rw [flat_cons]; simp only [List.length_cons, flat_len l]; omega
theorem flat_at : ∀ {l : List It} {i : Nat} {x : It}, l[i]? = some x → (flat l)[i * 3]? = some (.string x.key) ∧ (flat l)[i * 3 + 1]? = some (.string x.val) ∧ (flat l)[i * 3 + 2]? = some (.int .i64 (x.child : Int))
  | [], i, x, h => by simp at h
  | y :: l, 0, x, h => by
    simp at h
    subst h
    exact ⟨rfl, rfl, rfl⟩
  | y :: l, i + 1, x, h => by
    have h2 := flat_at (l := l) (i := i) (x := x) (by simpa using h)
    rw [flat_cons, show (i + 1) * 3 = i * 3 + 3 by omega]
    exact h2
theorem ItsAt.item {w : World} {A : Option Addr} {l : List It} (h : ItsAt w A l) (h0 : l ≠ []) : ∃ blk off, A = some ⟨blk, off, none⟩ ∧ ∀ i x, l[i]? = some x → w.cell? ⟨blk, off + i * 3, none⟩ = some (.string x.key) ∧ w.cell? ⟨blk, off + i * 3 + 1, none⟩ = some (.string x.val) ∧ w.cell? ⟨blk, off + i * 3 + 2, none⟩ = some (.int .i64 (x.child : Int)) := by
  obtain ⟨⟨blk, off, sp⟩, rfl, hs, hc⟩ := h h0
  simp only at hs
  subst hs
  refine ⟨blk, off, rfl, fun i x hx => ?_⟩
  obtain ⟨e0, e1, e2⟩ := flat_at hx
  exact ⟨hc _ _ e0, hc _ _ e1, hc _ _ e2⟩
theorem ItsAt.below {w w' : World} {A : Option Addr} {l : List It} (h : ItsAt w A l) (hb : Below w.heap.size w w') : ItsAt w' A l := fun h0 => by
  obtain ⟨ad, rfl, hs, hc⟩ := h h0
  exact ⟨ad, rfl, hs, fun j u hu => by rw [hb.cell (World.block_lt_of_cell? w _ (hc j u hu))]; exact hc j u hu⟩
set_option maxHeartbeats 2000000 in
set_option maxRecDepth 100000 in
theorem place_calls {w : World} (n : Nd) (A : Option Addr) (c : Nat) (hA : ItsAt w A n.items) (hok : okN n = true) (key : ByteArray) :
    Calls Try.prog 17 #[.agg #[.bool n.leaf, .slice A n.items.length c], .string key] w fun e w' => e = .returned (.tuple #[.int .i64 ((placeN n key).1 : Int), .bool (placeN n key).2]) ∧ Below w.heap.size w w' := by
  obtain ⟨leaf, items⟩ := n
  simp only at hA ⊢
  have hok' : (0 < items.length ∧ items.length < 256) ∧ (if leaf then rising items else rising (items.drop 1) && (items.drop 1).all (fun x => decide (x.key.size ≠ 0))) = true := by
    simp only [okN, Bool.and_eq_true, decide_eq_true_eq] at hok
    exact ⟨⟨hok.1.1.2, hok.1.2⟩, hok.2⟩
  obtain ⟨⟨hl0, hl1⟩, hr⟩ := hok'
  obtain ⟨blk, off, rfl, hit⟩ := hA.item (by rintro rfl; simp at hl0)
  obtain ⟨R, hR⟩ : ∃ R, R = placeN ⟨leaf, items⟩ key := ⟨_, rfl⟩
  rw [← hR]
  obtain ⟨ln, hln⟩ : ∃ ln, ln = items.length := ⟨_, rfl⟩
  rw [← hln] at hl0 hl1 ⊢
  have mixed : Try.prog.follows .mixedOrders = true := by kernel_rfl
  have HR := Lib.hid hR
  have HI := Lib.hid hit
  have HL := Lib.hid hln
  have HRI := Lib.hid hr
  clear hR hit hln hr hok hA
  go_enter Try.func17, Try.ntmps17
  go_upto_region 1 with (first | ((with_reducible refine gate_dst (N := 2) rfl ?_); refine box_event ?hg (N := 2) ?hd (cs := #[.bool leaf, .slice (some ⟨blk, off, none⟩) ln c]) (t := 56) ?hr ?_; (case hd => rfl); (case hg => rfl); (case hr => first | (go_simp; done) | (go_simp; rfl)); intro gn hg wa hbox hb2; have HB1 := Lib.hid hb2; have BN1 := Lib.hid hbox; clear hb2 hbox hg) | ((with_reducible refine gate_dst (N := 3) rfl ?_); refine box_event ?hg (N := 3) ?hd (cs := #[.string key]) (t := 9) ?hr ?_; (case hd => rfl); (case hg => rfl); (case hr => first | (go_simp; done) | (go_simp; rfl)); intro gk hg wb hbox hb2; have HB2 := Lib.hid (HB1.out.trans (hb2.mono HB1.out.size)); have BN2 := Lib.hid (blk_below BN1.out hb2); have BK2 := Lib.hid hbox; clear hb2 hbox hg))
  have hcn := (blk_cell BN2.out 1).trans rfl
  have hcl := (blk_cell BN2.out 0).trans rfl
  have hck := (blk_cell BK2.out 0).trans rfl
  have hci : ∀ (i : Nat) (x : It), items[i]? = some x → wb.cell? ⟨blk, off + i * 3, none⟩ = some (.string x.key) := fun i x hx => by
    have h0 := (HI.out i x hx).1
    rw [HB2.out.cell (World.block_lt_of_cell? w _ h0)]
    exact h0
  have HCI := Lib.hid hci
  clear hci
  cases leaf with
  | false =>
    have hri : rising (items.drop 1) = true := by
      have := HRI.out
      rw [if_neg (by decide), Bool.and_eq_true] at this
      exact this.1
    have hmono : ∀ (a b : Nat) (x y : It), a ≤ b → (items.drop 1)[a]? = some x → (items.drop 1)[b]? = some y → (!(lt x.key key || x.key.toList == key.toList)) = true → (!(lt y.key key || y.key.toList == key.toList)) = true := by
      intro a b x y hab hx hy hp
      rcases Nat.lt_or_ge a b with h | h
      · have hlt := rising_at hri h hx hy
        simp only [Bool.not_eq_true', Bool.or_eq_false_iff] at hp ⊢
        refine ⟨?_, ?_⟩
        · cases h2 : lt y.key key with
          | false => rfl
          | true => rw [lt_trans hlt h2] at hp; exact absurd hp.1 (by decide)
        · cases h2 : y.key.toList == key.toList with
          | false => rfl
          | true => rw [same_iff.1 h2] at hlt; rw [hlt] at hp; exact absurd hp.1 (by decide)
      · obtain rfl : a = b := by omega
        rw [hx] at hy
        cases hy
        exact hp
    have hcnt := count_first (fun x => !(lt x.key key || x.key.toList == key.toList)) (items.drop 1) hmono ⟨⟨#[]⟩, ⟨#[]⟩, 0⟩
    have hdl : (items.drop 1).length = ln - 1 := by rw [List.length_drop, ← HL.out]
    rw [hdl] at hcnt
    obtain ⟨r, hr⟩ : ∃ r : Nat, r = (placeN ⟨false, items⟩ key).1 := ⟨_, rfl⟩
    replace hcnt := hcnt.trans (show firstIdx (fun x => !(lt x.key key || x.key.toList == key.toList)) (items.drop 1) = r from hr.symm)
    have HRR := Lib.hid hr
    clear hr
    have hw1 : IntKind.i64.wrap ((ln : Int) - 1) = ((ln - 1 : Nat) : Int) := by rw [IntWalk.i64_in _ (by omega)]; omega
    have hS := search_calls 22 #[.pointer (some ⟨gn, 0, none⟩), .pointer (some ⟨gk, 0, none⟩)] (ln - 1) (fun i => !(lt ((items.drop 1).getD i ⟨⟨#[]⟩, ⟨#[]⟩, 0⟩).key key || ((items.drop 1).getD i ⟨⟨#[]⟩, ⟨#[]⟩, 0⟩).key.toList == key.toList)) wb (enters_of Try.func22 (by kernel_rfl) rfl) (by omega)
      (fun m os i hi => by
        have hii : (items.drop 1)[i]? = some ((items.drop 1).getD i ⟨⟨#[]⟩, ⟨#[]⟩, 0⟩) := getD_at (by rw [hdl]; exact hi) _
        have hii2 : items[i + 1]? = some ((items.drop 1).getD i ⟨⟨#[]⟩, ⟨#[]⟩, 0⟩) := by
          rw [List.getElem?_drop, Nat.add_comm] at hii
          exact hii
        have h0 := HCI.out _ _ hii2
        refine (above_calls gn gk blk off c ln _ key i _ (by omega) (by omega) (cell_grown (World.block_lt_of_cell? _ _ hcn) hcn m os) (cell_grown (World.block_lt_of_cell? _ _ hck) hck m os) (cell_grown (World.block_lt_of_cell? _ _ h0) h0 m os)).mono ?_
        rintro e w' ⟨rfl, q, rfl⟩
        exact ⟨rfl, q, #[], by simp⟩)
      (fun a b hab hb hpa => by
        have ha' := getD_at (l := items.drop 1) (show a < (items.drop 1).length by rw [hdl]; omega) ⟨⟨#[]⟩, ⟨#[]⟩, 0⟩
        have hb' := getD_at (l := items.drop 1) (show b < (items.drop 1).length by rw [hdl]; omega) ⟨⟨#[]⟩, ⟨#[]⟩, 0⟩
        exact hmono a b _ _ hab ha' hb' hpa)
    rw [hcnt] at hS
    have HSS := Lib.hid hS
    clear hS hcnt hmono hri hdl
    go_wp2_with (first | (go_at_call 21; refine HSS.out.mono ?_; rintro e w3 ⟨rfl, hb3⟩; have HB3 := Lib.hid (HB2.out.trans (hb3.mono HB2.out.size)); clear hb3))
    go_ret2
    refine ⟨?_, HB3.out⟩
    rw [HR.out]
    show Ending.returned (.tuple #[.int .i64 (r : Int), .bool true]) = _
    rw [HRR.out]
    rfl
  | true =>
    have hri : rising items = true := by
      have := HRI.out
      rw [if_pos rfl] at this
      exact this
    have hmono : ∀ (a b : Nat) (x y : It), a ≤ b → items[a]? = some x → items[b]? = some y → (!lt x.key key) = true → (!lt y.key key) = true := by
      intro a b x y hab hx hy hp
      rcases Nat.lt_or_ge a b with h | h
      · have hlt := rising_at hri h hx hy
        simp only [Bool.not_eq_true'] at hp ⊢
        cases h2 : lt y.key key with
        | false => rfl
        | true => rw [lt_trans hlt h2] at hp; exact absurd hp (by decide)
      · obtain rfl : a = b := by omega
        rw [hx] at hy
        cases hy
        exact hp
    have hcnt := count_first (fun x => !lt x.key key) items hmono ⟨⟨#[]⟩, ⟨#[]⟩, 0⟩
    have hle := firstIdx_le (fun x => !lt x.key key) items
    rw [← HL.out] at hcnt hle
    obtain ⟨r, hr⟩ : ∃ r : Nat, r = firstIdx (fun x => !lt x.key key) items := ⟨_, rfl⟩
    rw [← hr] at hcnt hle
    have hS := search_calls 23 #[.pointer (some ⟨gn, 0, none⟩), .pointer (some ⟨gk, 0, none⟩)] ln (fun i => !lt (items.getD i ⟨⟨#[]⟩, ⟨#[]⟩, 0⟩).key key) wb (enters_of Try.func23 (by kernel_rfl) rfl) (by omega)
      (fun m os i hi => by
        have h0 := HCI.out _ _ (getD_at (l := items) (by rw [← HL.out]; exact hi) ⟨⟨#[]⟩, ⟨#[]⟩, 0⟩)
        refine (atleast_calls gn gk blk off c ln _ key i _ (by omega) (by omega) (cell_grown (World.block_lt_of_cell? _ _ hcn) hcn m os) (cell_grown (World.block_lt_of_cell? _ _ hck) hck m os) (cell_grown (World.block_lt_of_cell? _ _ h0) h0 m os)).mono ?_
        rintro e w' ⟨rfl, q, rfl⟩
        exact ⟨rfl, q, #[], by simp⟩)
      (fun a b hab hb hpa => hmono a b _ _ hab (getD_at (l := items) (by rw [← HL.out]; omega) _) (getD_at (l := items) (by rw [← HL.out]; omega) _) hpa)
    rw [hcnt] at hS
    have HSS := Lib.hid hS
    have HRR := Lib.hid hr
    clear hS hcnt hmono hri hr
    go_upto_region 4 with (first | (go_at_call 21; refine HSS.out.mono ?_; rintro e w3 ⟨rfl, hb3⟩; have HB3 := Lib.hid (HB2.out.trans (hb3.mono HB2.out.size)); have BN3 := Lib.hid (blk_below BN2.out hb3); have BK3 := Lib.hid (blk_below BK2.out hb3); have HB23 := Lib.hid hb3; clear hb3))
    clear hcn hcl hck
    have hcn := (blk_cell BN3.out 1).trans rfl
    have hck := (blk_cell BK3.out 0).trans rfl
    by_cases hrl : r < ln
    · have d1 : decide ((r : Int) < (ln : Int)) = true := decide_eq_true (by omega)
      have hrz : (r : Int) < (ln : Int) := by omega
      obtain ⟨x, hx⟩ : ∃ x, items[r]? = some x := ⟨_, List.getElem?_eq_getElem (by rw [← HL.out]; exact hrl)⟩
      have h0 := HCI.out r x hx
      have hxc : w3.cell? ⟨blk, off + r * 3, none⟩ = some (.string x.key) := by rw [HB23.out.cell (World.block_lt_of_cell? _ _ h0)]; exact h0
      have hRx : R = (r, x.key.toList == key.toList) := by
        rw [HR.out, placeN, if_pos rfl]
        simp only
        rw [← HRR.out, hx]
      have HRx := Lib.hid hRx
      clear h0 hx hRx
      go_wp2_with fail
      go_region_o
      all_goals go_wp2_with fail
      all_goals go_ret2
      all_goals
        refine ⟨?_, by first | exact HB3.out | exact below_drew HB3.out⟩
        rw [HRx.out]
        first | rfl | (simp; done)
    · have d1 : decide ((r : Int) < (ln : Int)) = false := decide_eq_false (by omega)
      have hRx : R = (r, false) := by
        rw [HR.out, placeN, if_pos rfl]
        simp only
        rw [← HRR.out, List.getElem?_eq_none (by rw [← HL.out]; omega)]
      have HRx := Lib.hid hRx
      clear hRx
      go_wp2_with fail
      go_region_o
      all_goals go_wp2_with fail
      all_goals go_ret2
      all_goals
        refine ⟨?_, by first | exact HB3.out | exact below_drew HB3.out⟩
        rw [HRx.out]
        first | rfl | (simp; done)
#print axioms place_calls
end Go.Proofs.YtkmbkgjfhjjicaaT
