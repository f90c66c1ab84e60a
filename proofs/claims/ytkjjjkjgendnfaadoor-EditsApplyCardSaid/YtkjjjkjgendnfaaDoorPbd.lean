/- The way back of edits: plain law, and the printed Back by the plain one. -/
import Derived.Test.YtkjjjkjgendnfaaDoorPd
import Derived.Test.YtkjjjkjgendnfaaDoorL6
namespace Go.Proofs.YtkjjjkjgendnfaaDoorL
open Go.RowKit Go.Proofs.YtkjjjkjgendnfaaDoorE Go.Proofs.YtkjjjkjgendnfaaDoorW.PrintWords Go.Proofs.YtkjjjkjgendnfaaDoor.PAll

/-- The way back, from what the hunks so far have made longer. -/
def backHk (A : List ByteArray) : Int → List Hk → List Hk
  | _, [] => []
  | m, h :: t => (h.1 + m, (h.2.2.length : Int), (A.take (h.1 + h.2.1).toNat).drop h.1.toNat) :: backHk A (m + (h.2.2.length - h.2.1)) t
/-- What comes behind place at of A. -/
def tailB (A : List ByteArray) : Int → List Hk → List ByteArray
  | at_, [] => A.drop at_.toNat
  | at_, h :: t => (A.take h.1.toNat).drop at_.toNat ++ h.2.2 ++ tailB A (h.1 + h.2.1) t
theorem apL_tail (A : List ByteArray) : ∀ (t : List Hk) (out : List ByteArray) (at_ : Int), (apL A t (out, at_)).1 ++ A.drop (apL A t (out, at_)).2.toNat = out ++ tailB A at_ t
  | [], out, at_ => rfl
  | h :: t, out, at_ => by
    have ih := apL_tail A t (out ++ (A.take h.1.toNat).drop at_.toNat ++ h.2.2) (h.1 + h.2.1)
    simp only [tailB]
    simp only [apL, List.foldl_cons] at ih ⊢
    rw [show ap1 A (out, at_) h = (out ++ (A.take h.1.toNat).drop at_.toNat ++ h.2.2, h.1 + h.2.1) from rfl, ih]
    simp only [List.append_assoc]
theorem applyL_tail (A : List ByteArray) (H : List Hk) : applyL A H = tailB A 0 H := by
  unfold applyL
  rw [apL_tail]
  rfl
theorem drop_take_length {α : Type} (l : List α) (i j : Nat) (hj : j ≤ l.length) : ((l.take j).drop i).length = j - i := by
  rw [List.length_drop, List.length_take]
  omega
/-- The middle of three parts. -/
theorem mid_part {α : Type} (x y z : List α) {i j : Nat} (hi : i = x.length) (hj : j = x.length + y.length) : ((x ++ y ++ z).take j).drop i = y := by
  subst hi hj
  rw [← List.length_append, List.take_left, List.drop_left]
theorem last_part {α : Type} (x y : List α) {i : Nat} (hi : i = x.length) : (x ++ y).drop i = y := by
  subst hi
  rw [List.drop_left]
theorem drop_parts {α : Type} (l : List α) {i j : Nat} (h : i ≤ j) (hj : j ≤ l.length) : (l.take j).drop i ++ l.drop j = l.drop i := by
  conv => rhs; rw [← List.take_append_drop j l]
  rw [List.drop_append_of_le_length (by rw [List.length_take]; omega)]
theorem drop_parts3 {α : Type} (l : List α) {i j k : Nat} (h : i ≤ j) (h' : j ≤ k) (hk : k ≤ l.length) : (l.take j).drop i ++ ((l.take k).drop j ++ l.drop k) = l.drop i := by
  rw [drop_parts l h' hk, drop_parts l h (by omega)]
theorem tailB_len {A : List ByteArray} : ∀ (t : List Hk) (at_ e : Int), RightL A.length e t → 0 ≤ at_ → at_ ≤ e + 1 → at_ ≤ A.length → (tailB A at_ t).length ≤ A.length - at_.toNat + putsL t
  | [], at_, e, _, h0, _, h2 => by simp only [tailB, putsL, List.length_drop]; omega
  | h :: t, at_, e, hr, h0, h1, h2 => by
    obtain ⟨⟨r1, r2, r3, r4, r5⟩, r6⟩ := hr
    have ih := tailB_len t (h.1 + h.2.1) (h.1 + h.2.1) r6 (by omega) (by omega) (by omega)
    simp only [tailB, putsL, List.length_append, drop_take_length A _ _ (show h.1.toNat ≤ A.length by omega)]
    omega
/-- The way back leads back, and its way back is the hunks again. -/
theorem back_law (A B : List ByteArray) : ∀ (t : List Hk) (at_ e m : Int) (out : List ByteArray), RightL A.length e t → 0 ≤ at_ → at_ ≤ e + 1 → at_ ≤ A.length → (out.length : Int) = at_ + m → B = out ++ tailB A at_ t →
    RightL B.length (e + m) (backHk A m t) ∧ tailB B (at_ + m) (backHk A m t) = A.drop at_.toNat ∧ backHk B (-m) (backHk A m t) = t
  | [], at_, e, m, out, _, h0, _, h2, ho, hB => by
    refine ⟨trivial, ?_, rfl⟩
    simp only [backHk, tailB] at hB ⊢
    rw [hB]
    exact last_part _ _ (by omega)
  | h :: t, at_, e, m, out, hr, h0, h1, h2, ho, hB => by
    obtain ⟨⟨r1, r2, r3, r4, r5⟩, r6⟩ := hr
    simp only [tailB] at hB
    have l1 := drop_take_length A at_.toNat h.1.toNat (by omega)
    have l2 := drop_take_length A h.1.toNat (h.1 + h.2.1).toNat (by omega)
    have hBl : B.length = out.length + (h.1.toNat - at_.toNat) + h.2.2.length + (tailB A (h.1 + h.2.1) t).length := by
      rw [hB]
      simp only [List.length_append, l1]
      omega
    obtain ⟨i1, i2, i3⟩ := back_law A B t (h.1 + h.2.1) (h.1 + h.2.1) (m + (h.2.2.length - h.2.1)) (out ++ ((A.take h.1.toNat).drop at_.toNat ++ h.2.2)) r6 (by omega) (by omega) (by omega) (by
      simp only [List.length_append, l1]
      omega) (by rw [hB]; simp only [List.append_assoc])
    have e1 : h.1 + h.2.1 + (m + ((h.2.2.length : Int) - h.2.1)) = h.1 + m + h.2.2.length := by omega
    rw [e1] at i1 i2
    refine ⟨⟨⟨by simp only; omega, by simp only; omega, by simp only; omega, by simp only; omega, by simp only [l2]; omega⟩, i1⟩, ?_, ?_⟩
    · simp only [backHk, tailB]
      rw [i2]
      have : (B.take (h.1 + m).toNat).drop (at_ + m).toNat = (A.take h.1.toNat).drop at_.toNat := by
        rw [hB, List.append_assoc (A.take h.1.toNat |>.drop at_.toNat), ← List.append_assoc out]
        exact mid_part _ _ _ (by omega) (by rw [l1]; omega)
      rw [this, List.append_assoc]
      exact drop_parts3 A (by omega) (by omega) (by omega)
    · simp only [backHk]
      have : (B.take (h.1 + m + h.2.2.length).toNat).drop (h.1 + m).toNat = h.2.2 := by
        rw [hB, List.append_assoc (A.take h.1.toNat |>.drop at_.toNat), ← List.append_assoc out, ← List.append_assoc (out ++ _)]
        exact mid_part _ _ _ (by simp only [List.length_append, l1]; omega) (by simp only [List.length_append, l1]; omega)
      rw [this, l2]
      rw [show -m + (((((h.1 + h.2.1).toNat - h.1.toNat : Nat)) : Int) - (h.2.2.length : Int)) = -(m + ((h.2.2.length : Int) - h.2.1)) by omega, i3]
      obtain ⟨p, q, r⟩ := h
      simp only [Prod.mk.injEq, List.cons.injEq, and_true] at *
      omega

/-! ### The printed Back -/
theorem edBack_l0 (A : List ByteArray) (H : List HS) (hA : A.length < 4398046511104) (hH : H.length < 3518437208883) : ∀ (t : List HS) (i : Nat) (e m : Int) (out : List HS) (k : Nat), H.drop i = t → out.length = i → -1 ≤ e → RightL A.length e (t.map hk) → -(e + 1) ≤ m → e ≤ A.length → m + putsL (t.map hk) < 4611686018427387904 → t.length < k →
    edits_Back.l0 k A out m H H.length i = some (out ++ (backHk A m (t.map hk)).map toH, none)
  | _, _, _, _, _, 0, _, _, _, _, _, _, _, hk => by omega
  | [], i, e, m, out, k + 1, hd, _, _, _, _, _, _, _ => by
    have := drop_nil hd
    rw [edits_Back.l0, if_neg (by omega)]
    simp [backHk]
  | h :: t, i, e, m, out, k + 1, hd, hoi, he, hr, hm, hea, hp, hk' => by
    obtain ⟨e1, e2, e3⟩ := drop_cons z26 hd
    obtain ⟨⟨r1, r2, r3, r4, r5⟩, r6⟩ := hr
    simp only [hk] at r1 r2 r3 r4 r5 r6
    simp only [List.map_cons, putsL, hk] at hp
    simp only [List.length_cons] at hk'
    have e4 := w64 (n := h.f0 + h.f1) (by omega) (by omega)
    rw [edits_Back.l0, if_pos (by omega), if_pos (by omega), if_pos (by omega), show rd_T26 H i = h from e2, e4, if_pos (by omega), if_pos (by omega), if_pos (by omega)]
    have hc : slices_Clone_string_string.f ((A.take (h.f0 + h.f1).toNat).drop h.f0.toNat) = some ((A.take (h.f0 + h.f1).toNat).drop h.f0.toNat) := by
      unfold slices_Clone_string_string.f
      rw [if_pos (by rw [drop_take_length A _ _ (by omega)]; omega)]
    rw [hc, Option.bind_some, if_pos (by omega), w64 (n := h.f0 + m) (by omega) (by omega), w64 (n := (h.f2.length : Int) - h.f1) (by omega) (by omega), w64 (n := m + ((h.f2.length : Int) - h.f1)) (by omega) (by omega), w64 (n := (i : Int) + 1) (by omega) (by omega)]
    have ih := edBack_l0 A H hA hH t (i + 1) (h.f0 + h.f1) (m + ((h.f2.length : Int) - h.f1)) (out ++ [(⟨h.f0 + m, (h.f2.length : Int), (A.take (h.f0 + h.f1).toNat).drop h.f0.toNat⟩ : HS)]) k e3 (by simp [hoi]) (by omega) r6 (by omega) (by omega) (by omega) (by omega)
    rw [Int.natCast_add, show ((1 : Nat) : Int) = 1 from rfl] at ih
    rw [ih]
    simp only [List.map_cons, backHk, List.append_assoc, List.singleton_append]
    rfl
theorem edBack_f (A : List ByteArray) (H : List HS) (hA : A.length < 4398046511104) (hH : H.length < 3518437208883) (hp : putsL (H.map hk) < 4398046511104) {k : Nat} (hk' : H.length < k) :
    edits_Back.f k A H = if rightB A.length (-1) H = true then some ((backHk A 0 (H.map hk)).map toH, none) else some ([], some 3) := by
  unfold edits_Back.f
  rw [edRight_f H A.length (by omega) (by omega) (by omega) (by omega), Option.bind_some]
  by_cases c : rightB A.length (-1) H = true
  · rw [if_pos c, if_pos c]
    have := edBack_l0 A H hA hH H 0 (-1) 0 [] k rfl rfl (by omega) ((rightB_iff _ _ _).1 c) (by omega) (by omega) (by omega) hk'
    rw [List.nil_append] at this
    exact this
  · rw [if_neg c, if_neg c]

theorem backHk_puts {A : List ByteArray} : ∀ (t : List Hk) (e m : Int), RightL A.length e t → -1 ≤ e → e ≤ A.length → (putsL (backHk A m t) : Int) ≤ A.length - e ∧ (backHk A m t).length = t.length
  | [], e, m, _, _, h => ⟨by simp only [backHk, putsL]; omega, rfl⟩
  | h :: t, e, m, hr, h0, h1 => by
    obtain ⟨⟨r1, r2, r3, r4, r5⟩, r6⟩ := hr
    have ih := backHk_puts t (h.1 + h.2.1) (m + (h.2.2.length - h.2.1)) r6 (by omega) (by omega)
    have l2 := drop_take_length A h.1.toNat (h.1 + h.2.1).toNat (by omega)
    refine ⟨?_, by simp only [backHk, List.length_cons, ih.2]⟩
    simp only [backHk, putsL, l2]
    omega
theorem map_toH_hk (H : List HS) : (H.map hk).map toH = H := by rw [List.map_map]; exact List.map_id H
theorem sumP_puts (H : List HS) (hl : H.length ≤ 500) (hz : ∀ h, h ∈ H → h.f2.length ≤ 8796093022208) : sumP H H.length = putsL (H.map hk) := by
  have key : ∀ i, i ≤ H.length → sumP H i = putsL ((H.take i).map hk) ∧ putsL ((H.take i).map hk) ≤ i * 8796093022208 := by
    intro i
    induction i with
    | zero => intro _; simp [sumP, putsL]
    | succ i ih =>
      intro hi
      obtain ⟨i1, i2⟩ := ih (by omega)
      have hp : ∀ (u : List Hk) (h : Hk), putsL (u ++ [h]) = putsL u + h.2.2.length := by
        intro u h
        induction u with
        | nil => simp [putsL]
        | cons g u ih => simp only [List.cons_append, putsL, ih]; omega
      have hg : H.getD i z26 ∈ H := by
        rw [List.getD_eq_getElem?_getD, List.getElem?_eq_getElem (by omega)]
        exact List.getElem_mem _
      have hb := hz _ hg
      rw [sumP, i1, take_snoc H z26 i (by omega), List.map_append, List.map_singleton, hp]
      rw [show rd_T26 H (i : Int) = H.getD i z26 from rfl]
      simp only [hk]
      refine ⟨?_, by omega⟩
      rw [w64 (by omega) (by omega)]
      omega
  have := key H.length (Nat.le_refl _)
  rw [List.take_length] at this
  exact this.1
/-! ### The document's Back -/
theorem refBack_l1 (A : List ByteArray) (H : List HS) (i : Nat) (hi : i < H.length) (hA : A.length < 4398046511104) (hH : H.length < 3518437208883) {h : HS} (hg : H.getD i z26 = h) (hc0 : 0 ≤ h.f0) (hc1 : 0 ≤ h.f1) (hc2 : h.f0 + h.f1 ≤ A.length) (out : List HS) (ho : out.length < 3518437208883) (m s0 s1 : Int) :
    ∀ (n j : Nat) (acc : List ByteArray) (k : Nat), h.f0 + h.f1 = ((j + n : Nat) : Int) → acc.length + n < 8796093022208 →
    tambourref02_Back.l1 (k + n + 1) A H out m i j s0 s1 acc = tambourref02_Back.l0 k A H (out ++ [(⟨s0, s1, acc ++ (A.take (j + n)).drop j⟩ : HS)]) (wrap64 (wrap64 (m + (h.f2.length : Int)) - h.f1)) (i + 1)
  | 0, j, acc, k, he, hl => by
    rw [tambourref02_Back.l1, if_pos (by omega), if_pos (by omega), show rd_T26 H i = h from hg, w64 (n := h.f0 + h.f1) (by omega) (by omega), if_neg (by omega), if_pos ho, w64 (n := (i : Int) + 1) (by omega) (by omega), Nat.add_zero, drop_take_self, List.append_nil]
  | n + 1, j, acc, k, he, hl => by
    rw [show k + (n + 1) + 1 = (k + n + 1) + 1 by omega, tambourref02_Back.l1, if_pos (by omega), if_pos (by omega), show rd_T26 H i = h from hg, w64 (n := h.f0 + h.f1) (by omega) (by omega), if_pos (by omega), if_pos (by omega), if_pos (by omega), if_pos (by omega), w64 (n := (j : Int) + 1) (by omega) (by omega)]
    have ih := refBack_l1 A H i hi hA hH hg hc0 hc1 hc2 out ho m s0 s1 n (j + 1) (acc ++ [rdOf ByteArray.empty A j]) k (by omega) (by simp; omega)
    rw [Int.natCast_add, show ((1 : Nat) : Int) = 1 from rfl] at ih
    rw [ih, getD_drop_take A ByteArray.empty j n (by omega), List.append_assoc acc, List.singleton_append]
    rfl
theorem refBack_l0 (A : List ByteArray) (H : List HS) (hA : A.length < 4398046511104) (hH : H.length < 3518437208883) : ∀ (t : List HS) (i : Nat) (e m : Int) (out : List HS) (k : Nat), H.drop i = t → out.length = i → -1 ≤ e → RightL A.length e (t.map hk) → -(e + 1) ≤ m → e ≤ A.length → m + putsL (t.map hk) < 4611686018427387904 → 2 * (t.length : Int) + (A.length - e) + 2 < k →
    tambourref02_Back.l0 k A H out m i = some (out ++ (backHk A m (t.map hk)).map toH, 0)
  | _, _, e, _, _, 0, _, _, _, _, _, _, _, hk => by omega
  | [], i, e, m, out, k + 1, hd, _, _, _, _, _, _, _ => by
    have := drop_nil hd
    rw [tambourref02_Back.l0, if_neg (by omega)]
    simp [backHk]
  | h :: t, i, e, m, out, k + 1, hd, hoi, he, hr, hm, hea, hp, hk' => by
    obtain ⟨e1, e2, e3⟩ := drop_cons z26 hd
    obtain ⟨⟨r1, r2, r3, r4, r5⟩, r6⟩ := hr
    simp only [hk] at r1 r2 r3 r4 r5 r6
    simp only [List.map_cons, putsL, hk] at hp
    simp only [List.length_cons] at hk'
    rw [tambourref02_Back.l0, if_pos (by omega), if_pos (by omega), show rd_T26 H i = h from e2, w64 (n := h.f0 + m) (by omega) (by omega)]
    have h1 := refBack_l1 A H i e1 hA hH e2 (by omega) r3 (by omega) out (by omega) m (h.f0 + m) (h.f2.length : Int) h.f1.toNat h.f0.toNat [] (k - h.f1.toNat - 1) (by omega) (by simp only [List.length_nil]; omega)
    rw [show k - h.f1.toNat - 1 + h.f1.toNat + 1 = k by omega, show ((h.f0.toNat : Nat) : Int) = h.f0 by omega, List.nil_append, w64 (n := m + (h.f2.length : Int)) (by omega) (by omega), w64 (n := m + (h.f2.length : Int) - h.f1) (by omega) (by omega)] at h1
    rw [h1]
    have ih := refBack_l0 A H hA hH t (i + 1) (h.f0 + h.f1) (m + (h.f2.length : Int) - h.f1) (out ++ [(⟨h.f0 + m, (h.f2.length : Int), (A.take (h.f0.toNat + h.f1.toNat)).drop h.f0.toNat⟩ : HS)]) (k - h.f1.toNat - 1) e3 (by simp [hoi]) (by omega) r6 (by omega) (by omega) (by omega) (by omega)
    rw [Int.natCast_add, show ((1 : Nat) : Int) = 1 from rfl] at ih
    rw [ih]
    simp only [List.map_cons, backHk, List.append_assoc, List.singleton_append]
    rw [show m + (h.f2.length : Int) - h.f1 = m + (((hk h).2.2.length : Int) - (hk h).2.1) by simp only [hk]; omega, show h.f0.toNat + h.f1.toNat = ((hk h).1 + (hk h).2.1).toNat by simp only [hk]; omega]
    rfl
theorem refBack_f (A : List ByteArray) (H : List HS) (hA : A.length < 4398046511104) (hH : H.length < 3518437208883) (hp : putsL (H.map hk) < 4398046511104) {k : Nat} (hk' : 2 * (H.length : Int) + A.length + 3 < k) :
    tambourref02_Back.f k A H = if rightB A.length (-1) H = true then some ((backHk A 0 (H.map hk)).map toH, 0) else some ([], 3) := by
  unfold tambourref02_Back.f
  rw [refRight_f H A.length (by omega) (by omega) (by omega) (by omega), Option.bind_some]
  by_cases c : rightB A.length (-1) H = true
  · rw [if_pos c, if_pos c]
    have := refBack_l0 A H hA hH H 0 (-1) 0 [] k rfl rfl (by omega) ((rightB_iff _ _ _).1 c) (by omega) (by omega) (by omega) (by omega)
    rw [List.nil_append] at this
    exact this
  · rw [if_neg c, if_neg c]
/-- What the law EditsApply asks. -/
theorem editsApply_plain (a : List ByteArray) (H : List HS) (hz : ∀ h, h ∈ H → h.f2.length ≤ 8796093022208) (ha : a.length ≤ 1000) (hl : H.length ≤ 500) (hs : sumP H H.length ≤ 2000) : ∃ (k : Nat) (b : List ByteArray) (K : List HS) (e : Option Int) (c : Int) (q : Bool), edits_Apply.f k a H = some (b, e) ∧ tambourref02_Apply.f k a H = some (b, c) ∧ edits_Back.f k a H = some (K, e) ∧ tambourref02_Back.f k a H = some (K, c) ∧
      edits_Right.f k H a.length = some q ∧ tambourref02_Right.f k H a.length = some q ∧ tambourref01_Same.f k b b = some true ∧ tambourref02_Same.f k K K = some true ∧ ((e = none ∧ c = 0) ∨ e = some c) := by
  rw [sumP_puts H hl hz] at hs
  have h1 := edApply_f a H (by omega) (by omega) (by omega) (k := 100000) (by omega)
  have h2 := refApply_f a H (by omega) (by omega) (by omega) (k := 100000) (by omega)
  have h3 := edBack_f a H (by omega) (by omega) (by omega) (k := 100000) (by omega)
  have h4 := refBack_f a H (by omega) (by omega) (by omega) (k := 100000) (by omega)
  have h5 := edRight_f H a.length (by omega) (by omega) (by omega) (k := 100000) (by omega)
  have h6 := refRight_f H a.length (by omega) (by omega) (by omega) (k := 100000) (by omega)
  by_cases c : rightB a.length (-1) H = true
  · rw [if_pos c] at h1 h2 h3 h4
    have hr := (rightB_iff _ _ _).1 c
    obtain ⟨p1, p2⟩ := backHk_puts (H.map hk) (-1) 0 hr (by omega) (by omega)
    rw [List.length_map] at p2
    have hbl : (applyL a (H.map hk)).length ≤ 4000 := by
      have := tailB_len (A := a) (H.map hk) 0 (-1) hr (by omega) (by omega) (by omega)
      rw [applyL_tail]
      omega
    refine ⟨100000, _, _, none, 0, _, h1, h2, h3, h4, h5, h6, ?_, ?_, .inl ⟨rfl, rfl⟩⟩
    · rw [same01_f _ _ (by omega) (by omega)]
      simp
    · exact same02_f _ (by rw [List.length_map]; omega) (by rw [map_hk_toH]; omega) (by rw [map_hk_toH, List.length_map]; omega)
  · rw [if_neg c] at h1 h2 h3 h4
    refine ⟨100000, _, _, some 3, 3, _, h1, h2, h3, h4, h5, h6, ?_, ?_, .inr rfl⟩
    · rw [same01_f _ _ (by simp) (by simp)]
      simp
    · exact same02_f _ (by simp) (by simp [putsL]) (by simp [putsL])
end Go.Proofs.YtkjjjkjgendnfaaDoorL
