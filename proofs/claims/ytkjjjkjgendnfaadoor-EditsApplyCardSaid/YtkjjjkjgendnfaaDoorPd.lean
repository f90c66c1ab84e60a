/- The printed functions of layer 2, by the plain ones. -/
import Derived.Test.YtkjjjkjgendnfaaDoorPAllx
import Derived.Test.YtkjjjkjgendnfaaDoorLs
namespace Go.Proofs.YtkjjjkjgendnfaaDoorL
open Go.RowKit Go.Proofs.YtkjjjkjgendnfaaDoorE Go.Proofs.YtkjjjkjgendnfaaDoorW.PrintWords Go.Proofs.YtkjjjkjgendnfaaDoor.PAll

abbrev HS := S26
def hk (h : HS) : Hk := (h.f0, h.f1, h.f2)
theorem hk_toH (h : Hk) : hk (toH h) = h := rfl
theorem toH_hk (h : HS) : toH (hk h) = h := rfl
theorem map_hk_toH (H : List Hk) : (H.map toH).map hk = H := by rw [List.map_map]; exact List.map_id H

theorem w64 {n : Int} (h0 : -9223372036854775808 ≤ n) (h1 : n < 9223372036854775808) : wrap64 n = n := by unfold wrap64; omega

theorem drop_cons {α : Type} {l : List α} {i : Nat} {h : α} {t : List α} (d : α) (e : l.drop i = h :: t) : i < l.length ∧ l.getD i d = h ∧ l.drop (i + 1) = t := by
  have hi : i < l.length := by
    refine Nat.not_le.1 (fun hle => ?_)
    rw [List.drop_eq_nil_iff.2 hle] at e
    cases e
  rw [List.drop_eq_getElem_cons hi] at e
  injection e with e1 e2
  exact ⟨hi, by rw [List.getD_eq_getElem?_getD, List.getElem?_eq_getElem hi]; exact e1, e2⟩
theorem drop_nil {α : Type} {l : List α} {i : Nat} (e : l.drop i = []) : l.length ≤ i := List.drop_eq_nil_iff.1 e

/-! ### Right -/
def rightB (n : Int) : Int → List HS → Bool
  | _, [] => true
  | e, h :: t => if h.f0 ≤ e then false else if h.f0 > n then false else if h.f1 < 0 then false else if h.f1 > n - h.f0 then false else if h.f1 = 0 ∧ (h.f2.length : Int) = 0 then false else rightB n (h.f0 + h.f1) t
theorem rightB_iff (n : Int) : ∀ (t : List HS) (e : Int), rightB n e t = true ↔ RightL n e (t.map hk)
  | [], e => by simp [rightB, RightL]
  | h :: t, e => by
    have ih := rightB_iff n t (h.f0 + h.f1)
    rw [List.map_cons, RightL, okHk, show (hk h).1 = h.f0 from rfl, show (hk h).2.1 = h.f1 from rfl, show (hk h).2.2 = h.f2 from rfl, ← ih, rightB]
    by_cases c1 : h.f0 ≤ e
    · rw [if_pos c1]; constructor
      · intro h; cases h
      · rintro ⟨⟨h, _⟩, _⟩; omega
    rw [if_neg c1]
    by_cases c2 : h.f0 > n
    · rw [if_pos c2]; constructor
      · intro h; cases h
      · rintro ⟨⟨_, h, _⟩, _⟩; omega
    rw [if_neg c2]
    by_cases c3 : h.f1 < 0
    · rw [if_pos c3]; constructor
      · intro h; cases h
      · rintro ⟨⟨_, _, h, _⟩, _⟩; omega
    rw [if_neg c3]
    by_cases c4 : h.f1 > n - h.f0
    · rw [if_pos c4]; constructor
      · intro h; cases h
      · rintro ⟨⟨_, _, _, h, _⟩, _⟩; omega
    rw [if_neg c4]
    by_cases c5 : h.f1 = 0 ∧ (h.f2.length : Int) = 0
    · rw [if_pos c5]; constructor
      · intro h; cases h
      · rintro ⟨⟨_, _, _, _, h⟩, _⟩; omega
    rw [if_neg c5]
    constructor
    · intro h; exact ⟨⟨by omega, by omega, by omega, by omega, by omega⟩, h⟩
    · intro h; exact h.2

theorem refRight_l0 (H : List HS) (n : Int) (hn : 0 ≤ n) (hn' : n < 4611686018427387904) (hH : H.length < 4611686018427387904) : ∀ (t : List HS) (i : Nat) (e : Int) (k : Nat), H.drop i = t → -1 ≤ e → e ≤ n → t.length < k →
    tambourref02_Right.l0 k H n e i = some (rightB n e t)
  | _, _, _, 0, _, _, _, hk => by omega
  | [], i, e, k + 1, hd, _, _, _ => by
    have := drop_nil hd
    rw [tambourref02_Right.l0, if_neg (by omega)]
    rfl
  | h :: t, i, e, k + 1, hd, h0, h1, hk => by
    obtain ⟨e1, e2, e3⟩ := drop_cons z26 hd
    rw [tambourref02_Right.l0, if_pos (by omega), if_pos (by omega)]
    rw [show rd_T26 H i = h from e2, rightB]
    by_cases c1 : h.f0 ≤ e
    · rw [if_pos c1, if_pos c1]
    rw [if_neg c1, if_neg c1]
    by_cases c2 : h.f0 > n
    · rw [if_pos c2, if_pos c2]
    rw [if_neg c2, if_neg c2]
    by_cases c3 : h.f1 < 0
    · rw [if_pos c3, if_pos c3]
    rw [if_neg c3, if_neg c3, w64 (n := n - h.f0) (by omega) (by omega)]
    by_cases c4 : h.f1 > n - h.f0
    · rw [if_pos c4, if_pos c4]
    rw [if_neg c4, if_neg c4, w64 (n := h.f0 + h.f1) (by omega) (by omega), w64 (n := (i : Int) + 1) (by omega) (by omega)]
    have ih := refRight_l0 H n hn hn' hH t (i + 1) (h.f0 + h.f1) k e3 (by omega) (by omega) (by simp at hk; omega)
    rw [Int.natCast_add] at ih
    rw [show ((1 : Nat) : Int) = 1 from rfl] at ih
    rw [ih]
    by_cases c5 : h.f1 = 0
    · rw [if_pos c5]
      by_cases c6 : (h.f2.length : Int) = 0
      · rw [if_pos c6, if_pos ⟨c5, c6⟩]
      · rw [if_neg c6, if_neg (fun hh => c6 hh.2)]
    · rw [if_neg c5, if_neg (fun hh => c5 hh.1)]
theorem refRight_f (H : List HS) (n : Int) (hn : 0 ≤ n) (hn' : n < 4611686018427387904) (hH : H.length < 4611686018427387904) {k : Nat} (hk : H.length < k) : tambourref02_Right.f k H n = some (rightB n (-1) H) :=
  refRight_l0 H n hn hn' hH H 0 (-1) k rfl (by omega) (by omega) hk
theorem edRight_l0 (H : List HS) (n : Int) (hn : 0 ≤ n) (hn' : n < 4611686018427387904) (hH : H.length < 4611686018427387904) : ∀ (t : List HS) (i : Nat) (e : Int) (k : Nat), H.drop i = t → -1 ≤ e → e ≤ n → t.length < k →
    edits_Right.l0 k n e H H.length i = some (rightB n e t)
  | _, _, _, 0, _, _, _, hk => by omega
  | [], i, e, k + 1, hd, _, _, _ => by
    have := drop_nil hd
    rw [edits_Right.l0, if_neg (by omega)]
    rfl
  | h :: t, i, e, k + 1, hd, h0, h1, hk => by
    obtain ⟨e1, e2, e3⟩ := drop_cons z26 hd
    rw [edits_Right.l0, if_pos (by omega), if_pos (by omega), if_pos (by omega)]
    rw [show rd_T26 H i = h from e2, rightB]
    by_cases c1 : h.f0 ≤ e
    · rw [if_pos c1, if_pos c1]
    rw [if_neg c1, if_neg c1]
    by_cases c2 : h.f0 > n
    · rw [if_pos c2, if_pos c2]
    rw [if_neg c2, if_neg c2]
    by_cases c3 : h.f1 < 0
    · rw [if_pos c3, if_pos c3]
    rw [if_neg c3, if_neg c3, w64 (n := n - h.f0) (by omega) (by omega)]
    by_cases c4 : h.f1 > n - h.f0
    · rw [if_pos c4, if_pos c4]
    rw [if_neg c4, if_neg c4, w64 (n := h.f0 + h.f1) (by omega) (by omega), w64 (n := (i : Int) + 1) (by omega) (by omega)]
    have ih := edRight_l0 H n hn hn' hH t (i + 1) (h.f0 + h.f1) k e3 (by omega) (by omega) (by simp at hk; omega)
    rw [Int.natCast_add] at ih
    rw [show ((1 : Nat) : Int) = 1 from rfl] at ih
    rw [ih]
    by_cases c5 : h.f1 = 0
    · rw [if_pos c5]
      by_cases c6 : (h.f2.length : Int) = 0
      · rw [if_pos c6, if_pos ⟨c5, c6⟩]
      · rw [if_neg c6, if_neg (fun hh => c6 hh.2)]
    · rw [if_neg c5, if_neg (fun hh => c5 hh.1)]
theorem edRight_f (H : List HS) (n : Int) (hn : 0 ≤ n) (hn' : n < 4611686018427387904) (hH : H.length < 4611686018427387904) {k : Nat} (hk : H.length < k) : edits_Right.f k H n = some (rightB n (-1) H) :=
  edRight_l0 H n hn hn' hH H 0 (-1) k rfl (by omega) (by omega) hk

/-! ### Apply -/
def putsL : List Hk → Nat
  | [] => 0
  | h :: t => h.2.2.length + putsL t
theorem getD_drop_take {α : Type} (l : List α) (d : α) (i m : Nat) (h : i < l.length) : (l.take (i + (m + 1))).drop i = l.getD i d :: (l.take (i + 1 + m)).drop (i + 1) := by
  rw [show i + (m + 1) = i + 1 + m by omega]
  rw [List.drop_eq_getElem_cons (by rw [List.length_take]; omega)]
  rw [List.getElem_take, List.getD_eq_getElem?_getD, List.getElem?_eq_getElem h]
  rfl
theorem refApply_l1 (A : List ByteArray) (H : List HS) (i : Nat) (hi : i < H.length) (hA : A.length < 4611686018427387904) (hH : H.length < 4611686018427387904) {h : HS} (hg : H.getD i z26 = h) (hc0 : 0 ≤ h.f1) (hc1 : h.f0 + h.f1 ≤ A.length) : ∀ (m at_ : Nat) (out : List ByteArray) (k : Nat), h.f0 = ((at_ + m : Nat) : Int) → out.length + m + h.f2.length < 8796093022208 →
    tambourref02_Apply.l1 (k + m + 1) A H out at_ i = tambourref02_Apply.l0 k A H (out ++ (A.take (at_ + m)).drop at_ ++ h.f2) (h.f0 + h.f1) (i + 1)
  | 0, at_, out, k, he, ho => by
    rw [tambourref02_Apply.l1, if_pos (by omega), if_pos (by omega), show rd_T26 H i = h from hg, if_neg (by omega), if_pos (by omega), w64 (n := (i : Int) + 1) (by omega) (by omega), w64 (by omega) (by omega), Nat.add_zero, drop_take_self, List.append_nil]
    rw [show (at_ : Int) = h.f0 by omega]
  | m + 1, at_, out, k, he, ho => by
    rw [show k + (m + 1) + 1 = (k + m + 1) + 1 by omega, tambourref02_Apply.l1, if_pos (by omega), if_pos (by omega), show rd_T26 H i = h from hg, if_pos (by omega), if_pos (by omega), if_pos (by omega), if_pos (by omega), w64 (n := (at_ : Int) + 1) (by omega) (by omega)]
    have ih := refApply_l1 A H i hi hA hH hg hc0 hc1 m (at_ + 1) (out ++ [rdOf ByteArray.empty A at_]) k (by omega) (by simp; omega)
    rw [Int.natCast_add, show ((1 : Nat) : Int) = 1 from rfl] at ih
    rw [ih, getD_drop_take A ByteArray.empty at_ m (by omega)]
    rw [List.append_assoc out, List.singleton_append]
    rfl
theorem refApply_l2 (A : List ByteArray) (hA : A.length < 4611686018427387904) : ∀ (m at_ : Nat) (out : List ByteArray) (k : Nat), A.length = at_ + m → out.length + m < 8796093022208 → m < k →
    tambourref02_Apply.l2 k A out at_ = some (out ++ A.drop at_, 0)
  | _, _, _, 0, _, _, h => by omega
  | 0, at_, out, k + 1, he, ho, _ => by
    rw [tambourref02_Apply.l2, if_neg (by omega), List.drop_eq_nil_iff.2 (by omega), List.append_nil]
  | m + 1, at_, out, k + 1, he, ho, hk => by
    rw [tambourref02_Apply.l2, if_pos (by omega), if_pos (by omega), if_pos (by omega), w64 (n := (at_ : Int) + 1) (by omega) (by omega)]
    have ih := refApply_l2 A hA m (at_ + 1) (out ++ [rdOf ByteArray.empty A at_]) k (by omega) (by simp; omega) (by omega)
    rw [Int.natCast_add, show ((1 : Nat) : Int) = 1 from rfl] at ih
    rw [ih, List.drop_eq_getElem_cons (i := at_) (by omega)]
    have : rdOf ByteArray.empty A at_ = A[at_]'(by omega) := by
      unfold rdOf
      rw [List.getD_eq_getElem?_getD, show ((at_ : Int)).toNat = at_ by omega, List.getElem?_eq_getElem (by omega)]
      rfl
    rw [this, List.append_assoc, List.singleton_append]
theorem refApply_l0 (A : List ByteArray) (H : List HS) (hA : A.length < 4611686018427387904) (hH : H.length < 4611686018427387904) : ∀ (t : List HS) (i at_ : Nat) (e : Int) (out : List ByteArray) (k : Nat), H.drop i = t → (at_ : Int) ≤ e + 1 → at_ ≤ A.length → RightL A.length e (t.map hk) →
    out.length + (A.length - at_) + putsL (t.map hk) < 8796093022208 → 2 * t.length + (A.length - at_) + 2 < k →
    tambourref02_Apply.l0 k A H out at_ i = some ((apL A (t.map hk) (out, at_)).1 ++ A.drop (apL A (t.map hk) (out, at_)).2.toNat, 0)
  | _, _, _, _, _, 0, _, _, _, _, _, hk => by omega
  | [], i, at_, e, out, k + 1, hd, _, ha, _, ho, hk => by
    have := drop_nil hd
    rw [tambourref02_Apply.l0, if_neg (by omega), refApply_l2 A hA (A.length - at_) at_ out k (by omega) (by simp only [List.map_nil, putsL] at ho; omega) (by simp at hk; omega)]
    rfl
  | h :: t, i, at_, e, out, k + 1, hd, he, ha, hr, ho, hk' => by
    obtain ⟨e1, e2, e3⟩ := drop_cons z26 hd
    obtain ⟨⟨r1, r2, r3, r4, r5⟩, r6⟩ := hr
    simp only [hk] at r1 r2 r3 r4 r5 r6
    simp only [List.map_cons, putsL, hk] at ho
    simp only [List.length_cons] at hk'
    rw [tambourref02_Apply.l0, if_pos (by omega)]
    have h1 := refApply_l1 A H i e1 hA hH e2 r3 (by omega) (h.f0.toNat - at_) at_ out (k - (h.f0.toNat - at_) - 1) (by omega) (by omega)
    rw [show k - (h.f0.toNat - at_) - 1 + (h.f0.toNat - at_) + 1 = k by omega] at h1
    rw [h1]
    have ih := refApply_l0 A H hA hH t (i + 1) (h.f0 + h.f1).toNat (h.f0 + h.f1) (out ++ (A.take (at_ + (h.f0.toNat - at_))).drop at_ ++ h.f2) (k - (h.f0.toNat - at_) - 1) e3 (by omega) (by omega) r6 (by
      simp only [List.length_append, List.length_drop, List.length_take]
      omega) (by omega)
    rw [show (((h.f0 + h.f1).toNat : Nat) : Int) = h.f0 + h.f1 by omega, Int.natCast_add, show ((1 : Nat) : Int) = 1 from rfl] at ih
    rw [ih]
    simp only [List.map_cons, apL, List.foldl_cons]
    have : ap1 A (out, (at_ : Int)) (hk h) = (out ++ (A.take (at_ + (h.f0.toNat - at_))).drop at_ ++ h.f2, h.f0 + h.f1) := by
      simp only [ap1, hk]
      rw [show at_ + (h.f0.toNat - at_) = h.f0.toNat by omega, show ((at_ : Int)).toNat = at_ by omega]
    rw [this]
/-- The document's Apply. -/
theorem refApply_f (A : List ByteArray) (H : List HS) (hA : A.length < 4398046511104) (hH : H.length < 4611686018427387904) (hp : putsL (H.map hk) < 4398046511104) {k : Nat} (hk' : 2 * H.length + A.length + 2 < k) :
    tambourref02_Apply.f k A H = if rightB A.length (-1) H = true then some (applyL A (H.map hk), 0) else some ([], 3) := by
  unfold tambourref02_Apply.f
  rw [refRight_f H A.length (by omega) (by omega) hH (by omega), Option.bind_some]
  by_cases c : rightB A.length (-1) H = true
  · rw [if_pos c, if_pos c]
    exact refApply_l0 A H (by omega) hH H 0 0 (-1) [] k rfl (by omega) (by omega) ((rightB_iff _ _ _).1 c) (by simp; omega) (by omega)
  · rw [if_neg c, if_neg c]
theorem edApply_l0 (A : List ByteArray) (H : List HS) (hA : A.length < 4611686018427387904) (hH : H.length < 4611686018427387904) : ∀ (t : List HS) (i at_ : Nat) (e : Int) (out : List ByteArray) (k : Nat), H.drop i = t → (at_ : Int) ≤ e + 1 → at_ ≤ A.length → RightL A.length e (t.map hk) →
    out.length + (A.length - at_) + putsL (t.map hk) < 8796093022208 → t.length < k →
    edits_Apply.l0 k A out at_ H H.length i = some ((apL A (t.map hk) (out, at_)).1 ++ A.drop (apL A (t.map hk) (out, at_)).2.toNat, none)
  | _, _, _, _, _, 0, _, _, _, _, _, hk => by omega
  | [], i, at_, e, out, k + 1, hd, _, ha, _, ho, hk => by
    have := drop_nil hd
    simp only [List.map_nil, putsL] at ho
    rw [edits_Apply.l0, if_neg (by omega), if_pos (by omega), if_pos (by omega), if_pos (by rw [List.length_drop, show ((at_ : Int)).toNat = at_ by omega]; omega)]
    rfl
  | h :: t, i, at_, e, out, k + 1, hd, he, ha, hr, ho, hk' => by
    obtain ⟨e1, e2, e3⟩ := drop_cons z26 hd
    obtain ⟨⟨r1, r2, r3, r4, r5⟩, r6⟩ := hr
    simp only [hk] at r1 r2 r3 r4 r5 r6
    simp only [List.map_cons, putsL, hk] at ho
    simp only [List.length_cons] at hk'
    rw [edits_Apply.l0, if_pos (by omega), if_pos (by omega), if_pos (by omega), show rd_T26 H i = h from e2, if_pos (by omega), if_pos (by omega), if_pos (by omega)]
    rw [show ((at_ : Int)).toNat = at_ by omega]
    rw [if_pos (by simp only [List.length_drop, List.length_take]; omega), Option.bind_some, if_pos (by simp only [List.length_append, List.length_drop, List.length_take]; omega), w64 (n := h.f0 + h.f1) (by omega) (by omega), w64 (n := (i : Int) + 1) (by omega) (by omega)]
    have ih := edApply_l0 A H hA hH t (i + 1) (h.f0 + h.f1).toNat (h.f0 + h.f1) (out ++ (A.take h.f0.toNat).drop at_ ++ h.f2) k e3 (by omega) (by omega) r6 (by
      simp only [List.length_append, List.length_drop, List.length_take]
      omega) (by omega)
    rw [show (((h.f0 + h.f1).toNat : Nat) : Int) = h.f0 + h.f1 by omega, Int.natCast_add, show ((1 : Nat) : Int) = 1 from rfl] at ih
    rw [ih]
    simp only [List.map_cons, apL, List.foldl_cons]
    rfl
/-- The library's Apply. -/
theorem edApply_f (A : List ByteArray) (H : List HS) (hA : A.length < 4398046511104) (hH : H.length < 4611686018427387904) (hp : putsL (H.map hk) < 4398046511104) {k : Nat} (hk' : H.length < k) :
    edits_Apply.f k A H = if rightB A.length (-1) H = true then some (applyL A (H.map hk), none) else some ([], some 3) := by
  unfold edits_Apply.f
  rw [edRight_f H A.length (by omega) (by omega) hH (by omega), Option.bind_some]
  by_cases c : rightB A.length (-1) H = true
  · rw [if_pos c, if_pos c]
    exact edApply_l0 A H (by omega) hH H 0 0 (-1) [] k rfl (by omega) (by omega) ((rightB_iff _ _ _).1 c) (by simp; omega) (by omega)
  · rw [if_neg c, if_neg c]

/-! ### Same -/
theorem same01_l0 (a b : List ByteArray) (hl : a.length = b.length) (ha : a.length < 4611686018427387904) : ∀ (m i k : Nat), a.length = i + m → m < k → tambourref01_Same.l0 k a b i = some (decide (a.drop i = b.drop i))
  | _, _, 0, _, h => by omega
  | 0, i, k + 1, hm, _ => by
    rw [tambourref01_Same.l0, if_neg (by omega), List.drop_eq_nil_iff.2 (by omega), List.drop_eq_nil_iff.2 (by omega)]
    rfl
  | m + 1, i, k + 1, hm, hk => by
    rw [tambourref01_Same.l0, if_pos (by omega), if_pos (by omega), if_pos (by omega), w64 (n := (i : Int) + 1) (by omega) (by omega)]
    have ih := same01_l0 a b hl ha m (i + 1) k (by omega) (by omega)
    rw [Int.natCast_add, show ((1 : Nat) : Int) = 1 from rfl] at ih
    rw [ih, List.drop_eq_getElem_cons (l := a) (i := i) (by omega), List.drop_eq_getElem_cons (l := b) (i := i) (by omega)]
    have ea : rdOf ByteArray.empty a i = a[i]'(by omega) := by
      unfold rdOf
      rw [List.getD_eq_getElem?_getD, show ((i : Int)).toNat = i by omega, List.getElem?_eq_getElem (by omega)]
      rfl
    have eb : rdOf ByteArray.empty b i = b[i]'(by omega) := by
      unfold rdOf
      rw [List.getD_eq_getElem?_getD, show ((i : Int)).toNat = i by omega, List.getElem?_eq_getElem (by omega)]
      rfl
    rw [ea, eb]
    by_cases c : (a[i]'(by omega)).toList = (b[i]'(by omega)).toList
    · rw [if_pos c]
      congr 1
      rw [decide_eq_decide, List.cons.injEq]
      exact ⟨fun h => ⟨bytes_eq c, h⟩, fun h => h.2⟩
    · rw [if_neg c]
      congr 1
      symm
      rw [decide_eq_false_iff_not, List.cons.injEq]
      exact fun h => c (by rw [h.1])
theorem same01_f (a b : List ByteArray) (ha : a.length < 4611686018427387904) {k : Nat} (hk : a.length < k) : tambourref01_Same.f k a b = some (decide (a = b)) := by
  unfold tambourref01_Same.f
  by_cases c : (a.length : Int) = b.length
  · rw [if_pos c]
    exact same01_l0 a b (by omega) ha a.length 0 k (by omega) hk
  · rw [if_neg c]
    congr 1
    symm
    rw [decide_eq_false_iff_not]
    rintro rfl
    exact c rfl
theorem same02_l1 (H : List HS) (i : Nat) (hi : i < H.length) (hH : H.length < 4611686018427387904) {h : HS} (hg : H.getD i z26 = h) (hl : h.f2.length < 4611686018427387904) : ∀ (m j k : Nat), h.f2.length = j + m → tambourref02_Same.l1 (k + m + 1) H H i j = tambourref02_Same.l0 k H H (i + 1)
  | 0, j, k, hm => by
    rw [tambourref02_Same.l1, if_pos (by omega), if_pos (by omega), show rd_T26 H i = h from hg, if_neg (by omega), w64 (n := (i : Int) + 1) (by omega) (by omega)]
  | m + 1, j, k, hm => by
    rw [show k + (m + 1) + 1 = (k + m + 1) + 1 by omega, tambourref02_Same.l1, if_pos (by omega), if_pos (by omega), show rd_T26 H i = h from hg, if_pos (by omega), if_pos (by omega), if_pos (by omega), if_pos (by omega), if_pos rfl, w64 (n := (j : Int) + 1) (by omega) (by omega)]
    have ih := same02_l1 H i hi hH hg hl m (j + 1) k (by omega)
    rw [Int.natCast_add, show ((1 : Nat) : Int) = 1 from rfl] at ih
    exact ih
theorem same02_l0 (H : List HS) (hH : H.length < 4611686018427387904) : ∀ (t : List HS) (i k : Nat), H.drop i = t → putsL (t.map hk) < 4611686018427387904 → 3 * t.length + putsL (t.map hk) < k → tambourref02_Same.l0 k H H i = some true
  | _, _, 0, _, _, h => by omega
  | [], i, k + 1, hd, _, _ => by
    have := drop_nil hd
    rw [tambourref02_Same.l0, if_neg (by omega)]
  | h :: t, i, k + 1, hd, hp, hk' => by
    obtain ⟨e1, e2, e3⟩ := drop_cons z26 hd
    simp only [List.map_cons, putsL, hk] at hp hk'
    simp only [List.length_cons] at hk'
    rw [tambourref02_Same.l0, if_pos (by omega), if_pos (by omega), if_pos (by omega), if_pos rfl, if_pos rfl, show k = (k - 1) + 1 by omega, tambourref02_Same.j1, bne_self_eq_false, if_neg Bool.false_ne_true]
    have h1 := same02_l1 H i e1 hH e2 (by omega) h.f2.length 0 (k - 1 - h.f2.length - 1) (by omega)
    rw [show k - 1 - h.f2.length - 1 + h.f2.length + 1 = k - 1 by omega] at h1
    have ih := same02_l0 H hH t (i + 1) (k - 1 - h.f2.length - 1) e3 (by omega) (by omega)
    rw [Int.natCast_add, show ((1 : Nat) : Int) = 1 from rfl] at ih
    rw [← ih, ← h1]
    rfl
theorem same02_f (H : List HS) (hH : H.length < 4611686018427387904) (hp : putsL (H.map hk) < 4611686018427387904) {k : Nat} (hk' : 3 * H.length + putsL (H.map hk) < k) : tambourref02_Same.f k H H = some true := by
  unfold tambourref02_Same.f
  rw [if_pos rfl]
  exact same02_l0 H hH H 0 k rfl hp hk'
end Go.Proofs.YtkjjjkjgendnfaaDoorL
