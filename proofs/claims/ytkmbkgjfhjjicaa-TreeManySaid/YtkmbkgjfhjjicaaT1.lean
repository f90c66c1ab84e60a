/- Tree, plain law: keys as numbers; sizes; a node saved on one page or on two. -/
import Derived.Test.YtkmbkgjfhjjicaaTY
namespace Go.Proofs.YtkmbkgjfhjjicaaT
open Go.RowKit Go.Maps Go.Proofs Go.Proofs.YtkmbkgjfhjjicaaW.PrintWords Go.Proofs.YtkmbkgjfhjjicaaW.PrintLast

def keyOf (n : Nat) : ByteArray := bytesOf [107, UInt8.ofNat (n / 256), UInt8.ofNat (n % 256)]
theorem key_size (n : Nat) : (keyOf n).size = 3 := rfl
theorem u8_lt {a b : Nat} (ha : a < 256) (hb : b < 256) : UInt8.ofNat a < UInt8.ofNat b ↔ a < b := by
  rw [UInt8.lt_iff_toNat_lt, UInt8.toNat_ofNat', UInt8.toNat_ofNat', Nat.mod_eq_of_lt ha, Nat.mod_eq_of_lt hb]
theorem u8_inj {a b : Nat} (ha : a < 256) (hb : b < 256) (h : UInt8.ofNat a = UInt8.ofNat b) : a = b := by
  have := congrArg UInt8.toNat h
  rw [UInt8.toNat_ofNat', UInt8.toNat_ofNat', Nat.mod_eq_of_lt ha, Nat.mod_eq_of_lt hb] at this
  exact this
theorem lt_key {a b : Nat} (ha : a < 65536) (hb : b < 65536) : lt (keyOf a) (keyOf b) = decide (a < b) := by
  rw [Bool.eq_iff_iff, lt_iff, decide_eq_true_eq]
  show [(107 : UInt8), UInt8.ofNat (a / 256), UInt8.ofNat (a % 256)] < [(107 : UInt8), UInt8.ofNat (b / 256), UInt8.ofNat (b % 256)] ↔ _
  rw [List.cons_lt_cons_iff, List.cons_lt_cons_iff, List.cons_lt_cons_iff, u8_lt (by omega) (by omega), u8_lt (by omega) (by omega)]
  constructor
  · rintro (h | ⟨_, h | ⟨h, h2 | ⟨_, h2⟩⟩⟩)
    · exact absurd h (by decide)
    · omega
    · have := u8_inj (by omega) (by omega) h
      omega
    · exact absurd h2 (by decide)
  · intro h
    refine .inr ⟨rfl, ?_⟩
    by_cases h2 : a / 256 < b / 256
    · exact .inl h2
    · exact .inr ⟨by rw [show a / 256 = b / 256 by omega], .inl (by omega)⟩
theorem key_inj {a b : Nat} (ha : a < 65536) (hb : b < 65536) (h : keyOf a = keyOf b) : a = b := by
  have h1 := lt_key ha hb
  have h2 := lt_key hb ha
  rw [h, lt_irrefl] at h1
  rw [h, lt_irrefl] at h2
  have h3 := of_decide_eq_false h1.symm
  have h4 := of_decide_eq_false h2.symm
  omega
theorem same_key {a b : Nat} (ha : a < 65536) (hb : b < 65536) : ((keyOf a).toList == (keyOf b).toList) = decide (a = b) := by
  rw [Bool.eq_iff_iff, same_iff, decide_eq_true_eq]
  exact ⟨key_inj ha hb, fun h => by rw [h]⟩
def itL (vl : ByteArray) (n : Nat) : It := ⟨keyOf n, vl, 0⟩
abbrev Sorted (K : List Nat) : Prop := K.Pairwise (· < ·)
theorem sorted_ext : ∀ {A B : List Nat}, Sorted A → Sorted B → (∀ x, x ∈ A ↔ x ∈ B) → A = B
  | [], [], _, _, _ => rfl
  | [], b :: B, _, _, h => absurd ((h b).2 (by simp)) (by simp)
  | a :: A, [], _, _, h => absurd ((h a).1 (by simp)) (by simp)
  | a :: A, b :: B, hA, hB, h => by
    replace hA := List.pairwise_cons.1 hA
    replace hB := List.pairwise_cons.1 hB
    have hab : a = b := by
      rcases List.mem_cons.1 ((h a).1 (by simp)) with e | e
      · exact e
      · rcases List.mem_cons.1 ((h b).2 (by simp)) with e2 | e2
        · exact e2.symm
        · have := hA.1 _ e2
          have := hB.1 _ e
          omega
    subst hab
    congr 1
    refine sorted_ext hA.2 hB.2 (fun x => ⟨fun hx => ?_, fun hx => ?_⟩)
    · rcases List.mem_cons.1 ((h x).1 (List.mem_cons_of_mem _ hx)) with e | e
      · subst e
        exact absurd (hA.1 _ hx) (Nat.lt_irrefl _)
      · exact e
    · rcases List.mem_cons.1 ((h x).2 (List.mem_cons_of_mem _ hx)) with e | e
      · subst e
        exact absurd (hB.1 _ hx) (Nat.lt_irrefl _)
      · exact e
/-! ### Sizes -/
theorem encI_leaf (vl : ByteArray) (n : Nat) : (encI true (itL vl n)).length = 6 + vl.size := by
  have e : vl.data.toList.length = vl.size := by rw [Array.length_toList]; rfl
  show ((_ :: (keyOf n).data.toList) ++ (by2 vl.size ++ vl.data.toList)).length = _
  simp only [List.length_append, List.length_cons, by2, List.length_nil, e]
  show 3 + 1 + (0 + 1 + 1 + vl.size) = _
  omega
theorem encL_leaf (vl : ByteArray) : ∀ K : List Nat, (encL true (K.map (itL vl))).length = K.length * (6 + vl.size)
  | [] => by rw [List.length_nil, Nat.zero_mul]; rfl
  | n :: K => by
    have h := encL_leaf vl K
    unfold encL at h ⊢
    rw [List.map_cons, List.flatMap_cons, List.length_append, encI_leaf, h, List.length_cons, Nat.succ_mul]
    omega
theorem encN_leaf (vl : ByteArray) (K : List Nat) : (encN ⟨true, K.map (itL vl)⟩).length = 2 + K.length * (6 + vl.size) := by
  unfold encN
  rw [List.length_append, encL_leaf]
  rfl
theorem encI_inner (x : It) : (encI false x).length = 3 + x.key.size := by
  have e : x.key.data.toList.length = x.key.size := by rw [Array.length_toList]; rfl
  show ((_ :: x.key.data.toList) ++ by2 x.child).length = _
  simp only [List.length_append, List.length_cons, by2, List.length_nil, e]
  omega
theorem encL_inner : ∀ l : List It, (∀ x ∈ l, x.key.size = 3) → (encL false l).length = l.length * 6
  | [], _ => rfl
  | x :: l, h => by
    have h2 := encL_inner l (fun y hy => h y (List.mem_cons_of_mem _ hy))
    unfold encL at h2 ⊢
    rw [List.flatMap_cons, List.length_append, encI_inner, h2, List.length_cons, h x (by simp), Nat.succ_mul]
    omega
theorem encN_inner {x : It} {l : List It} (h : ∀ x ∈ l, x.key.size = 3) : (encN ⟨false, x :: l⟩).length = 2 + (3 + x.key.size) + l.length * 6 := by
  have h2 := encL_inner l h
  unfold encN encL at *
  rw [List.length_append, List.flatMap_cons, List.length_append, encI_inner, h2]
  show 2 + _ = _
  omega
/-! ### A node is saved -/
theorem set_isSome {S : Pg} {p q : Nat} {n : Nd} (h : (S.f q).isSome = true) : ((S.set p n).f q).isSome = true := by
  unfold Pg.set
  simp only
  split
  · rfl
  · exact h
theorem put_some {S : Pg} {p : Nat} {n : Nd} (hok : okN n = true) (hl : (encN n).length ≤ 512) (hp : (S.f p).isSome = true) : S.put p n = some (S.set p n) := by
  unfold Pg.put
  rw [if_pos (by rw [hok, hp, decide_eq_true hl]; rfl)]
theorem okN_256 {n : Nd} (hok : okN n = true) : n.items.length < 256 := (okN_len (leaf := n.leaf) (items := n.items) hok).2
theorem save_one {k : Nat} {S : Pg} {p : Nat} {n : Nd} (hok : okN n = true) (hl : (encN n).length ≤ 512) (hp : (S.f p).isSome = true) : saveF (k + 1) S p n = some (S.set p n, []) := by
  rw [saveF, if_pos (by unfold fitN; rw [decide_eq_true hl, decide_eq_true (okN_256 hok)]; rfl), put_some hok hl hp]
  rfl
theorem part_best (n : Nd) : ∀ (l : List Nat) (s : Nat × Nat), (partAt n l s).2 ≤ s.2 ∧ (∀ i ∈ l, (partAt n l s).2 ≤ max (encN ⟨n.leaf, n.items.take i⟩).length (encN ⟨n.leaf, n.items.drop i⟩).length) ∧
    (partAt n l s = s ∨ ((partAt n l s).1 ∈ l ∧ (partAt n l s).2 = max (encN ⟨n.leaf, n.items.take (partAt n l s).1⟩).length (encN ⟨n.leaf, n.items.drop (partAt n l s).1⟩).length))
  | [], s => ⟨Nat.le_refl _, fun i hi => by simp at hi, .inl rfl⟩
  | i :: l, s => by
    rw [partAt]
    split
    · rename_i hlt
      obtain ⟨h1, h2, h3⟩ := part_best n l (i, max (encN ⟨n.leaf, n.items.take i⟩).length (encN ⟨n.leaf, n.items.drop i⟩).length)
      refine ⟨Nat.le_trans h1 (Nat.le_of_lt hlt), fun j hj => ?_, ?_⟩
      · rcases List.mem_cons.1 hj with rfl | hj
        · exact h1
        · exact h2 j hj
      · rcases h3 with h3 | ⟨h3, h4⟩
        · rw [h3]
          exact .inr ⟨by simp, rfl⟩
        · exact .inr ⟨List.mem_cons_of_mem _ h3, h4⟩
    · rename_i hlt
      obtain ⟨h1, h2, h3⟩ := part_best n l s
      refine ⟨h1, fun j hj => ?_, ?_⟩
      · rcases List.mem_cons.1 hj with rfl | hj
        · omega
        · exact h2 j hj
      · rcases h3 with h3 | ⟨h3, h4⟩
        · exact .inl h3
        · exact .inr ⟨List.mem_cons_of_mem _ h3, h4⟩
theorem best_fits {n : Nd} (h2 : 2 ≤ n.items.length) (hbig : 512 < (encN n).length) {j : Nat} (hj1 : 1 ≤ j) (hj : j < n.items.length) (h3 : (encN ⟨n.leaf, n.items.take j⟩).length ≤ 512) (h4 : (encN ⟨n.leaf, n.items.drop j⟩).length ≤ 512) :
    (encN ⟨n.leaf, n.items.take (bestAt n)⟩).length ≤ 512 ∧ (encN ⟨n.leaf, n.items.drop (bestAt n)⟩).length ≤ 512 := by
  obtain ⟨_, h6, h7⟩ := part_best n (List.range' 1 (n.items.length - 1)) (1, (encN n).length)
  have h8 := h6 j (by rw [List.mem_range'_1]; omega)
  have h9 : (partAt n (List.range' 1 (n.items.length - 1)) (1, (encN n).length)).2 ≤ 512 := Nat.le_trans h8 (Nat.max_le.2 ⟨h3, h4⟩)
  rcases h7 with h7 | ⟨_, h7⟩
  · rw [h7] at h9
    simp only at h9
    omega
  · rw [h7] at h9
    exact Nat.max_le.1 h9
theorem save_two {k : Nat} {S : Pg} {p : Nat} {leaf : Bool} {items : List It} (h2 : 2 ≤ items.length) (h1000 : items.length ≤ 1000) (hbig : 512 < (encN ⟨leaf, items⟩).length)
    (hok : ∀ i, 1 ≤ i → i < items.length → okN ⟨leaf, items.take i⟩ = true ∧ okN ⟨leaf, items.drop i⟩ = true) {j : Nat} (hj1 : 1 ≤ j) (hj : j < items.length) (h3 : (encN ⟨leaf, items.take j⟩).length ≤ 512) (h4 : (encN ⟨leaf, items.drop j⟩).length ≤ 512)
    (hp : (S.f p).isSome = true) (hnx : S.nx ≤ 60000) :
    ∃ a x, 1 ≤ a ∧ a < items.length ∧ items[a]? = some x ∧ (encN ⟨leaf, items.take a⟩).length ≤ 512 ∧ (encN ⟨leaf, items.drop a⟩).length ≤ 512 ∧
      saveF (k + 2) S p ⟨leaf, items⟩ = some (((S.set p ⟨leaf, items.take a⟩).new).set (S.nx + 1) ⟨leaf, items.drop a⟩, [⟨x.key, ⟨#[]⟩, S.nx + 1⟩]) := by
  have hb := bestAt_in ⟨leaf, items⟩ h2
  simp only at hb
  obtain ⟨h5, h6⟩ := best_fits (n := ⟨leaf, items⟩) h2 hbig hj1 hj h3 h4
  obtain ⟨a, ha⟩ : ∃ a, a = bestAt ⟨leaf, items⟩ := ⟨_, rfl⟩
  rw [← ha] at hb h5 h6
  have hal : a < items.length := by omega
  obtain ⟨o1, o2⟩ := hok a hb.1 hal
  refine ⟨a, items[a], hb.1, hal, List.getElem?_eq_getElem hal, h5, h6, ?_⟩
  rw [saveF, if_neg (by unfold fitN; rw [decide_eq_false (by omega)]; exact Bool.false_ne_true), if_neg (by simp only; omega)]
  simp only
  rw [← ha, save_one o1 h5 hp]
  simp only [Option.bind_some]
  rw [if_neg (show ¬ 60000 < (S.set p ⟨leaf, items.take a⟩).nx from Nat.not_lt.2 hnx), List.getElem?_eq_getElem hal]
  have hs : (((S.set p ⟨leaf, items.take a⟩).new).f (S.nx + 1)).isSome = true := by
    unfold Pg.new
    simp only
    rw [if_pos (show S.nx + 1 = (S.set p ⟨leaf, items.take a⟩).nx + 1 from rfl)]
    rfl
  rw [show (S.set p ⟨leaf, items.take a⟩).nx = S.nx from rfl, save_one o2 h6 hs]
  rfl
#print axioms save_two
end Go.Proofs.YtkmbkgjfhjjicaaT
