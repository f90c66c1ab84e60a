/- Tree, plain law: chains of subtrees. -/
import Derived.Test.YtkmbkgjfhjjicaaT1
namespace Go.Proofs.YtkmbkgjfhjjicaaT
open Go.RowKit Go.Maps Go.Proofs Go.Proofs.YtkmbkgjfhjjicaaW.PrintWords Go.Proofs.YtkmbkgjfhjjicaaW.PrintLast

/-- A subtree as its parent sees it: the key that leads to it, its page, its keys, all its pages. -/
structure Ch where
  key : ByteArray
  page : Nat
  keys : List Nat
  pages : List Nat
def itC (c : Ch) : It := ⟨c.key, ⟨#[]⟩, c.page⟩
def keysOf (cs : List Ch) : List Nat := cs.flatMap (·.keys)
def pagesOf (cs : List Ch) : List Nat := cs.flatMap (·.pages)
theorem keysOf_cons (c : Ch) (cs : List Ch) : keysOf (c :: cs) = c.keys ++ keysOf cs := List.flatMap_cons
theorem keysOf_append (a b : List Ch) : keysOf (a ++ b) = keysOf a ++ keysOf b := List.flatMap_append
theorem pagesOf_cons (c : Ch) (cs : List Ch) : pagesOf (c :: cs) = c.pages ++ pagesOf cs := List.flatMap_cons
theorem pagesOf_append (a b : List Ch) : pagesOf (a ++ b) = pagesOf a ++ pagesOf b := List.flatMap_append
/-- Subtrees side by side, between two bounds: the keys between them part their keys. -/
def Chain (R : Nat → Nat → Ch → Prop) : Nat → Nat → List Ch → Prop
  | _, _, [] => False
  | lo, hi, [c] => R lo hi c
  | lo, hi, c :: c' :: cs => ∃ s, c'.key = keyOf s ∧ s < 65536 ∧ R lo s c ∧ Chain R s hi (c' :: cs)
section
variable {R R' : Nat → Nat → Ch → Prop}
def Weak (R : Nat → Nat → Ch → Prop) : Prop := ∀ lo hi lo' hi' c, R lo hi c → lo' ≤ lo → hi ≤ hi' → R lo' hi' c
def Good (R : Nat → Nat → Ch → Prop) : Prop := ∀ lo hi c, R lo hi c → c.keys ≠ [] ∧ Sorted c.keys ∧ ∀ x ∈ c.keys, lo ≤ x ∧ x < hi
theorem Good.lt (hg : Good R) {lo hi : Nat} {c : Ch} (h : R lo hi c) : lo < hi := by
  obtain ⟨h1, _, h3⟩ := hg _ _ _ h
  cases hk : c.keys with
  | nil => exact absurd hk h1
  | cons x l =>
    have := h3 x (by rw [hk]; simp)
    omega
theorem chain_keys (hg : Good R) : ∀ {cs : List Ch} {lo hi : Nat}, Chain R lo hi cs → keysOf cs ≠ [] ∧ Sorted (keysOf cs) ∧ (∀ x ∈ keysOf cs, lo ≤ x ∧ x < hi) ∧ lo < hi
  | [], _, _, h => h.elim
  | [c], lo, hi, h => by
    have e : keysOf [c] = c.keys := by rw [keysOf_cons]; exact List.append_nil _
    rw [e]
    exact ⟨(hg _ _ _ h).1, (hg _ _ _ h).2.1, (hg _ _ _ h).2.2, hg.lt h⟩
  | c :: c' :: cs, lo, hi, h => by
    obtain ⟨s, _, _, h1, h2⟩ := h
    obtain ⟨a1, a2, a3⟩ := hg _ _ _ h1
    have al := hg.lt h1
    obtain ⟨b1, b2, b3, b4⟩ := chain_keys hg h2
    rw [keysOf_cons]
    refine ⟨fun e => a1 (List.append_eq_nil_iff.1 e).1, ?_, fun x hx => ?_, by omega⟩
    · refine List.pairwise_append.2 ⟨a2, b2, fun x hx y hy => ?_⟩
      have := (a3 x hx).2
      have := (b3 y hy).1
      omega
    · rcases List.mem_append.1 hx with hx | hx
      · have := a3 x hx
        omega
      · have := b3 x hx
        omega
theorem chain_ne : ∀ {cs : List Ch} {lo hi : Nat}, Chain R lo hi cs → cs ≠ []
  | [], _, _, h => h.elim
  | _ :: _, _, _, _ => List.cons_ne_nil _ _
theorem chain_mono : ∀ {cs : List Ch} {lo hi : Nat}, Chain R lo hi cs → (∀ x ∈ cs, ∀ a b, R a b x → R' a b x) → Chain R' lo hi cs
  | [], _, _, h, _ => h.elim
  | [c], lo, hi, h, hm => hm c (by simp) _ _ h
  | c :: c' :: cs, lo, hi, h, hm => by
    obtain ⟨s, e, hs, h1, h2⟩ := h
    exact ⟨s, e, hs, hm c (by simp) _ _ h1, chain_mono h2 (fun x hx => hm x (List.mem_cons_of_mem _ hx))⟩
theorem chain_low (hw : Weak R) : ∀ {cs : List Ch} {lo lo' hi : Nat}, Chain R lo hi cs → lo' ≤ lo → Chain R lo' hi cs
  | [], _, _, _, h, _ => h.elim
  | [c], lo, lo', hi, h, hl => hw _ _ _ _ _ h hl (Nat.le_refl _)
  | c :: c' :: cs, lo, lo', hi, h, hl => by
    obtain ⟨s, e, hs, h1, h2⟩ := h
    exact ⟨s, e, hs, hw _ _ _ _ _ h1 hl (Nat.le_refl _), h2⟩
theorem chain_high (hw : Weak R) : ∀ {cs : List Ch} {lo hi hi' : Nat}, Chain R lo hi cs → hi ≤ hi' → Chain R lo hi' cs
  | [], _, _, _, h, _ => h.elim
  | [c], lo, hi, hi', h, hl => hw _ _ _ _ _ h (Nat.le_refl _) hl
  | c :: c' :: cs, lo, hi, hi', h, hl => by
    obtain ⟨s, e, hs, h1, h2⟩ := h
    exact ⟨s, e, hs, h1, chain_high hw h2 hl⟩
theorem chain_cons : ∀ {l : List Ch} {lo s hi : Nat} {c : Ch}, R lo s c → Chain R s hi l → s < 65536 → (∀ c' ∈ l.head?, c'.key = keyOf s) → Chain R lo hi (c :: l)
  | [], _, _, _, _, _, h, _, _ => h.elim
  | c' :: l, lo, s, hi, c, h1, h2, hs, hk => ⟨s, hk c' (by simp), hs, h1, h2⟩
theorem chain_append : ∀ {A B : List Ch} {lo s hi : Nat}, Chain R lo s A → Chain R s hi B → s < 65536 → (∀ c' ∈ B.head?, c'.key = keyOf s) → Chain R lo hi (A ++ B)
  | [], _, _, _, _, h, _, _, _ => h.elim
  | [c], B, lo, s, hi, h1, h2, hs, hk => chain_cons h1 h2 hs hk
  | c :: c' :: A, B, lo, s, hi, h1, h2, hs, hk => by
    obtain ⟨t, e, ht, h3, h4⟩ := h1
    exact ⟨t, e, ht, h3, chain_append h4 h2 hs hk⟩
theorem chain_split : ∀ {A B : List Ch} {lo hi : Nat}, Chain R lo hi (A ++ B) → A ≠ [] → B ≠ [] → ∃ s, s < 65536 ∧ (∀ c' ∈ B.head?, c'.key = keyOf s) ∧ Chain R lo s A ∧ Chain R s hi B
  | [], _, _, _, _, h, _ => absurd rfl h
  | [c], B, lo, hi, h, _, hB => by
    cases B with
    | nil => exact absurd rfl hB
    | cons c' B =>
      obtain ⟨s, e, hs, h1, h2⟩ := h
      exact ⟨s, hs, fun x hx => by obtain rfl : c' = x := by simpa using hx
                                   exact e, h1, h2⟩
  | c :: c' :: A, B, lo, hi, h, _, hB => by
    obtain ⟨t, e, ht, h3, h4⟩ := h
    obtain ⟨s, hs, hk, h5, h6⟩ := chain_split h4 (List.cons_ne_nil _ _) hB
    exact ⟨s, hs, hk, ⟨t, e, ht, h3, h5⟩, h6⟩
theorem chain_remove (hg : Good R) (hw : Weak R) : ∀ {pre post : List Ch} {c : Ch} {lo hi : Nat}, Chain R lo hi (pre ++ c :: post) → pre ++ post ≠ [] → Chain R lo hi (pre ++ post)
  | [], post, c, lo, hi, h, hne => by
    cases post with
    | nil => exact absurd rfl hne
    | cons c' post =>
      obtain ⟨s, _, _, h1, h2⟩ := h
      exact chain_low hw h2 (Nat.le_of_lt (hg.lt h1))
  | [a], post, c, lo, hi, h, _ => by
    obtain ⟨s, e, hs, h1, h2⟩ := h
    cases post with
    | nil => exact hw _ _ _ _ _ h1 (Nat.le_refl _) (Nat.le_of_lt (hg.lt h2))
    | cons c' post =>
      obtain ⟨t, e2, ht, h3, h4⟩ := h2
      exact ⟨t, e2, ht, hw _ _ _ _ _ h1 (Nat.le_refl _) (Nat.le_of_lt (hg.lt h3)), h4⟩
  | a :: b :: pre, post, c, lo, hi, h, _ => by
    obtain ⟨s, e, hs, h1, h2⟩ := h
    exact ⟨s, e, hs, h1, chain_remove hg hw (pre := b :: pre) h2 (by simp)⟩
/-- The place of a key among the keys between. -/
def pos (n : Nat) (cs : List Ch) : Nat := firstIdx (fun x => !(lt x.key (keyOf n) || x.key.toList == (keyOf n).toList)) ((cs.map itC).drop 1)
theorem le_key {s n : Nat} (hs : s < 65536) (hn : n < 65536) : (!(lt (keyOf s) (keyOf n) || (keyOf s).toList == (keyOf n).toList)) = decide (n < s) := by
  rw [lt_key hs hn, same_key hs hn, ← Bool.decide_or, ← decide_not]
  congr 1
  rw [eq_iff_iff]
  omega
theorem chain_zip (hg : Good R) {n : Nat} (hn : n < 65536) : ∀ {cs : List Ch} {lo hi : Nat}, Chain R lo hi cs → lo ≤ n → n < hi →
    ∃ pre c post lo' hi', cs = pre ++ c :: post ∧ pre.length = pos n cs ∧ R lo' hi' c ∧ lo' ≤ n ∧ n < hi' ∧ hi' ≤ hi ∧ (∀ x ∈ keysOf pre, x < n) ∧ (∀ x ∈ keysOf post, n < x) ∧
      ∀ (R' : Nat → Nat → Ch → Prop) (mid : List Ch), (∀ x, x ∈ pre ∨ x ∈ post → ∀ a b, R a b x → R' a b x) → Chain R' lo' hi' mid → (∀ c' ∈ mid.head?, c'.key = c.key) → Chain R' lo hi (pre ++ mid ++ post)
  | [], _, _, h, _, _ => h.elim
  | [c], lo, hi, h, h1, h2 => ⟨[], c, [], lo, hi, rfl, rfl, h, h1, h2, Nat.le_refl _, fun x hx => by simp [keysOf] at hx, fun x hx => by simp [keysOf] at hx, fun R' mid _ hm _ => by rw [List.nil_append, List.append_nil]; exact hm⟩
  | c :: c' :: cs, lo, hi, h, h1, h2 => by
    obtain ⟨s, e, hs, h3, h4⟩ := h
    have hpos : pos n (c :: c' :: cs) = if n < s then 0 else pos n (c' :: cs) + 1 := by
      unfold pos
      rw [List.map_cons, List.map_cons, List.drop_succ_cons, List.drop_zero, firstIdx]
      rw [show (itC c').key = keyOf s from e, le_key hs hn]
      by_cases hns : n < s
      · rw [if_pos (decide_eq_true hns), if_pos hns]
      · rw [if_neg (by rw [decide_eq_false hns]; exact Bool.false_ne_true), if_neg hns]
        rfl
    have hck := chain_keys hg h4
    by_cases hns : n < s
    · refine ⟨[], c, c' :: cs, lo, s, rfl, by rw [hpos, if_pos hns]; rfl, h3, h1, hns, Nat.le_of_lt hck.2.2.2, fun x hx => by simp [keysOf] at hx, fun x hx => ?_, fun R' mid hm hmid _ => ?_⟩
      · have := (hck.2.2.1 x hx).1
        omega
      · rw [List.nil_append]
        exact chain_append hmid (chain_mono h4 (fun x hx => hm x (.inr hx))) hs (fun x hx => by
          obtain rfl : c' = x := by simpa using hx
          exact e)
    · obtain ⟨pre, cz, post, lo', hi', he, hp, hr, g1, g2, g3, g4, g5, g6⟩ := chain_zip hg hn h4 (by omega) h2
      refine ⟨c :: pre, cz, post, lo', hi', by rw [he]; rfl, by rw [hpos, if_neg hns, ← hp]; rfl, hr, g1, g2, g3, fun x hx => ?_, g5, fun R' mid hm hmid hk => ?_⟩
      · rw [keysOf_cons] at hx
        rcases List.mem_append.1 hx with hx | hx
        · have := ((hg _ _ _ h3).2.2 x hx).2
          omega
        · exact g4 x hx
      · refine chain_cons (hm c (.inl (by simp)) _ _ h3) (g6 R' mid (fun x hx => hm x (hx.elim (fun h => .inl (List.mem_cons_of_mem _ h)) .inr)) hmid hk) hs (fun x hx => ?_)
        cases pre with
        | nil =>
          rw [List.nil_append] at he
          injection he with he _
          change x ∈ (mid ++ post).head? at hx
          cases mid with
          | nil => exact hmid.elim
          | cons m0 mid =>
            obtain rfl : m0 = x := by simpa using hx
            rw [hk m0 (by simp), ← he]
            exact e
        | cons p0 pre =>
          injection he with he _
          change x ∈ (p0 :: (pre ++ mid ++ post)).head? at hx
          obtain rfl : p0 = x := by simpa using hx
          rw [← he]
          exact e
end
#print axioms chain_zip
#print axioms chain_remove
end Go.Proofs.YtkmbkgjfhjjicaaT
