/- Tree, plain law: trees by depth. -/
import Derived.Test.YtkmbkgjfhjjicaaT2
namespace Go.Proofs.YtkmbkgjfhjjicaaT
open Go.RowKit Go.Maps Go.Proofs Go.Proofs.YtkmbkgjfhjjicaaW.PrintWords Go.Proofs.YtkmbkgjfhjjicaaW.PrintLast

/-- How many items a leaf holds. -/
def cap (vl : ByteArray) : Nat := 510 / (6 + vl.size)
def Sub (S : Pg) (vl : ByteArray) : Nat → Nat → Nat → Ch → Prop
  | 0, lo, hi, c => c.keys ≠ [] ∧ c.keys.length ≤ cap vl ∧ Sorted c.keys ∧ (∀ x ∈ c.keys, lo ≤ x ∧ x < hi) ∧ c.pages = [c.page] ∧ S.f c.page = some (some ⟨true, c.keys.map (itL vl)⟩)
  | d + 1, lo, hi, c => ∃ cs, cs.length ≤ 85 ∧ Chain (Sub S vl d) lo hi cs ∧ (∀ x ∈ cs, x.key.size ≤ 3 ∧ x.page < 65536) ∧ c.keys = keysOf cs ∧ c.pages = c.page :: pagesOf cs ∧ S.f c.page = some (some ⟨false, cs.map itC⟩)
theorem sub_good (S : Pg) (vl : ByteArray) : ∀ d, Good (Sub S vl d)
  | 0 => fun lo hi c h => ⟨h.1, h.2.2.1, h.2.2.2.1⟩
  | d + 1 => fun lo hi c h => by
    obtain ⟨cs, _, hc, _, hk, _⟩ := h
    rw [hk]
    have := chain_keys (sub_good S vl d) hc
    exact ⟨this.1, this.2.1, this.2.2.1⟩
theorem sub_weak (S : Pg) (vl : ByteArray) : ∀ d, Weak (Sub S vl d)
  | 0 => fun lo hi lo' hi' c h h1 h2 => ⟨h.1, h.2.1, h.2.2.1, fun x hx => by have := h.2.2.2.1 x hx; omega, h.2.2.2.2⟩
  | d + 1 => fun lo hi lo' hi' c h h1 h2 => by
    obtain ⟨cs, a, hc, r⟩ := h
    exact ⟨cs, a, chain_high (sub_weak S vl d) (chain_low (sub_weak S vl d) hc h1) h2, r⟩
theorem mem_pagesOf {cs : List Ch} {c : Ch} (hc : c ∈ cs) {q : Nat} (hq : q ∈ c.pages) : q ∈ pagesOf cs := List.mem_flatMap.2 ⟨c, hc, hq⟩
theorem sub_frame {S S' : Pg} {vl : ByteArray} : ∀ {d lo hi : Nat} {c : Ch}, Sub S vl d lo hi c → (∀ q ∈ c.pages, S'.f q = S.f q) → Sub S' vl d lo hi c
  | 0, lo, hi, c, h, hq => ⟨h.1, h.2.1, h.2.2.1, h.2.2.2.1, h.2.2.2.2.1, by rw [hq _ (by rw [h.2.2.2.2.1]; simp)]; exact h.2.2.2.2.2⟩
  | d + 1, lo, hi, c, h, hq => by
    obtain ⟨cs, a, hc, b, hk, hp, hf⟩ := h
    exact ⟨cs, a, chain_mono hc (fun x hx u v hu => sub_frame hu (fun q hqx => hq q (by rw [hp]; exact List.mem_cons_of_mem _ (mem_pagesOf hx hqx)))), b, hk, hp, by rw [hq _ (by rw [hp]; simp)]; exact hf⟩
theorem sub_page {S : Pg} {vl : ByteArray} : ∀ {d lo hi : Nat} {c : Ch}, Sub S vl d lo hi c → c.page ∈ c.pages
  | 0, lo, hi, c, h => by rw [h.2.2.2.2.1]; simp
  | d + 1, lo, hi, c, h => by obtain ⟨cs, a, hc, b, hk, hp, hf⟩ := h; rw [hp]; simp
theorem sub_rekey {S : Pg} {vl : ByteArray} {k : ByteArray} : ∀ {d lo hi : Nat} {c : Ch}, Sub S vl d lo hi c → Sub S vl d lo hi ⟨k, c.page, c.keys, c.pages⟩
  | 0, lo, hi, c, h => h
  | d + 1, lo, hi, c, h => h
theorem chain_each {R : Nat → Nat → Ch → Prop} (hg : Good R) : ∀ {cs : List Ch} {lo hi : Nat}, Chain R lo hi cs → ∀ c ∈ cs, ∃ a b, b ≤ hi ∧ R a b c
  | [], _, _, h => h.elim
  | [c], lo, hi, h => fun x hx => by
    obtain rfl : x = c := by simpa using hx
    exact ⟨lo, hi, Nat.le_refl _, h⟩
  | c :: c' :: cs, lo, hi, h => fun x hx => by
    obtain ⟨s, _, _, h1, h2⟩ := h
    rcases List.mem_cons.1 hx with rfl | hx
    · exact ⟨lo, s, Nat.le_of_lt (chain_keys hg h2).2.2.2, h1⟩
    · exact chain_each hg h2 x hx
theorem sub_some {S : Pg} {vl : ByteArray} : ∀ {d lo hi : Nat} {c : Ch}, Sub S vl d lo hi c → ∀ {q : Nat}, q ∈ c.pages → (S.f q).isSome = true
  | 0, lo, hi, c, h, q, hq => by
    rw [h.2.2.2.2.1] at hq
    obtain rfl : q = c.page := by simpa using hq
    rw [h.2.2.2.2.2]
    rfl
  | d + 1, lo, hi, c, h, q, hq => by
    obtain ⟨cs, a, hc, b, hk, hp, hf⟩ := h
    rw [hp] at hq
    rcases List.mem_cons.1 hq with rfl | hq
    · rw [hf]
      rfl
    · obtain ⟨x, hx, hqx⟩ := List.mem_flatMap.1 hq
      obtain ⟨u, v, _, hs⟩ := chain_each (sub_good S vl d) hc x hx
      exact sub_some hs hqx
/-! ### The nodes may lie on pages -/
theorem rising_sorted (vl : ByteArray) : ∀ {K : List Nat}, Sorted K → (∀ x ∈ K, x < 65536) → rising (K.map (itL vl)) = true
  | [], _, _ => rfl
  | [x], _, _ => rfl
  | x :: y :: K, h, hb => by
    replace h := List.pairwise_cons.1 h
    rw [List.map_cons, List.map_cons, rising]
    have h2 := rising_sorted vl h.2 (fun z hz => hb z (List.mem_cons_of_mem _ hz))
    rw [List.map_cons] at h2
    rw [h2, show (itL vl x).key = keyOf x from rfl, show (itL vl y).key = keyOf y from rfl, lt_key (hb x (by simp)) (hb y (by simp)), decide_eq_true (h.1 y (by simp))]
    rfl
theorem okN_leaf {vl : ByteArray} (hv : vl.size ≤ 400) {K : List Nat} (h0 : K ≠ []) (hl : K.length < 256) (hs : Sorted K) (hb : ∀ x ∈ K, x < 65536) : okN ⟨true, K.map (itL vl)⟩ = true := by
  unfold okN
  simp only [if_true, Bool.and_eq_true, List.all_eq_true, List.mem_map, decide_eq_true_eq, List.length_map]
  refine ⟨⟨⟨?_, List.length_pos_iff.2 h0⟩, hl⟩, rising_sorted vl hs hb⟩
  rintro _ ⟨n, hn, rfl⟩
  unfold okI
  rw [if_pos rfl, decide_eq_true (show (itL vl n).key.size < 256 by show 3 < 256; omega), decide_eq_true (show (itL vl n).val.size < 65536 by show vl.size < 65536; omega)]
  rfl
theorem chain_rising {R : Nat → Nat → Ch → Prop} (hg : Good R) : ∀ {cs : List Ch} {lo hi : Nat}, Chain R lo hi cs → rising ((cs.map itC).drop 1) = true ∧ (∀ x ∈ (cs.map itC).drop 1, x.key.size = 3) ∧ (∀ c s, cs.head? = some c → c.key = keyOf s → s ≤ lo → s < 65536 → rising (cs.map itC) = true)
  | [], _, _, h => h.elim
  | [c], lo, hi, h => ⟨rfl, fun x hx => by simp at hx, fun _ _ _ _ _ _ => rfl⟩
  | c :: c' :: cs, lo, hi, h => by
    obtain ⟨t, e, ht, h1, h2⟩ := h
    obtain ⟨i1, i2, i3⟩ := chain_rising hg h2
    have hr := i3 c' t rfl e (Nat.le_refl _) ht
    refine ⟨hr, fun x hx => ?_, fun c0 s hc0 hk hs hs2 => ?_⟩
    · rw [List.map_cons, List.map_cons, List.drop_succ_cons, List.drop_zero] at hx
      rcases List.mem_cons.1 hx with rfl | hx
      · show c'.key.size = 3
        rw [e]
        rfl
      · exact i2 x (by rw [List.map_cons, List.drop_succ_cons, List.drop_zero]; exact hx)
    · obtain rfl : c = c0 := by simpa using hc0
      rw [List.map_cons, List.map_cons, rising]
      rw [List.map_cons] at hr
      rw [hr, show (itC c).key = keyOf s from hk, show (itC c').key = keyOf t from e, lt_key hs2 ht, decide_eq_true (show s < t from Nat.lt_of_le_of_lt hs (hg.lt h1))]
      rfl
theorem okN_inner {R : Nat → Nat → Ch → Prop} (hg : Good R) {cs : List Ch} {lo hi : Nat} (h : Chain R lo hi cs) (hl : cs.length < 256) (hb : ∀ x ∈ cs, x.key.size ≤ 3 ∧ x.page < 65536) : okN ⟨false, cs.map itC⟩ = true := by
  obtain ⟨h1, h2, _⟩ := chain_rising hg h
  unfold okN
  simp only [Bool.false_eq_true, if_false, Bool.and_eq_true, List.all_eq_true, decide_eq_true_eq, List.length_map]
  refine ⟨⟨⟨?_, List.length_pos_iff.2 (chain_ne h)⟩, hl⟩, h1, fun x hx => by rw [h2 x hx]; decide⟩
  intro y hy
  obtain ⟨x, hx, rfl⟩ := List.mem_map.1 hy
  have := hb x hx
  unfold okI
  rw [if_neg Bool.false_ne_true, decide_eq_true (show (itC x).key.size < 256 by show x.key.size < 256; omega), decide_eq_true (show (itC x).child < 65536 from this.2)]
  rfl
theorem inner_len {R : Nat → Nat → Ch → Prop} (hg : Good R) {cs : List Ch} {lo hi : Nat} (h : Chain R lo hi cs) (hb : ∀ x ∈ cs, x.key.size ≤ 3 ∧ x.page < 65536) : (encN ⟨false, cs.map itC⟩).length ≤ 512 ↔ cs.length ≤ 85 := by
  obtain ⟨_, h2, _⟩ := chain_rising hg h
  cases cs with
  | nil => exact h.elim
  | cons c cs =>
    rw [List.map_cons] at h2 ⊢
    rw [List.drop_succ_cons, List.drop_zero] at h2
    rw [encN_inner h2, List.length_map, List.length_cons]
    have := (hb c (by simp)).1
    have e : (itC c).key.size = c.key.size := rfl
    rw [e]
    omega
theorem leaf_len (vl : ByteArray) (hv : vl.size ≤ 400) (K : List Nat) : (encN ⟨true, K.map (itL vl)⟩).length ≤ 512 ↔ K.length ≤ cap vl := by
  rw [encN_leaf]
  unfold cap
  rw [Nat.le_div_iff_mul_le (by omega)]
  omega
theorem cap_pos (vl : ByteArray) (hv : vl.size ≤ 400) : 1 ≤ cap vl ∧ cap vl ≤ 85 := by
  unfold cap
  constructor
  · rw [Nat.le_div_iff_mul_le (by omega)]
    omega
  · exact Nat.le_trans (Nat.div_le_div_left (show 6 ≤ 6 + vl.size by omega) (by decide)) (by decide)
theorem sub_get {S : Pg} {vl : ByteArray} (hv : vl.size ≤ 400) : ∀ {d lo hi : Nat} {c : Ch}, Sub S vl d lo hi c → hi ≤ 65536 → ∃ n, S.f c.page = some (some n) ∧ S.get c.page = some n
  | 0, lo, hi, c, h, hh => by
    obtain ⟨h1, h2, h3, h4, _, h6⟩ := h
    refine ⟨_, h6, ?_⟩
    unfold Pg.get
    rw [h6]
    simp only
    rw [if_pos (okN_leaf hv h1 (by have := (cap_pos vl hv).2; omega) h3 (fun x hx => by have := (h4 x hx).2; omega))]
  | d + 1, lo, hi, c, h, hh => by
    obtain ⟨cs, a, hc, b, hk, hp, hf⟩ := h
    refine ⟨_, hf, ?_⟩
    unfold Pg.get
    rw [hf]
    simp only
    rw [if_pos (okN_inner (sub_good S vl d) hc (by omega) b)]
theorem get_of {S : Pg} {p : Nat} {n : Nd} (h : S.f p = some (some n)) (h2 : ∃ k, S.f p = some (some k) ∧ S.get p = some k) : S.get p = some n := by
  obtain ⟨k, h3, h4⟩ := h2
  rw [h] at h3
  cases h3
  exact h4
/-! ### A leaf's place -/
def idx (n : Nat) : List Nat → Nat
  | [] => 0
  | x :: l => if x < n then idx n l + 1 else 0
theorem place_leaf {vl : ByteArray} {n : Nat} (hn : n < 65536) : ∀ {K : List Nat}, (∀ x ∈ K, x < 65536) → firstIdx (fun x => !lt x.key (keyOf n)) (K.map (itL vl)) = idx n K
  | [], _ => rfl
  | x :: K, h => by
    rw [List.map_cons, firstIdx, idx, show (itL vl x).key = keyOf x from rfl, lt_key (h x (by simp)) hn, place_leaf hn (fun y hy => h y (List.mem_cons_of_mem _ hy))]
    by_cases hx : x < n
    · rw [decide_eq_true hx, if_neg (by decide), if_pos hx]
    · rw [decide_eq_false hx, if_pos (by decide), if_neg hx]
theorem idx_split : ∀ {K : List Nat} {n : Nat}, Sorted K → idx n K ≤ K.length ∧ (∀ x ∈ K.take (idx n K), x < n) ∧ (∀ x ∈ K.drop (idx n K), n ≤ x)
  | [], n, _ => ⟨Nat.le_refl _, fun x hx => by simp at hx, fun x hx => by simp at hx⟩
  | y :: K, n, h => by
    replace h := List.pairwise_cons.1 h
    rw [idx]
    by_cases hy : y < n
    · rw [if_pos hy]
      obtain ⟨a, b, c⟩ := idx_split (n := n) h.2
      refine ⟨by simp only [List.length_cons]; omega, fun x hx => ?_, fun x hx => c x (by simpa using hx)⟩
      rw [List.take_succ_cons] at hx
      rcases List.mem_cons.1 hx with rfl | hx
      · exact hy
      · exact b x hx
    · rw [if_neg hy]
      refine ⟨Nat.zero_le _, fun x hx => by simp at hx, fun x hx => ?_⟩
      rw [List.drop_zero] at hx
      rcases List.mem_cons.1 hx with rfl | hx
      · omega
      · have := h.1 x hx
        omega
theorem idx_mem {K : List Nat} {n : Nat} (hs : Sorted K) : n ∈ K ↔ K[idx n K]? = some n := by
  constructor
  · intro h
    obtain ⟨a, b, c⟩ := idx_split (n := n) hs
    have h2 : n ∈ K.drop (idx n K) := by
      rw [← List.take_append_drop (idx n K) K] at h
      rcases List.mem_append.1 h with h | h
      · exact absurd (b n h) (Nat.lt_irrefl _)
      · exact h
    cases hd : K.drop (idx n K) with
    | nil => rw [hd] at h2; simp at h2
    | cons y l =>
      have hy : K[idx n K]? = some y := by
        have h4 := List.getElem?_drop (i := idx n K) (j := 0) (xs := K)
        rw [hd, Nat.add_zero] at h4
        exact h4.symm
      rw [hy]
      congr 1
      have h3 := c y (by rw [hd]; simp)
      rw [hd] at h2
      rcases List.mem_cons.1 h2 with e | h2
      · exact e.symm
      · have hsd : Sorted (K.drop (idx n K)) := List.Pairwise.sublist (List.drop_sublist _ _) hs
        rw [hd] at hsd
        have := (List.pairwise_cons.1 hsd).1 n h2
        omega
  · exact fun h => List.mem_of_getElem? h
#print axioms idx_mem
#print axioms sub_get
end Go.Proofs.YtkmbkgjfhjjicaaT
