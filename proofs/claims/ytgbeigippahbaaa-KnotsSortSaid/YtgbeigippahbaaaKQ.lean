/- Knots, the plain law: there is an order just if each thing is alone in its knot and none leads to itself. -/
import Derived.Test.YtgbeigippahbaaaKL
namespace Go.Proofs.YtgbeigippahbaaaK

theorem NumsAt.form {w : World} {A : Option Addr} {l : List Nat} (h : NumsAt w A l) (hl : 0 < l.length) : ∃ g, A = some ⟨g, 0, none⟩ ∧ ∀ k, k < l.length → w.cell? ⟨g, k, none⟩ = some (.int .i64 (l.getD k 0 : Int)) := by
  obtain ⟨g, hg, _⟩ := h 0 hl
  refine ⟨g, hg, fun k hk => ?_⟩
  obtain ⟨g', hg', hc⟩ := h k hk
  rw [hg] at hg'
  injection hg' with hg'
  injection hg' with hg'
  rw [hg']
  exact hc
theorem nodup_sub : ∀ {l M : List Nat}, l.Nodup → (∀ x, x ∈ l → x ∈ M) → l.length ≤ M.length
  | [], _, _, _ => Nat.zero_le _
  | x :: l, M, hd, h => by
    obtain ⟨h1, h2⟩ := List.nodup_cons.1 hd
    have hx := h x List.mem_cons_self
    have h3 := nodup_sub (l := l) (M := M.erase x) h2 (fun y hy => (List.mem_erase_of_ne (fun e => h1 (by rw [← e]; exact hy))).2 (h y (List.mem_cons_of_mem _ hy)))
    have h4 := List.length_erase_of_mem hx
    have h5 := List.length_pos_of_mem hx
    simp only [List.length_cons]
    omega
theorem countP_lt {α : Type} {p q : α → Bool} : ∀ {l : List α}, (∀ x, x ∈ l → p x = true → q x = true) → (∃ x, x ∈ l ∧ q x = true ∧ p x = false) → l.countP p < l.countP q
  | [], _, h => by obtain ⟨x, hx, _⟩ := h; cases hx
  | y :: l, hpq, h => by
    obtain ⟨x, hx, hq, hp⟩ := h
    have hle : l.countP p ≤ l.countP q := List.countP_mono_left (fun x hx => hpq x (List.mem_cons_of_mem _ hx))
    rw [List.countP_cons, List.countP_cons]
    rcases List.mem_cons.1 hx with rfl | hx
    · rw [hq, hp]
      simp only [if_true]
      simp
      omega
    · have := countP_lt (fun x hx => hpq x (List.mem_cons_of_mem _ hx)) ⟨x, hx, hq, hp⟩
      by_cases e : p y = true
      · rw [if_pos e, if_pos (hpq y List.mem_cons_self e)]
        omega
      · rw [if_neg e]
        omega
open Classical in
noncomputable def anc (adj : Nat → List Nat) (n v : Nat) : Nat := (List.range n).countP fun x => decide (Rc adj x v)
theorem anc_lt {adj : Nat → List Nat} {n u v : Nat} (hv : v < n) (huv : v ∈ adj u) (hn : ¬ Rc adj v u) : anc adj n u < anc adj n v := by
  unfold anc
  refine countP_lt (fun x _ hx => ?_) ⟨v, List.mem_range.2 hv, ?_, ?_⟩
  · simp only [decide_eq_true_eq] at hx ⊢
    exact hx.tail huv
  · simp only [decide_eq_true_eq]
    exact .refl _
  · simp only [decide_eq_false_iff_not]
    exact hn
/-- Where all are alone, something is free, or all is told. -/
theorem stuck_full {adj : Nat → List Nat} {n : Nat} {M : List Nat} (hs : ∀ v, ¬ Free adj n M v) (ha : ∀ u v, u < n → v < n → Rc adj u v → Rc adj v u → u = v) (hl : ∀ u, u ∉ adj u) : ∀ v, v < n → v ∈ M := by
  have key : ∀ c v, anc adj n v = c → v < n → v ∉ M → False := by
    intro c
    induction c using Nat.strongRecOn with
    | ind c ih =>
      intro v hc hv hvM
      have : ∃ u, u < n ∧ v ∈ adj u ∧ u ∉ M := by
        apply Classical.byContradiction
        intro h
        refine hs v ⟨hv, hvM, fun u hu huv => ?_⟩
        apply Classical.byContradiction
        intro huM
        exact h ⟨u, hu, huv, huM⟩
      obtain ⟨u, hu, huv, huM⟩ := this
      have hn : ¬ Rc adj v u := fun h => by
        have e := ha u v hu hv (.one huv) h
        subst e
        exact hl u huv
      exact ih _ (by rw [← hc]; exact anc_lt hv huv hn) u rfl hu huM
  intro v hv
  apply Classical.byContradiction
  intro h
  exact key _ v rfl hv h
/-- Where each is told. -/
def atF (L : List Nat) : Nat → Nat → Nat
  | 0 => fun _ => 0
  | i + 1 => upd (atF L i) (L.getD i 0) (i + 1)
theorem getD_append_left {L : List Nat} {M : List Nat} {i : Nat} (h : i < L.length) : (L ++ M).getD i 0 = L.getD i 0 := by
  rw [List.getD_eq_getElem?_getD, List.getD_eq_getElem?_getD, List.getElem?_append_left h]
theorem getD_snoc_last {L : List Nat} {v : Nat} : (L ++ [v]).getD L.length 0 = v := by
  rw [List.getD_eq_getElem?_getD, List.getElem?_append_right (Nat.le_refl _), Nat.sub_self]
  rfl
theorem getD_inj {L : List Nat} (hd : L.Nodup) {i j : Nat} (hi : i < L.length) (hj : j < L.length) (e : L.getD i 0 = L.getD j 0) : i = j := by
  rw [List.getD_eq_getElem?_getD, List.getD_eq_getElem?_getD, List.getElem?_eq_getElem hi, List.getElem?_eq_getElem hj] at e
  have e' : L[i] = L[j] := by simpa using e
  rcases Nat.lt_trichotomy i j with h | h | h
  · exact absurd e' (List.pairwise_iff_getElem.1 hd i j hi hj h)
  · exact h
  · exact absurd e'.symm (List.pairwise_iff_getElem.1 hd j i hj hi h)
theorem atF_at {L : List Nat} (hd : L.Nodup) {i : Nat} : ∀ {m : Nat}, m ≤ L.length → i < m → atF L m (L.getD i 0) = i + 1
  | 0, _, h => by cases h
  | m + 1, hm, h => by
    rw [atF]
    by_cases e : i = m
    · subst e
      exact upd_same _ _ _
    · rw [upd_ne _ _ (fun e2 => e (getD_inj hd (by omega) (by omega) e2))]
      exact atF_at hd (by omega) (by omega)
theorem Greedy.before {adj : Nat → List Nat} {n : Nat} {L : List Nat} (h : Greedy adj n L) : ∀ {j u : Nat}, j < L.length → u < n → L.getD j 0 ∈ adj u → ∃ i, i < j ∧ L.getD i 0 = u := by
  induction h with
  | nil => intro j u hj; cases hj
  | @snoc L v hL hf _ ih =>
    intro j u hj hu hju
    rw [List.length_append, List.length_singleton] at hj
    by_cases e : j < L.length
    · rw [getD_append_left e] at hju
      obtain ⟨i, hi, hie⟩ := ih e hu hju
      exact ⟨i, hi, by rw [getD_append_left (by omega)]; exact hie⟩
    · have e' : j = L.length := by omega
      rw [e', getD_snoc_last] at hju
      obtain ⟨i, hi, hie⟩ := mem_getD (hf.2.2 u hu hju)
      exact ⟨i, by omega, by rw [getD_append_left hi]; exact hie⟩
theorem Greedy.rank {n : Nat} {es : List Edge} {L : List Nat} (h : Greedy (adjE n es) n L) (hl : n ≤ L.length) {u v : Nat} (huv : v ∈ adjE n es u) : atF L L.length u < atF L L.length v := by
  obtain ⟨_, _, _, _, hu, hv⟩ := adjE_mem.1 huv
  obtain ⟨j, hj, hje⟩ := mem_getD (h.full hl v hv)
  obtain ⟨i, hi, hie⟩ := h.before hj hu (by rw [hje]; exact huv)
  rw [← hie, ← hje, atF_at h.nodup (Nat.le_refl _) (by omega), atF_at h.nodup (Nat.le_refl _) hj]
  omega
theorem Greedy.told {adj : Nat → List Nat} {n : Nat} {L : List Nat} (h : Greedy adj n L) (hl : n ≤ L.length) {v : Nat} (hv : v < n) : 0 < atF L L.length v := by
  obtain ⟨j, hj, hje⟩ := mem_getD (h.full hl v hv)
  rw [← hje, atF_at h.nodup (Nat.le_refl _) hj]
  omega
theorem rank_rc {adj : Nat → List Nat} {f : Nat → Nat} (h : ∀ u v, v ∈ adj u → f u < f v) {a b : Nat} (hr : Rc adj a b) : a = b ∨ f a < f b := by
  induction hr with
  | refl => exact .inl rfl
  | tail _ hc ih =>
    rename_i b c
    have := h _ _ hc
    rcases ih with rfl | ih
    · exact .inr this
    · exact .inr (by omega)
/-- Does an edge lead from a thing to itself? -/
def loopE (n : Nat) (e : Edge) : Bool := decide (e.1 = e.2) && (decide (0 ≤ e.1) && decide (e.1 < n))
def al1 (k : List Nat) : Nat → Bool
  | 0 => true
  | i + 1 => al1 k i && decide (k.getD i 0 = i)
def al2 (n : Nat) (es : List Edge) : Nat → Bool
  | 0 => true
  | j + 1 => al2 n es j && !loopE n (es.getD j (0, 0))
theorem al1_iff {k : List Nat} : ∀ {i : Nat}, al1 k i = true ↔ ∀ j, j < i → k.getD j 0 = j
  | 0 => by simp [al1]
  | i + 1 => by
    rw [al1, Bool.and_eq_true, al1_iff, decide_eq_true_eq]
    constructor
    · rintro ⟨h1, h2⟩ j hj
      by_cases e : j = i
      · rw [e]; exact h2
      · exact h1 j (by omega)
    · intro h; exact ⟨fun j hj => h j (by omega), h i (by omega)⟩
theorem al2_iff {n : Nat} {es : List Edge} : ∀ {i : Nat}, al2 n es i = true ↔ ∀ j, j < i → loopE n (es.getD j (0, 0)) = false
  | 0 => by simp [al2]
  | i + 1 => by
    rw [al2, Bool.and_eq_true, al2_iff, Bool.not_eq_true']
    constructor
    · rintro ⟨h1, h2⟩ j hj
      by_cases e : j = i
      · rw [e]; exact h2
      · exact h1 j (by omega)
    · intro h; exact ⟨fun j hj => h j (by omega), h i (by omega)⟩
theorem loop_adj {n : Nat} {es : List Edge} : (∀ j, j < es.length → loopE n (es.getD j (0, 0)) = false) ↔ ∀ u, u ∉ adjE n es u := by
  constructor
  · intro h u hu
    obtain ⟨e, he, h1, h2, h3, h4⟩ := adjE_mem.1 hu
    obtain ⟨j, hj, rfl⟩ := List.getElem_of_mem he
    have := h j hj
    rw [List.getD_eq_getElem?_getD, List.getElem?_eq_getElem hj] at this
    have h5 : loopE n es[j] = true := by
      unfold loopE
      simp only [Bool.and_eq_true, decide_eq_true_eq]
      omega
    rw [show (some es[j]).getD (0, 0) = es[j] from rfl, h5] at this
    cases this
  · intro h j hj
    cases hb : loopE n (es.getD j (0, 0)) with
    | false => rfl
    | true =>
      unfold loopE at hb
      simp only [Bool.and_eq_true, decide_eq_true_eq] at hb
      refine absurd (adjE_mem.2 ⟨es.getD j (0, 0), ?_, ?_, ?_, ?_, ?_⟩) (h (es.getD j (0, 0)).1.toNat)
      · rw [List.getD_eq_getElem?_getD, List.getElem?_eq_getElem hj]
        exact List.getElem_mem _
      all_goals omega
/-- There is an order just if all are alone. -/
theorem sort_alone {n : Nat} {es : List Edge} {k L : List Nat} {ok : Bool} (hk : KnotsR (adjE n es) n k) (hs : SortR (adjE n es) n L ok) : ok = (al1 k n && al2 n es es.length) := by
  obtain ⟨M, hM, hst, hok, _⟩ := hs
  have e : ok = true ↔ (al1 k n && al2 n es es.length) = true := by
    rw [hok, decide_eq_true_eq, Bool.and_eq_true, al1_iff, al2_iff, loop_adj]
    constructor
    · intro hl
      have hr : ∀ u v, v ∈ adjE n es u → atF M M.length u < atF M M.length v := fun u v h => hM.rank hl h
      refine ⟨fun j hj => ?_, fun u hu => Nat.lt_irrefl _ (hr u u hu)⟩
      obtain ⟨h1, h2, _⟩ := hk.2 j hj
      have h1' : Rc (adjE n es) j (k.getD j 0) := h1
      have h2' : Rc (adjE n es) (k.getD j 0) j := h2
      rcases rank_rc hr h1' with e1 | e1
      · exact e1.symm
      · rcases rank_rc hr h2' with e2 | e2
        · exact e2
        · omega
    · rintro ⟨h1, h2⟩
      have hf := stuck_full hst (fun u v hu hv huv hvu => by
        have a1 := (hk.2 u hu).2.2 v huv hvu
        have a2 := (hk.2 v hv).2.2 u hvu huv
        have b1 : k.getD u 0 = u := h1 u hu
        have b2 : k.getD v 0 = v := h1 v hv
        have a1' : k.getD u 0 ≤ v := a1
        have a2' : k.getD v 0 ≤ u := a2
        omega) h2
      have := nodup_sub (l := List.range n) (M := M) List.nodup_range (fun x hx => hf x (List.mem_range.1 hx))
      rw [List.length_range] at this
      exact this
  cases ok <;> cases hh : (al1 k n && al2 n es es.length) <;> simp_all
theorem KnotsR.facts {adj : Nat → List Nat} {n : Nat} {k : List Nat} (h : KnotsR adj n k) (hal : ∀ u v, v ∈ adj u → v < n) {i : Nat} (hi : i < n) : k.getD i 0 ≤ i ∧ k.getD (k.getD i 0) 0 = k.getD i 0 := by
  obtain ⟨h1, h2, h3⟩ := h.2 i hi
  have h1' : Rc adj i (k.getD i 0) := h1
  have h2' : Rc adj (k.getD i 0) i := h2
  have h3' : ∀ w, Rc adj i w → Rc adj w i → k.getD i 0 ≤ w := h3
  have hle := h3' i (.refl _) (.refl _)
  obtain ⟨g1, g2, g3⟩ := h.2 (k.getD i 0) (by omega)
  have g3' : ∀ w, Rc adj (k.getD i 0) w → Rc adj w (k.getD i 0) → k.getD (k.getD i 0) 0 ≤ w := g3
  have g1' : Rc adj (k.getD i 0) (k.getD (k.getD i 0) 0) := g1
  have g2' : Rc adj (k.getD (k.getD i 0) 0) (k.getD i 0) := g2
  exact ⟨hle, Nat.le_antisymm (g3' _ (.refl _) (.refl _)) (h3' _ (h1'.trans g1') (g2'.trans h2'))⟩
theorem SortR.full {adj : Nat → List Nat} {n : Nat} {L : List Nat} (h : SortR adj n L true) : Greedy adj n L ∧ L.length = n := by
  obtain ⟨M, h1, h2, h3, h4⟩ := h
  have hl : n ≤ M.length := of_decide_eq_true h3.symm
  rw [if_pos hl] at h4
  subst h4
  exact ⟨h1, Nat.le_antisymm h1.len hl⟩
theorem SortR.none {adj : Nat → List Nat} {n : Nat} {L : List Nat} (h : SortR adj n L false) : L = [] := by
  obtain ⟨M, h1, h2, h3, h4⟩ := h
  rw [if_neg (of_decide_eq_false h3.symm)] at h4
  exact h4
#print axioms sort_alone
end Go.Proofs.YtgbeigippahbaaaK
