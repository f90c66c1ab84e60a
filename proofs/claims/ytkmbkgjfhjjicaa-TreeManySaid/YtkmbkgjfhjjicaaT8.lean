/- Tree, plain law: the root is cut; all keys, in order. -/
import Derived.Test.YtkmbkgjfhjjicaaT7
namespace Go.Proofs.YtkmbkgjfhjjicaaT
open Go.RowKit Go.Maps Go.Proofs Go.Proofs.YtkmbkgjfhjjicaaW.PrintWords Go.Proofs.YtkmbkgjfhjjicaaW.PrintLast

/-- The tree while it is cut. -/
def State2 (S : Pg) (vl : ByteArray) (root : Nat) (K : List Nat) : Prop :=
  S.nx ≤ 60000 ∧ ((root = 0 ∧ K = [] ∧ ∀ q, S.f q = none) ∨ ∃ d c, d ≤ 9 ∧ TreeAt S vl d c ∧ c.page = root ∧ c.keys = K)
theorem State.two {S : Pg} {vl : ByteArray} {root : Nat} {K : List Nat} {cnt : Nat} (h : State S vl root K cnt) (hc : cnt ≤ 600) : State2 S vl root K := by
  obtain ⟨h1, h2⟩ := h
  refine ⟨by omega, ?_⟩
  rcases h2 with h2 | ⟨d, c, ht, hr, hk, hd⟩
  · exact .inl h2
  · refine .inr ⟨d, c, ?_, ht, hr, hk⟩
    by_cases h : 1 ≤ d
    · have := hd h
      omega
    · omega
theorem shrink_tree {vl : ByteArray} (hv : vl.size ≤ 400) : ∀ (d k : Nat) (S : Pg) (c : Ch), d < k → d ≤ 9 → TreeAt S vl d c →
    ∃ S' d' c', shrinkF k S c.page = some (S', c'.page) ∧ d' ≤ 9 ∧ TreeAt S' vl d' c' ∧ c'.keys = c.keys ∧ S'.nx = S.nx
  | 0, 0, _, _, h, _, _ => absurd h (Nat.lt_irrefl _)
  | 0, k + 1, S, c, _, h9, ht => by
    have hget := fun (nd : Nd) (e : S.f c.page = some (some nd)) => get_of e (sub_get hv ht.sub (Nat.le_refl _))
    have h6 := ht.sub.2.2.2.2.2
    refine ⟨S, 0, c, ?_, h9, ht, rfl, rfl⟩
    rw [shrinkF, hget _ h6]
    rfl
  | d + 1, 0, _, _, h, _, _ => absurd h (Nat.not_lt_zero _)
  | d + 1, k + 1, S, c, hk, h9, ht => by
    have hget := fun (nd : Nd) (e : S.f c.page = some (some nd)) => get_of e (sub_get hv ht.sub (Nat.le_refl _))
    obtain ⟨cs, k1, k2, k3, k4, k5, k6⟩ := ht.sub
    rw [shrinkF, hget _ k6]
    simp only [Option.bind_some, Bool.false_or, decide_eq_true_eq, List.length_map]
    by_cases h1 : 1 < cs.length
    · rw [if_pos h1]
      exact ⟨S, d + 1, c, rfl, h9, ht, rfl, rfl⟩
    · rw [if_neg h1]
      have hne := chain_ne k2
      obtain ⟨c1, rfl⟩ : ∃ c1, cs = [c1] := by
        cases cs with
        | nil => exact absurd rfl hne
        | cons a l =>
          cases l with
          | nil => exact ⟨a, rfl⟩
          | cons b l => exact absurd (by simp) h1
      have hs : Sub S vl d 0 65536 c1 := k2
      have hp1 : pagesOf [c1] = c1.pages := by rw [pagesOf_cons]; exact List.append_nil _
      have hk1 : keysOf [c1] = c1.keys := by rw [keysOf_cons]; exact List.append_nil _
      rw [hp1] at k5
      rw [hk1] at k4
      have hnd := ht.nodup
      rw [k5] at hnd
      have hpc := (List.nodup_cons.1 hnd).1
      have ht1 : TreeAt (S.cut c.page) vl d c1 := ⟨sub_frame hs (fun q hq => cut_other _ (fun e => hpc (e ▸ hq))), (List.nodup_cons.1 hnd).2, fun q => by
        by_cases hq : q = c.page
        · subst hq
          rw [cut_at]
          exact ⟨(fun h => by cases h), fun h => absurd h hpc⟩
        · rw [cut_other _ hq, ht.all, k5, List.mem_cons]
          exact ⟨fun h => h.elim (fun e => absurd e hq) id, .inr⟩, fun q hq => ht.pos q (by rw [k5]; exact List.mem_cons_of_mem _ hq), fun q hq => by
        have hq : S.nx < q := hq
        by_cases hqc : q = c.page
        · subst hqc
          exact cut_at _ _
        · rw [cut_other _ hqc]
          exact ht.fresh q hq⟩
      obtain ⟨S', d', c', h2, h3, h4, h5, h6⟩ := shrink_tree hv d k (S.cut c.page) c1 (by omega) (by omega) ht1
      exact ⟨S', d', c', h2, h3, h4, by rw [h5, k4], by rw [h6]; rfl⟩
theorem cut_tree {vl : ByteArray} (hv : vl.size ≤ 400) {S : Pg} {root : Nat} {K : List Nat} {n : Nat} (h : State2 S vl root K) (hn : n < 65536) :
    ∃ S' root' fd K', cutRoot S root (keyOf n) = some (S', root', fd) ∧ State2 S' vl root' K' ∧ (∀ x, x ∈ K' ↔ x ∈ K ∧ x ≠ n) := by
  obtain ⟨hnx, h⟩ := h
  rcases h with ⟨rfl, rfl, hemp⟩ | ⟨d, c, hd, ht, rfl, rfl⟩
  · exact ⟨S, 0, false, [], by unfold cutRoot; rw [if_pos rfl], ⟨hnx, .inl ⟨rfl, rfl, hemp⟩⟩, fun x => by simp⟩
  · have hpos := sub_page ht.sub
    have hroot : c.page ≠ 0 := by have := (ht.pos _ hpos).1; omega
    obtain ⟨S1, fd, em, hcut, hres⟩ := cut_sub hv hn d 100 S 0 65536 c (by omega) ht.sub (Nat.zero_le _) hn (Nat.le_refl _) ht.nodup
    have hrw : cutRoot S c.page (keyOf n) = if em then some (S1, 0, true) else (shrinkF 100 S1 c.page).map fun q => (q.1, q.2, fd) := by
      unfold cutRoot
      rw [if_neg hroot, hcut]
      rfl
    have hout : ∀ q, q ∉ c.pages → S1.f q = none := fun q hq => by
      rw [hres.frame q hq]
      cases hf : S.f q with
      | none => rfl
      | some t => exact absurd ((ht.all q).1 (by rw [hf]; rfl)) hq
    rcases hres.out with ⟨rfl, hkn, hpn⟩ | ⟨rfl, c1, o1, o2, o3, o4, o5, o6, o7⟩
    · refine ⟨S1, 0, true, [], by rw [hrw, if_pos rfl], ⟨by rw [hres.nx]; exact hnx, .inl ⟨rfl, rfl, fun q => ?_⟩⟩, fun x => ⟨fun h => by simp at h, fun h => absurd (hkn x h.1) h.2⟩⟩
      by_cases hq : q ∈ c.pages
      · exact hpn q hq
      · exact hout q hq
    · have ht1 : TreeAt S1 vl d c1 := ⟨o1, o5, fun q => ⟨(fun h => by
        by_cases hq : q ∈ c.pages
        · by_cases hq1 : q ∈ c1.pages
          · exact hq1
          · rw [o7 q hq hq1] at h
            cases h
        · rw [hout q hq] at h
          cases h), fun h => sub_some o1 h⟩, fun q hq => by rw [hres.nx]; exact ht.pos q (o6 q hq), fun q hq => by
        rw [hres.nx] at hq
        by_cases hqc : q ∈ c.pages
        · have := (ht.pos q hqc).2
          omega
        · exact hout q hqc⟩
      obtain ⟨S2, d2, c2, h2, h3, h4, h5, h6⟩ := shrink_tree hv d 100 S1 c1 (by omega) hd ht1
      rw [o2] at h2
      refine ⟨S2, c2.page, fd, c2.keys, by rw [hrw, if_neg Bool.false_ne_true, h2]; rfl, ⟨by rw [h6, hres.nx]; exact hnx, .inr ⟨d2, c2, h3, h4, rfl, rfl⟩⟩, fun x => by rw [h5]; exact o4 x⟩
/-! ### All keys -/
def prs (vl : ByteArray) (K : List Nat) : List Pr := K.map (fun n => (keyOf n, vl))
theorem walkI_leaf {vl : ByteArray} {k : Nat} {S : Pg} {limit : Nat} : ∀ {K : List Nat} {l : List Pr}, l.length + K.length ≤ limit → walkI k S true limit (K.map (itL vl)) l = some (l ++ prs vl K)
  | [], l, _ => by rw [List.map_nil, walkI]; simp [prs]
  | n :: K, l, h => by
    rw [List.length_cons] at h
    rw [List.map_cons, walkI, if_neg (by omega), if_pos rfl]
    show walkI k S true limit (K.map (itL vl)) (l ++ [(keyOf n, vl)]) = _
    rw [walkI_leaf (by rw [List.length_append, List.length_cons, List.length_nil]; omega)]
    simp [prs]
theorem walkI_inner {vl : ByteArray} {k : Nat} {S : Pg} {limit : Nat} : ∀ {cs : List Ch} {l : List Pr}, (∀ c ∈ cs, ∀ l : List Pr, l.length + c.keys.length ≤ limit → walkF k S c.page limit l = some (l ++ prs vl c.keys)) → (∀ c ∈ cs, c.keys ≠ []) → l.length + (keysOf cs).length ≤ limit →
    walkI k S false limit (cs.map itC) l = some (l ++ prs vl (keysOf cs))
  | [], l, _, _, _ => by rw [List.map_nil, walkI]; simp [prs, keysOf]
  | c :: cs, l, hw, hk, h => by
    rw [keysOf_cons, List.length_append] at h
    have h0 : 0 < c.keys.length := List.length_pos_iff.2 (hk c (by simp))
    rw [List.map_cons, walkI, if_neg (by omega), if_neg Bool.false_ne_true, show (itC c).child = c.page from rfl, hw c (by simp) l (by omega)]
    simp only [Option.bind_some]
    rw [walkI_inner (fun x hx => hw x (List.mem_cons_of_mem _ hx)) (fun x hx => hk x (List.mem_cons_of_mem _ hx)) (by simp only [List.length_append, prs, List.length_map]; omega), keysOf_cons]
    simp [prs]
theorem walk_sub {vl : ByteArray} (hv : vl.size ≤ 400) : ∀ (d k : Nat) (S : Pg) (lo hi : Nat) (c : Ch) (limit : Nat) (l : List Pr), d < k → Sub S vl d lo hi c → hi ≤ 65536 → l.length + c.keys.length ≤ limit → walkF k S c.page limit l = some (l ++ prs vl c.keys)
  | 0, 0, _, _, _, _, _, _, h, _, _, _ => absurd h (Nat.lt_irrefl _)
  | 0, k + 1, S, lo, hi, c, limit, l, _, h, hh, hl => by
    have hget := fun (nd : Nd) (e : S.f c.page = some (some nd)) => get_of e (sub_get hv h hh)
    rw [walkF, hget _ h.2.2.2.2.2]
    exact (walkI_eq (k := k) (S := S) (leaf := true) (limit := limit) (c.keys.map (itL vl)) l).trans (walkI_leaf hl)
  | d + 1, 0, _, _, _, _, _, _, h, _, _, _ => absurd h (Nat.not_lt_zero _)
  | d + 1, k + 1, S, lo, hi, c, limit, l, hk, h, hh, hl => by
    have hget := fun (nd : Nd) (e : S.f c.page = some (some nd)) => get_of e (sub_get hv h hh)
    obtain ⟨cs, k1, k2, k3, k4, k5, k6⟩ := h
    have hg := sub_good S vl d
    rw [walkF, hget _ k6, k4]
    rw [k4] at hl
    refine (walkI_eq (k := k) (S := S) (leaf := false) (limit := limit) (cs.map itC) l).trans ?_
    exact walkI_inner (fun x hx l2 hl2 => by
      obtain ⟨a, b, hb, hs⟩ := chain_each hg k2 x hx
      exact walk_sub hv d k S a b x limit l2 (by omega) hs (by omega) hl2) (fun x hx => by
      obtain ⟨a, b, hb, hs⟩ := chain_each hg k2 x hx
      exact (hg _ _ _ hs).1) hl
theorem walk_tree {vl : ByteArray} (hv : vl.size ≤ 400) {S : Pg} {root : Nat} {K : List Nat} (h : State2 S vl root K) (hK : K ≠ []) (hl : K.length ≤ 1000) : root ≠ 0 ∧ walkF 10 S root 1000 [] = some (prs vl K) := by
  rcases h.2 with ⟨_, hk, _⟩ | ⟨d, c, hd, ht, rfl, rfl⟩
  · exact absurd hk hK
  · have hpos := sub_page ht.sub
    refine ⟨by have := (ht.pos _ hpos).1; omega, ?_⟩
    have := walk_sub hv d 10 S 0 65536 c 1000 [] (by omega) ht.sub (Nat.le_refl _) (by simpa using hl)
    simpa using this
#print axioms cut_tree
#print axioms walk_tree
end Go.Proofs.YtkmbkgjfhjjicaaT
