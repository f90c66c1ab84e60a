/- Tree, plain law: a key is put into a tree. -/
import Derived.Test.YtkmbkgjfhjjicaaT4
namespace Go.Proofs.YtkmbkgjfhjjicaaT
open Go.RowKit Go.Maps Go.Proofs Go.Proofs.YtkmbkgjfhjjicaaW.PrintWords Go.Proofs.YtkmbkgjfhjjicaaW.PrintLast

structure PutRes (S S' : Pg) (vl : ByteArray) (d lo hi : Nat) (c : Ch) (n : Nat) (more : List It) : Prop where
  out : ∃ c1 rest, Chain (Sub S' vl d) lo hi (c1 :: rest) ∧ c1.page = c.page ∧ c1.key = c.key ∧ more = rest.map itC ∧ rest.length ≤ 1 ∧ (∀ x ∈ rest, x.key.size ≤ 3 ∧ x.page < 65536) ∧ (∀ x, x ∈ keysOf (c1 :: rest) ↔ x = n ∨ x ∈ c.keys) ∧ (pagesOf (c1 :: rest)).Nodup ∧
    (∀ q, q ∈ pagesOf (c1 :: rest) ↔ q ∈ c.pages ∨ (S.nx < q ∧ q ≤ S'.nx)) ∧ (rest = [] → nodeLen S' c.page ≤ nodeLen S c.page + 1) ∧ (rest ≠ [] → 1 ≤ d → nodeLen S c.page = 85)
  nx1 : S.nx ≤ S'.nx
  nx2 : S'.nx ≤ S.nx + (d + 1)
  frame : ∀ q, q ≤ S.nx → q ∉ c.pages → S'.f q = S.f q
  fresh : Fresh S'
theorem placeN_leaf {vl : ByteArray} {n : Nat} (hn : n < 65536) {K : List Nat} (hs : Sorted K) (hb : ∀ x ∈ K, x < 65536) : placeN ⟨true, K.map (itL vl)⟩ (keyOf n) = (idx n K, decide (n ∈ K)) := by
  unfold placeN
  rw [if_pos rfl]
  simp only
  rw [place_leaf hn hb]
  congr 1
  rw [List.getElem?_map]
  have hm := idx_mem (n := n) hs
  cases hk : K[idx n K]? with
  | none =>
    rw [hk] at hm
    rw [decide_eq_false (fun h => by have := hm.1 h; cases this)]
    rfl
  | some y =>
    rw [hk] at hm
    simp only [Option.map_some]
    rw [show (itL vl y).key = keyOf y from rfl, same_key (hb y (List.mem_of_getElem? hk)) hn]
    congr 1
    rw [eq_iff_iff, hm]
    exact ⟨fun h => by rw [h], fun h => Option.some.inj h⟩
theorem set_same : ∀ {l : List It} {i : Nat} {x : It}, l[i]? = some x → l.set i x = l
  | [], i, x, h => by simp at h
  | y :: l, 0, x, h => by
    obtain rfl : y = x := by simpa using h
    rfl
  | y :: l, i + 1, x, h => by
    rw [List.set_cons_succ, set_same (by simpa using h)]
theorem placeN_inner (n : Nat) (cs : List Ch) : placeN ⟨false, cs.map itC⟩ (keyOf n) = (pos n cs, true) := rfl
theorem nodup_swap {A B B' C : List Nat} {N N' : Nat} (h : (A ++ B ++ C).Nodup) (hB : B'.Nodup) (hm : ∀ q, q ∈ B' ↔ q ∈ B ∨ (N < q ∧ q ≤ N')) (hA : ∀ q ∈ A, q ≤ N) (hC : ∀ q ∈ C, q ≤ N) : (A ++ B' ++ C).Nodup := by
  rw [List.append_assoc, List.nodup_append] at h ⊢
  obtain ⟨h1, h2, h3⟩ := h
  rw [List.nodup_append] at h2 ⊢
  obtain ⟨h4, h5, h6⟩ := h2
  refine ⟨h1, ⟨hB, h5, fun a ha b hb e => ?_⟩, fun a ha b hb e => ?_⟩
  · subst e
    rcases (hm a).1 ha with h | h
    · exact h6 a h a hb rfl
    · have := hC a hb
      omega
  · subst e
    rcases List.mem_append.1 hb with hb | hb
    · rcases (hm a).1 hb with h | h
      · exact h3 a ha a (List.mem_append_left _ h) rfl
      · have := hA a ha
        omega
    · exact h3 a ha a (List.mem_append_right _ hb) rfl
theorem put_sub {vl : ByteArray} (hv : vl.size ≤ 400) {n : Nat} (hn : n < 65536) : ∀ (d k : Nat) (S : Pg) (lo hi : Nat) (c : Ch), d < k → Sub S vl d lo hi c → lo ≤ n → n < hi → hi ≤ 65536 → S.nx + (d + 1) ≤ 60000 → Fresh S → c.pages.Nodup → (∀ q ∈ c.pages, q ≤ S.nx) →
    ∃ S' more, putF k S c.page (keyOf n) vl = some (S', more) ∧ PutRes S S' vl d lo hi c n more
  | 0, 0, _, _, _, _, h, _, _, _, _, _, _, _, _ => absurd h (Nat.lt_irrefl _)
  | 0, k + 1, S, lo, hi, c, _, h, h1, h2, hh, hnx, hf, hnd, hpg => by
    have hget := fun (nd : Nd) (e : S.f c.page = some (some nd)) => get_of e (sub_get hv h hh)
    obtain ⟨k1, k2, k3, k4, k5, k6⟩ := h
    have hb : ∀ x ∈ c.keys, x < 65536 := fun x hx => by have := (k4 x hx).2; omega
    have hp : (S.f c.page).isSome = true := by rw [k6]; rfl
    have hpn : c.page ≤ S.nx := hpg _ (by rw [k5]; simp)
    rw [putF, hget _ k6]
    simp only [Option.bind_some, if_true]
    rw [placeN_leaf hn k3 hb]
    simp only
    -- what is saved
    have hcommon : ∀ K' : List Nat, K' ≠ [] → K'.length ≤ cap vl + 1 → K'.length ≤ c.keys.length + 1 → Sorted K' → (∀ x, x ∈ K' ↔ x = n ∨ x ∈ c.keys) → ∃ S' more, saveF 300 S c.page ⟨true, K'.map (itL vl)⟩ = some (S', more) ∧ PutRes S S' vl 0 lo hi c n more := by
      intro K' g0 g1 g2 g3 g4
      obtain ⟨S', more, hs, hr⟩ := leaf_save (lo := lo) (hi := hi) hv c.key g0 g1 g3 (fun x hx => by
        rcases (g4 x).1 hx with rfl | hx
        · exact ⟨h1, h2⟩
        · exact k4 x hx) hh hp hpn (by omega) hf
      obtain ⟨c1, rest, o1, o2, o3, o4, o5, o6, o7, o8, o9, o10, o11⟩ := hr.out
      refine ⟨S', more, hs, ⟨c1, rest, o1, o2, o3, o4, o5, o6, fun x => by rw [o7]; exact g4 x, o8, fun q => by rw [o9, k5], fun e => ?_, fun _ e => by omega⟩, hr.nx1, by have := hr.nx2; omega, fun q hq hne => hr.frame q hq (fun e => hne (by rw [k5, e]; simp)), hr.fresh⟩
      rw [o10 e, nodeLen_of k6]
      simp only [List.length_map]
      exact g2
    by_cases hm : n ∈ c.keys
    · rw [if_pos (decide_eq_true hm)]
      have hx : (c.keys.map (itL vl))[idx n c.keys]? = some (itL vl n) := by rw [List.getElem?_map, (idx_mem k3).1 hm]; rfl
      rw [hx]
      simp only
      rw [show (⟨(itL vl n).key, vl, (itL vl n).child⟩ : It) = itL vl n from rfl, set_same hx]
      exact hcommon c.keys k1 (by omega) (by omega) k3 (fun x => ⟨.inr, fun h => h.elim (fun e => e ▸ hm) id⟩)
    · rw [if_neg (by rw [decide_eq_false hm]; exact Bool.false_ne_true)]
      obtain ⟨i1, i2, i3⟩ := idx_split (n := n) k3
      have e : (c.keys.map (itL vl)).take (idx n c.keys) ++ [⟨keyOf n, vl, 0⟩] ++ (c.keys.map (itL vl)).drop (idx n c.keys) = (c.keys.take (idx n c.keys) ++ [n] ++ c.keys.drop (idx n c.keys)).map (itL vl) := by
        rw [List.map_append, List.map_append, List.map_take, List.map_drop]
        rfl
      rw [e]
      refine hcommon _ (by simp) ?_ ?_ ?_ (fun x => ?_)
      · simp only [List.length_append, List.length_take, List.length_drop, List.length_cons, List.length_nil]
        omega
      · simp only [List.length_append, List.length_take, List.length_drop, List.length_cons, List.length_nil]
        omega
      · rw [List.append_assoc]
        have hd : ∀ x ∈ c.keys.drop (idx n c.keys), n < x := fun x hx => Nat.lt_of_le_of_ne (i3 x hx) (fun e => hm (e ▸ List.mem_of_mem_drop hx))
        refine List.pairwise_append.2 ⟨List.Pairwise.sublist (List.take_sublist _ _) k3, List.pairwise_cons.2 ⟨hd, List.Pairwise.sublist (List.drop_sublist _ _) k3⟩, fun x hx y hy => ?_⟩
        rcases List.mem_cons.1 hy with rfl | hy
        · exact i2 x hx
        · have := i2 x hx
          have := hd y hy
          omega
      · have e2 := List.take_append_drop (idx n c.keys) c.keys
        have e3 : x ∈ c.keys ↔ x ∈ c.keys.take (idx n c.keys) ∨ x ∈ c.keys.drop (idx n c.keys) := by rw [← List.mem_append, e2]
        rw [e3]
        simp only [List.mem_append, List.mem_cons, List.not_mem_nil, or_false]
        constructor
        · rintro ((h | h) | h)
          · exact .inr (.inl h)
          · exact .inl h
          · exact .inr (.inr h)
        · rintro (h | h | h)
          · exact .inl (.inr h)
          · exact .inl (.inl h)
          · exact .inr h
  | d + 1, 0, _, _, _, _, h, _, _, _, _, _, _, _, _ => absurd h (Nat.not_lt_zero _)
  | d + 1, k + 1, S, lo, hi, c, hk, h, h1, h2, hh, hnx, hf, hnd, hpg => by
    have hget := fun (nd : Nd) (e : S.f c.page = some (some nd)) => get_of e (sub_get hv h hh)
    obtain ⟨cs, k1, k2, k3, k4, k5, k6⟩ := h
    rw [k5] at hnd hpg
    have hp : (S.f c.page).isSome = true := by rw [k6]; rfl
    have hpn : c.page ≤ S.nx := hpg _ (by simp)
    have hpc : c.page ∉ pagesOf cs := (List.nodup_cons.1 hnd).1
    have hndc := (List.nodup_cons.1 hnd).2
    obtain ⟨pre, cz, post, lo', hi', he, hpos, hr, g1, g2, g3, g4, g5, g6⟩ := chain_zip (sub_good S vl d) hn k2 h1 h2
    rw [putF, hget _ k6]
    simp only [Option.bind_some, Bool.false_eq_true, if_false]
    rw [placeN_inner, ← hpos]
    have hcz : cz ∈ cs := by rw [he]; simp
    have hx : (cs.map itC)[pre.length]? = some (itC cz) := by
      rw [he, List.map_append, List.map_cons, List.getElem?_append_right (by rw [List.length_map]; exact Nat.le_refl _), List.length_map, Nat.sub_self]
      rfl
    have hpp : pagesOf cs = pagesOf pre ++ cz.pages ++ pagesOf post := by rw [he, pagesOf_append, pagesOf_cons, List.append_assoc]
    have hndz : cz.pages.Nodup := by
      rw [hpp, List.append_assoc] at hndc
      exact (List.nodup_append.1 ((List.nodup_append.1 hndc).2.1)).1
    have hpgc : ∀ q ∈ pagesOf cs, q ≤ S.nx := fun q hq => hpg q (List.mem_cons_of_mem _ hq)
    have hpgz : ∀ q ∈ cz.pages, q ≤ S.nx := fun q hq => hpgc q (mem_pagesOf hcz hq)
    obtain ⟨S1, more, hput, hres⟩ := put_sub hv hn d k S lo' hi' cz (by omega) hr g1 g2 (by omega) (by omega) hf hndz hpgz
    rw [hx]
    simp only
    rw [show (itC cz).child = cz.page from rfl, hput]
    simp only [Option.bind_some]
    obtain ⟨c1, rest, o1, o2, o3, o4, o5, o6, o7, o8, o9, o10, o11⟩ := hres.out
    have hsib : ∀ x, x ∈ pre ∨ x ∈ post → ∀ a b, Sub S vl d a b x → Sub S1 vl d a b x := fun x hx a b hs => sub_frame hs (fun q hq => by
      refine hres.frame q (hpgc q (mem_pagesOf (by rw [he]; rcases hx with h | h <;> simp [h]) hq)) (fun hz => ?_)
      rw [hpp, List.append_assoc] at hndc
      have hn1 := List.nodup_append.1 hndc
      rcases hx with h | h
      · exact hn1.2.2 q (mem_pagesOf h hq) q (List.mem_append_left _ hz) rfl
      · exact (List.nodup_append.1 hn1.2.1).2.2 q hz q (mem_pagesOf h hq) rfl)
    have hchain := g6 (Sub S1 vl d) (c1 :: rest) hsib o1 (fun x hx => by
      obtain rfl : c1 = x := by simpa using hx
      exact o3)
    have hbs : ∀ x ∈ pre ++ (c1 :: rest) ++ post, x.key.size ≤ 3 ∧ x.page < 65536 := by
      intro x hx
      rcases List.mem_append.1 hx with hx | hx
      · rcases List.mem_append.1 hx with hx | hx
        · exact k3 x (by rw [he]; simp [hx])
        · rcases List.mem_cons.1 hx with rfl | hx
          · have := k3 cz hcz
            rw [o3, o2]
            exact this
          · exact o6 x hx
      · exact k3 x (by rw [he]; simp [hx])
    have hpagesS : pagesOf (pre ++ (c1 :: rest) ++ post) = pagesOf pre ++ pagesOf (c1 :: rest) ++ pagesOf post := by rw [pagesOf_append, pagesOf_append]
    have hnodS : (pagesOf (pre ++ (c1 :: rest) ++ post)).Nodup := by
      rw [hpagesS]
      rw [hpp] at hndc
      exact nodup_swap hndc o8 o9 (fun q hq => hpgc q (by rw [hpp]; simp [hq])) (fun q hq => hpgc q (by rw [hpp]; simp [hq]))
    have hmemS : ∀ q, q ∈ pagesOf (pre ++ (c1 :: rest) ++ post) ↔ q ∈ pagesOf cs ∨ (S.nx < q ∧ q ≤ S1.nx) := by
      intro q
      rw [hpagesS, hpp]
      simp only [List.mem_append, o9]
      constructor
      · rintro ((h | h | h) | h)
        · exact .inl (.inl (.inl h))
        · exact .inl (.inl (.inr h))
        · exact .inr h
        · exact .inl (.inr h)
      · rintro (((h | h) | h) | h)
        · exact .inl (.inl h)
        · exact .inl (.inr (.inl h))
        · exact .inr h
        · exact .inl (.inr (.inr h))
    have hkeysS : ∀ x, x ∈ keysOf (pre ++ (c1 :: rest) ++ post) ↔ x = n ∨ x ∈ c.keys := by
      intro x
      rw [k4, he, keysOf_append, keysOf_append, keysOf_append, keysOf_cons cz post]
      simp only [List.mem_append, o7]
      constructor
      · rintro ((h | h | h) | h)
        · exact .inr (.inl h)
        · exact .inl h
        · exact .inr (.inr (.inl h))
        · exact .inr (.inr (.inr h))
      · rintro (h | h | h | h)
        · exact .inl (.inr (.inl h))
        · exact .inl (.inl h)
        · exact .inl (.inr (.inr h))
        · exact .inr h
    have hfp : S1.f c.page = S.f c.page := hres.frame _ hpn (fun h => hpc (mem_pagesOf hcz h))
    have hndp : (c.page :: pagesOf (pre ++ (c1 :: rest) ++ post)).Nodup := List.nodup_cons.2 ⟨fun h => by
      rcases (hmemS _).1 h with h | h
      · exact hpc h
      · omega, hnodS⟩
    have hlen0 : nodeLen S c.page = cs.length := by rw [nodeLen_of k6]; exact List.length_map _
    have hlcs : cs.length = pre.length + 1 + post.length := by rw [he]; simp only [List.length_append, List.length_cons]; omega
    cases rest with
    | nil =>
      subst o4
      have hmap : (pre ++ [c1] ++ post).map itC = cs.map itC := by
        rw [he]
        simp only [List.map_append, List.map_cons, List.map_nil]
        rw [show itC c1 = itC cz by unfold itC; rw [o2, o3], List.append_assoc]
        rfl
      refine ⟨S1, [], rfl, ⟨⟨c.key, c.page, keysOf (pre ++ [c1] ++ post), c.page :: pagesOf (pre ++ [c1] ++ post)⟩, [], ⟨_, ?_, hchain, hbs, rfl, rfl, by rw [hfp, k6, hmap]⟩, rfl, rfl, rfl, by simp, fun x hx => by simp at hx, fun x => ?_, ?_, fun q => ?_, fun _ => ?_, fun h => absurd rfl h⟩, hres.nx1, by have := hres.nx2; omega, fun q hq hne => ?_, hres.fresh⟩
      · simp only [List.length_append, List.length_cons, List.length_nil]
        omega
      · rw [keysOf_cons]
        show x ∈ keysOf (pre ++ [c1] ++ post) ++ keysOf [] ↔ _
        rw [show keysOf [] = [] from rfl, List.append_nil]
        exact hkeysS x
      · rw [pagesOf_cons]
        show ((c.page :: pagesOf (pre ++ [c1] ++ post)) ++ pagesOf []).Nodup
        rw [show pagesOf [] = [] from rfl, List.append_nil]
        exact hndp
      · rw [pagesOf_cons, k5]
        show q ∈ (c.page :: pagesOf (pre ++ [c1] ++ post)) ++ pagesOf [] ↔ _
        rw [show pagesOf [] = [] from rfl, List.append_nil, List.mem_cons, List.mem_cons, hmemS q, or_assoc]
      · unfold nodeLen
        rw [hfp]
        exact Nat.le_succ _
      · rw [k5] at hne
        exact hres.frame q hq (fun h => hne (List.mem_cons_of_mem _ (mem_pagesOf hcz h)))
    | cons c2 rest =>
      have hr0 : rest = [] := List.eq_nil_of_length_eq_zero (by simp only [List.length_cons] at o5; omega)
      subst hr0
      subst o4
      have hmap : (cs.map itC).take (pre.length + 1) ++ [c2].map itC ++ (cs.map itC).drop (pre.length + 1) = (pre ++ [c1, c2] ++ post).map itC := by
        have e1 : cs.map itC = (pre.map itC ++ [itC c1]) ++ post.map itC := by
          rw [he]
          simp only [List.map_append, List.map_cons, List.append_assoc]
          rw [show itC c1 = itC cz by unfold itC; rw [o2, o3]]
          rfl
        have e2 : (pre.map itC ++ [itC c1]).length = pre.length + 1 := by simp
        rw [e1, ← e2, List.take_left, List.drop_left]
        simp only [List.map_append, List.map_cons, List.map_nil, List.append_assoc, List.cons_append, List.nil_append]
      rw [if_neg (show ¬ ([c2].map itC).isEmpty = true from Bool.false_ne_true), if_neg (show ¬ ([c2].map itC).length > 200 by simp), hmap]
      have hS1n : S1.nx ≤ S.nx + (d + 1) := hres.nx2
      have hpn1 : c.page ≤ S1.nx := Nat.le_trans hpn hres.nx1
      obtain ⟨S2, more2, hsave, hres2⟩ := inner_save (p := c.page) c.key hchain (by simp only [List.length_append, List.length_cons, List.length_nil]; omega) hbs (by rw [hfp]; exact hp) hpn1 (by omega) hres.fresh hndp (fun q hq => by
        rcases (hmemS q).1 hq with h | h
        · exact Nat.le_trans (hpgc q h) hres.nx1
        · exact h.2)
      obtain ⟨d1, rest2, p1, p2, p3, p4, p5, p6, p7, p8, p9, p10, p11⟩ := hres2.out
      have hn1 := hres.nx1
      have hn2 := hres2.nx1
      have hn3 := hres2.nx2
      refine ⟨S2, more2, hsave, ⟨d1, rest2, p1, p2, p3, p4, p5, p6, fun x => by rw [p7]; exact hkeysS x, p8, fun q => ?_, fun e => ?_, fun e _ => ?_⟩, by omega, by omega, fun q hq hne => ?_, hres2.fresh⟩
      · rw [p9, k5, List.mem_cons, List.mem_cons, hmemS q]
        constructor
        · rintro ((h | h | h) | h)
          · exact .inl (.inl h)
          · exact .inl (.inr h)
          · exact .inr (by omega)
          · exact .inr (by omega)
        · rintro ((h | h) | h)
          · exact .inl (.inl h)
          · exact .inl (.inr (.inl h))
          · by_cases hq : q ≤ S1.nx
            · exact .inl (.inr (.inr ⟨h.1, hq⟩))
            · exact .inr (by omega)
      · rw [p10 e, hlen0]
        simp only [List.length_append, List.length_cons, List.length_nil]
        omega
      · have := p11 e
        rw [hlen0]
        simp only [List.length_append, List.length_cons, List.length_nil] at this
        omega
      · rw [k5] at hne
        rw [hres2.frame q (by omega) (fun e => hne (by rw [e]; simp))]
        exact hres.frame q hq (fun h => hne (List.mem_cons_of_mem _ (mem_pagesOf hcz h)))
#print axioms put_sub
end Go.Proofs.YtkmbkgjfhjjicaaT
