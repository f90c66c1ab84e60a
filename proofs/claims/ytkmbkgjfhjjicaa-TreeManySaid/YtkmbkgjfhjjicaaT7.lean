/- Tree, plain law: a key is cut. -/
import Derived.Test.YtkmbkgjfhjjicaaT6
namespace Go.Proofs.YtkmbkgjfhjjicaaT
open Go.RowKit Go.Maps Go.Proofs Go.Proofs.YtkmbkgjfhjjicaaW.PrintWords Go.Proofs.YtkmbkgjfhjjicaaW.PrintLast

structure CutRes (S S' : Pg) (vl : ByteArray) (d lo hi : Nat) (c : Ch) (n : Nat) (em : Bool) : Prop where
  nx : S'.nx = S.nx
  frame : ∀ q, q ∉ c.pages → S'.f q = S.f q
  out : (em = true ∧ (∀ x ∈ c.keys, x = n) ∧ ∀ q ∈ c.pages, S'.f q = none) ∨ (em = false ∧ ∃ c1, Sub S' vl d lo hi c1 ∧ c1.page = c.page ∧ c1.key = c.key ∧ (∀ x, x ∈ c1.keys ↔ x ∈ c.keys ∧ x ≠ n) ∧ c1.pages.Nodup ∧ (∀ q ∈ c1.pages, q ∈ c.pages) ∧ (∀ q ∈ c.pages, q ∉ c1.pages → S'.f q = none))
theorem cut_at (S : Pg) (p : Nat) : (S.cut p).f p = none := by unfold Pg.cut; simp
theorem cut_other (S : Pg) {p q : Nat} (h : q ≠ p) : (S.cut p).f q = S.f q := by unfold Pg.cut; simp only; rw [if_neg h]
theorem erase_mem {K : List Nat} (hs : Sorted K) {i n : Nat} (hi : K[i]? = some n) (x : Nat) : x ∈ K.eraseIdx i ↔ x ∈ K ∧ x ≠ n := by
  obtain ⟨hil, hin⟩ := List.getElem?_eq_some_iff.1 hi
  have hd : K.drop i = n :: K.drop (i + 1) := by rw [List.drop_eq_getElem_cons hil, hin]
  have e : K = K.take i ++ n :: K.drop (i + 1) := by rw [← hd, List.take_append_drop]
  have hs2 := hs
  rw [e] at hs2
  obtain ⟨h1, h2, h3⟩ := List.pairwise_append.1 hs2
  have h4 := (List.pairwise_cons.1 h2).1
  rw [List.eraseIdx_eq_take_drop_succ]
  have hx : x ∈ K ↔ x ∈ K.take i ∨ x = n ∨ x ∈ K.drop (i + 1) := by
    conv => lhs; rw [e]
    rw [List.mem_append, List.mem_cons]
  rw [hx, List.mem_append]
  constructor
  · rintro (h | h)
    · exact ⟨.inl h, fun e => by have := h3 x h n (by simp); omega⟩
    · exact ⟨.inr (.inr h), fun e => by have := h4 x h; omega⟩
  · rintro ⟨h | h | h, hn⟩
    · exact .inl h
    · exact absurd h hn
    · exact .inr h
theorem map_eraseIdx' {α β : Type} (f : α → β) (l : List α) (i : Nat) : (l.map f).eraseIdx i = (l.eraseIdx i).map f := by
  rw [List.eraseIdx_eq_take_drop_succ, List.eraseIdx_eq_take_drop_succ, List.map_append, List.map_take, List.map_drop]
theorem cut_sub {vl : ByteArray} (hv : vl.size ≤ 400) {n : Nat} (hn : n < 65536) : ∀ (d k : Nat) (S : Pg) (lo hi : Nat) (c : Ch), d < k → Sub S vl d lo hi c → lo ≤ n → n < hi → hi ≤ 65536 → c.pages.Nodup →
    ∃ S' fd em, cutF k S c.page (keyOf n) = some (S', fd, em) ∧ CutRes S S' vl d lo hi c n em
  | 0, 0, _, _, _, _, h, _, _, _, _, _ => absurd h (Nat.lt_irrefl _)
  | 0, k + 1, S, lo, hi, c, _, h, h1, h2, hh, hnd => by
    have hget := fun (nd : Nd) (e : S.f c.page = some (some nd)) => get_of e (sub_get hv h hh)
    have hsub := h
    obtain ⟨k1, k2, k3, k4, k5, k6⟩ := h
    have hb : ∀ x ∈ c.keys, x < 65536 := fun x hx => by have := (k4 x hx).2; omega
    have hp : (S.f c.page).isSome = true := by rw [k6]; rfl
    rw [cutF, hget _ k6]
    simp only [Option.bind_some, if_true]
    rw [placeN_leaf hn k3 hb]
    simp only
    by_cases hm : n ∈ c.keys
    · rw [if_pos (decide_eq_true hm), map_eraseIdx']
      have hx := (idx_mem k3).1 hm
      have hem := erase_mem k3 hx
      by_cases he : c.keys.eraseIdx (idx n c.keys) = []
      · rw [he, if_pos (show (([] : List Nat).map (itL vl)).isEmpty = true from rfl), if_pos hp]
        refine ⟨_, _, _, rfl, rfl, fun q hq => cut_other _ (fun e => hq (by rw [k5, e]; simp)), .inl ⟨rfl, fun x hx => ?_, fun q hq => ?_⟩⟩
        · by_cases hxn : x = n
          · exact hxn
          · have := (hem x).2 ⟨hx, hxn⟩
            rw [he] at this
            simp at this
        · rw [k5] at hq
          obtain rfl : q = c.page := by simpa using hq
          exact cut_at _ _
      · rw [if_neg (show ¬ ((c.keys.eraseIdx (idx n c.keys)).map (itL vl)).isEmpty = true by simpa using he)]
        have hlen : (c.keys.eraseIdx (idx n c.keys)).length ≤ c.keys.length := List.Sublist.length_le (List.eraseIdx_sublist _ _)
        have hs' : Sorted (c.keys.eraseIdx (idx n c.keys)) := List.Pairwise.sublist (List.eraseIdx_sublist _ _) k3
        have hcp := (cap_pos vl hv).2
        rw [put_some (okN_leaf hv he (by omega) hs' (fun x hx => hb x ((hem x).1 hx).1)) ((leaf_len vl hv _).2 (by omega)) hp]
        refine ⟨_, _, _, rfl, rfl, fun q hq => set_other _ _ (fun e => hq (by rw [k5, e]; simp)), .inr ⟨rfl, ⟨c.key, c.page, c.keys.eraseIdx (idx n c.keys), [c.page]⟩, ⟨he, Nat.le_trans hlen k2, hs', fun x hx => k4 x ((hem x).1 hx).1, rfl, set_at _ _ _⟩, rfl, rfl, hem, by simp, fun q hq => by rw [k5]; exact hq, fun q hq hq2 => absurd (by rw [k5] at hq; exact hq) hq2⟩⟩
    · rw [if_neg (by rw [decide_eq_false hm]; exact Bool.false_ne_true)]
      exact ⟨_, _, _, rfl, rfl, fun _ _ => rfl, .inr ⟨rfl, c, hsub, rfl, rfl, fun x => ⟨fun h => ⟨h, fun e => hm (e ▸ h)⟩, fun h => h.1⟩, hnd, fun _ h => h, fun q hq hq2 => absurd hq hq2⟩⟩
  | d + 1, 0, _, _, _, _, h, _, _, _, _, _ => absurd h (Nat.not_lt_zero _)
  | d + 1, k + 1, S, lo, hi, c, hk, h, h1, h2, hh, hnd => by
    have hget := fun (nd : Nd) (e : S.f c.page = some (some nd)) => get_of e (sub_get hv h hh)
    obtain ⟨cs, k1, k2, k3, k4, k5, k6⟩ := h
    rw [k5] at hnd
    have hp : (S.f c.page).isSome = true := by rw [k6]; rfl
    have hpc : c.page ∉ pagesOf cs := (List.nodup_cons.1 hnd).1
    have hndc := (List.nodup_cons.1 hnd).2
    have hg := sub_good S vl d
    obtain ⟨pre, cz, post, lo', hi', he, hpos, hr, g1, g2, g3, g4, g5, g6⟩ := chain_zip hg hn k2 h1 h2
    rw [cutF, hget _ k6]
    simp only [Option.bind_some, Bool.false_eq_true, if_false]
    rw [placeN_inner, ← hpos]
    have hcz : cz ∈ cs := by rw [he]; simp
    have hx : (cs.map itC)[pre.length]? = some (itC cz) := by
      rw [he, List.map_append, List.map_cons, List.getElem?_append_right (by rw [List.length_map]; exact Nat.le_refl _), List.length_map, Nat.sub_self]
      rfl
    have hpp : pagesOf cs = pagesOf pre ++ cz.pages ++ pagesOf post := by rw [he, pagesOf_append, pagesOf_cons, List.append_assoc]
    have hn1 : (pagesOf pre ++ (cz.pages ++ pagesOf post)).Nodup := by rw [hpp, List.append_assoc] at hndc; exact hndc
    have hn2 := List.nodup_append.1 hn1
    have hn3 := List.nodup_append.1 hn2.2.1
    obtain ⟨S1, fd, em, hcut, hres⟩ := cut_sub hv hn d k S lo' hi' cz (by omega) hr g1 g2 (by omega) hn3.1
    rw [hx]
    simp only
    rw [show (itC cz).child = cz.page from rfl, hcut]
    simp only [Option.bind_some]
    have hdis : ∀ x, x ∈ pre ∨ x ∈ post → ∀ q ∈ x.pages, q ∉ cz.pages := fun x hx q hq hz => by
      rcases hx with h | h
      · exact hn2.2.2 q (mem_pagesOf h hq) q (List.mem_append_left _ hz) rfl
      · exact hn3.2.2 q hz q (mem_pagesOf h hq) rfl
    have hsib : ∀ x, x ∈ pre ∨ x ∈ post → ∀ a b, Sub S vl d a b x → Sub S1 vl d a b x := fun x hx a b hs => sub_frame hs (fun q hq => hres.frame q (hdis x hx q hq))
    have hfp : S1.f c.page = S.f c.page := hres.frame _ (fun h => hpc (mem_pagesOf hcz h))
    have hzp : ∀ q ∈ cz.pages, q ∈ c.pages := fun q hq => by rw [k5]; exact List.mem_cons_of_mem _ (mem_pagesOf hcz hq)
    have hck := chain_keys hg k2
    have hnotn : ∀ x, x ∈ keysOf pre ∨ x ∈ keysOf post → x ≠ n := fun x hx e => by
      rcases hx with h | h
      · have := g4 x h
        omega
      · have := g5 x h
        omega
    rcases hres.out with ⟨rfl, hkn, hpn⟩ | ⟨rfl, c1, o1, o2, o3, o4, o5, o6, o7⟩
    · rw [if_pos rfl]
      have heras : (cs.map itC).eraseIdx pre.length = (pre ++ post).map itC := by
        rw [map_eraseIdx', he, List.eraseIdx_append_of_length_le (Nat.le_refl _), Nat.sub_self]
        rfl
      rw [heras]
      have hkeys : ∀ x, x ∈ keysOf (pre ++ post) ↔ x ∈ c.keys ∧ x ≠ n := by
        intro x
        rw [k4, he, keysOf_append, keysOf_append, keysOf_cons]
        simp only [List.mem_append]
        constructor
        · rintro (h | h)
          · exact ⟨.inl h, hnotn x (.inl h)⟩
          · exact ⟨.inr (.inr h), hnotn x (.inr h)⟩
        · rintro ⟨h | h | h, hx⟩
          · exact .inl h
          · exact absurd (hkn x h) hx
          · exact .inr h
      by_cases hem : pre ++ post = []
      · rw [hem, if_pos (show (([] : List Ch).map itC).isEmpty = true from rfl), if_pos (by rw [hfp]; exact hp)]
        obtain ⟨rfl, rfl⟩ := List.append_eq_nil_iff.1 hem
        refine ⟨_, _, _, rfl, hres.nx, fun q hq => ?_, .inl ⟨rfl, fun x hx => ?_, fun q hq => ?_⟩⟩
        · rw [cut_other _ (fun e => hq (by rw [k5, e]; simp))]
          exact hres.frame q (fun h => hq (hzp q h))
        · by_cases hxn : x = n
          · exact hxn
          · have := (hkeys x).2 ⟨hx, hxn⟩
            simp [keysOf] at this
        · rw [k5] at hq
          rcases List.mem_cons.1 hq with rfl | hq
          · exact cut_at _ _
          · have hqp : q ≠ c.page := fun e => hpc (e ▸ hq)
            rw [cut_other _ hqp]
            refine hpn q ?_
            rw [hpp] at hq
            simpa [pagesOf] using hq
      · rw [if_neg (show ¬ ((pre ++ post).map itC).isEmpty = true by rw [List.isEmpty_iff, List.map_eq_nil_iff]; exact hem)]
        have hc2 : Chain (Sub S vl d) lo hi (pre ++ post) := chain_remove hg (sub_weak S vl d) (by rw [← he]; exact k2) hem
        have hc3 : Chain (Sub S1 vl d) lo hi (pre ++ post) := chain_mono hc2 (fun x hx => hsib x (List.mem_append.1 hx))
        have hb : ∀ x ∈ pre ++ post, x.key.size ≤ 3 ∧ x.page < 65536 := fun x hx => k3 x (by rw [he]; rcases List.mem_append.1 hx with h | h <;> simp [h])
        have hlen : (pre ++ post).length ≤ 85 := by
          have := k1
          rw [he] at this
          simp only [List.length_append, List.length_cons] at this ⊢
          omega
        rw [put_some (okN_inner (sub_good S1 vl d) hc3 (by omega) hb) ((inner_len (sub_good S1 vl d) hc3 hb).2 hlen) (by rw [hfp]; exact hp)]
        have hpx : ∀ q, q ∈ pagesOf (pre ++ post) → q ∈ pagesOf cs ∧ q ∉ cz.pages := by
          intro q hq
          rw [pagesOf_append] at hq
          rw [hpp]
          rcases List.mem_append.1 hq with h | h
          · exact ⟨by simp [h], fun hz => hn2.2.2 q h q (List.mem_append_left _ hz) rfl⟩
          · exact ⟨by simp [h], fun hz => hn3.2.2 q hz q h rfl⟩
        refine ⟨_, _, _, rfl, hres.nx, fun q hq => ?_, .inr ⟨rfl, ⟨c.key, c.page, keysOf (pre ++ post), c.page :: pagesOf (pre ++ post)⟩, ⟨pre ++ post, hlen, ?_, hb, rfl, rfl, set_at _ _ _⟩, rfl, rfl, hkeys, ?_, fun q hq => ?_, fun q hq hq2 => ?_⟩⟩
        · rw [set_other _ _ (fun e => hq (by rw [k5, e]; simp))]
          exact hres.frame q (fun h => hq (hzp q h))
        · exact chain_mono hc3 (fun x hx a b hs => sub_frame hs (fun q hq => set_other (p := c.page) (q := q) _ _ (fun e => hpc (by rw [← e]; exact (hpx q (mem_pagesOf hx hq)).1))))
        · refine List.nodup_cons.2 ⟨fun h => hpc (hpx _ h).1, ?_⟩
          rw [pagesOf_append]
          refine List.nodup_append.2 ⟨hn2.1, hn3.2.1, fun a ha b hb => hn2.2.2 a ha b (List.mem_append_right _ hb)⟩
        · rw [k5]
          rcases List.mem_cons.1 hq with h | h
          · rw [h]
            simp
          · exact List.mem_cons_of_mem _ (hpx q h).1
        · have hne : q ≠ c.page := fun e => hq2 (by rw [e]; simp)
          rw [set_other _ _ hne]
          rw [k5] at hq
          rcases List.mem_cons.1 hq with h | h
          · exact absurd h hne
          · rw [hpp] at h
            simp only [List.mem_append] at h
            have hq3 : q ∉ pagesOf (pre ++ post) := fun h => hq2 (List.mem_cons_of_mem _ h)
            rw [pagesOf_append, List.mem_append] at hq3
            rcases h with (h | h) | h
            · exact absurd (.inl h) hq3
            · exact hpn q h
            · exact absurd (.inr h) hq3
    · rw [if_neg Bool.false_ne_true]
      have hchain := g6 (Sub S1 vl d) [c1] hsib o1 (fun x hx => by
        obtain rfl : c1 = x := by simpa using hx
        exact o3)
      have hmap : (pre ++ [c1] ++ post).map itC = cs.map itC := by
        rw [he]
        simp only [List.map_append, List.map_cons, List.map_nil]
        rw [show itC c1 = itC cz by unfold itC; rw [o2, o3], List.append_assoc]
        rfl
      have hps : pagesOf (pre ++ [c1] ++ post) = pagesOf pre ++ (c1.pages ++ pagesOf post) := by
        rw [pagesOf_append, pagesOf_append, pagesOf_cons, List.append_assoc]
        show pagesOf pre ++ ((c1.pages ++ []) ++ pagesOf post) = _
        rw [List.append_nil]
      have hsubp : ∀ q, q ∈ pagesOf (pre ++ [c1] ++ post) → q ∈ pagesOf cs := by
        intro q hq
        rw [hps] at hq
        rw [hpp]
        simp only [List.mem_append] at hq ⊢
        rcases hq with h | h | h
        · exact .inl (.inl h)
        · exact .inl (.inr (o6 q h))
        · exact .inr h
      refine ⟨_, _, _, rfl, hres.nx, fun q hq => hres.frame q (fun h => hq (hzp q h)), .inr ⟨rfl, ⟨c.key, c.page, keysOf (pre ++ [c1] ++ post), c.page :: pagesOf (pre ++ [c1] ++ post)⟩, ⟨pre ++ [c1] ++ post, ?_, hchain, ?_, rfl, rfl, by rw [hfp, k6, hmap]⟩, rfl, rfl, fun x => ?_, ?_, fun q hq => ?_, fun q hq hq2 => ?_⟩⟩
      · rw [he] at k1
        simp only [List.length_append, List.length_cons, List.length_nil] at k1 ⊢
        omega
      · intro x hx
        simp only [List.mem_append, List.mem_cons, List.not_mem_nil, or_false] at hx
        rcases hx with (h | h) | h
        · exact k3 x (by rw [he]; simp [h])
        · subst h
          rw [o3, o2]
          exact k3 cz hcz
        · exact k3 x (by rw [he]; simp [h])
      · show x ∈ keysOf (pre ++ [c1] ++ post) ↔ _
        rw [k4, he, keysOf_append, keysOf_append, keysOf_append, keysOf_cons, keysOf_cons cz]
        show x ∈ keysOf pre ++ (c1.keys ++ []) ++ keysOf post ↔ _
        simp only [List.mem_append, List.append_nil, o4]
        constructor
        · rintro ((h | h) | h)
          · exact ⟨.inl h, hnotn x (.inl h)⟩
          · exact ⟨.inr (.inl h.1), h.2⟩
          · exact ⟨.inr (.inr h), hnotn x (.inr h)⟩
        · rintro ⟨h | h | h, hx⟩
          · exact .inl (.inl h)
          · exact .inl (.inr ⟨h, hx⟩)
          · exact .inr h
      · refine List.nodup_cons.2 ⟨fun h => hpc (hsubp _ h), ?_⟩
        rw [hps]
        refine List.nodup_append.2 ⟨hn2.1, List.nodup_append.2 ⟨o5, hn3.2.1, fun a ha b hb => hn3.2.2 a (o6 a ha) b hb⟩, fun a ha b hb => ?_⟩
        rcases List.mem_append.1 hb with hb | hb
        · exact hn2.2.2 a ha b (List.mem_append_left _ (o6 b hb))
        · exact hn2.2.2 a ha b (List.mem_append_right _ hb)
      · rw [k5]
        rcases List.mem_cons.1 hq with h | h
        · rw [h]
          simp
        · exact List.mem_cons_of_mem _ (hsubp q h)
      · have hne : q ≠ c.page := fun e => hq2 (by rw [e]; simp)
        rw [k5] at hq
        rcases List.mem_cons.1 hq with h | h
        · exact absurd h hne
        · have hq3 : q ∉ pagesOf (pre ++ [c1] ++ post) := fun h => hq2 (List.mem_cons_of_mem _ h)
          rw [hps] at hq3
          rw [hpp] at h
          simp only [List.mem_append] at h hq3
          rcases h with (h | h) | h
          · exact absurd (.inl h) hq3
          · exact o7 q h (fun h => hq3 (.inr (.inl h)))
          · exact absurd (.inr (.inr h)) hq3
#print axioms cut_sub
end Go.Proofs.YtkmbkgjfhjjicaaT
