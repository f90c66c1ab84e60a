/- Tree, plain law: a node is saved, on one page or on two. -/
import Derived.Test.YtkmbkgjfhjjicaaT3
namespace Go.Proofs.YtkmbkgjfhjjicaaT
open Go.RowKit Go.Maps Go.Proofs Go.Proofs.YtkmbkgjfhjjicaaW.PrintWords Go.Proofs.YtkmbkgjfhjjicaaW.PrintLast

def Fresh (S : Pg) : Prop := ∀ q, S.nx < q → S.f q = none
def nodeLen (S : Pg) (p : Nat) : Nat := match S.f p with | some (some n) => n.items.length | _ => 0
theorem nodeLen_of {S : Pg} {p : Nat} {n : Nd} (h : S.f p = some (some n)) : nodeLen S p = n.items.length := by unfold nodeLen; rw [h]
structure SaveRes (S S' : Pg) (vl : ByteArray) (d lo hi p : Nat) (k0 : ByteArray) (K P : List Nat) (len mx : Nat) (more : List It) : Prop where
  out : ∃ c1 rest, Chain (Sub S' vl d) lo hi (c1 :: rest) ∧ c1.page = p ∧ c1.key = k0 ∧ more = rest.map itC ∧ rest.length ≤ 1 ∧ (∀ x ∈ rest, x.key.size ≤ 3 ∧ x.page < 65536) ∧ keysOf (c1 :: rest) = K ∧ (pagesOf (c1 :: rest)).Nodup ∧
    (∀ q, q ∈ pagesOf (c1 :: rest) ↔ q ∈ P ∨ (S.nx < q ∧ q ≤ S'.nx)) ∧ (rest = [] → nodeLen S' p = len) ∧ (rest ≠ [] → mx < len)
  nx1 : S.nx ≤ S'.nx
  nx2 : S'.nx ≤ S.nx + 1
  frame : ∀ q, q ≤ S.nx → q ≠ p → S'.f q = S.f q
  fresh : Fresh S'
theorem set_at (S : Pg) (p : Nat) (n : Nd) : (S.set p n).f p = some (some n) := by unfold Pg.set; simp
theorem set_other (S : Pg) {p q : Nat} (n : Nd) (h : q ≠ p) : (S.set p n).f q = S.f q := by unfold Pg.set; simp only; rw [if_neg h]
theorem new_other (S : Pg) {q : Nat} (h : q ≠ S.nx + 1) : S.new.f q = S.f q := by unfold Pg.new; simp only; rw [if_neg h]
theorem fresh_set {S : Pg} (h : Fresh S) {p : Nat} (hp : p ≤ S.nx) (n : Nd) : Fresh (S.set p n) := fun q hq => by
  have hq : S.nx < q := hq
  rw [set_other S n (by omega)]
  exact h q hq
theorem two_facts {S : Pg} {p : Nat} (hp : p ≤ S.nx) (hf : Fresh S) (n1 n2 : Nd) :
    (((S.set p n1).new).set (S.nx + 1) n2).f p = some (some n1) ∧ (((S.set p n1).new).set (S.nx + 1) n2).f (S.nx + 1) = some (some n2) ∧ (((S.set p n1).new).set (S.nx + 1) n2).nx = S.nx + 1 ∧
      (∀ q, q ≤ S.nx → q ≠ p → (((S.set p n1).new).set (S.nx + 1) n2).f q = S.f q) ∧ Fresh (((S.set p n1).new).set (S.nx + 1) n2) := by
  have e : (S.set p n1).nx = S.nx := rfl
  refine ⟨?_, set_at _ _ _, rfl, fun q hq hne => ?_, fun q hq => ?_⟩
  · rw [set_other _ _ (by omega), new_other _ (by rw [e]; omega), set_at]
  · rw [set_other _ _ (by omega), new_other _ (by rw [e]; omega), set_other _ _ hne]
  · have hq : S.nx + 1 < q := hq
    rw [set_other _ _ (by omega), new_other _ (by rw [e]; omega), set_other _ _ (by omega)]
    exact hf q (by omega)
theorem sorted_split {K : List Nat} (hs : Sorted K) {a s : Nat} (ha : K[a]? = some s) : (∀ x ∈ K.take a, x < s) ∧ (∀ x ∈ K.drop a, s ≤ x) := by
  obtain ⟨hal, has⟩ := List.getElem?_eq_some_iff.1 ha
  have hd : K.drop a = s :: K.drop (a + 1) := by rw [List.drop_eq_getElem_cons hal, has]
  have h := hs
  rw [← List.take_append_drop a K] at h
  obtain ⟨_, h2, h3⟩ := List.pairwise_append.1 h
  refine ⟨fun x hx => h3 x hx s (by rw [hd]; simp), fun x hx => ?_⟩
  rw [hd] at hx h2
  rcases List.mem_cons.1 hx with rfl | hx
  · exact Nat.le_refl _
  · exact Nat.le_of_lt ((List.pairwise_cons.1 h2).1 x hx)
theorem chain_two {R : Nat → Nat → Ch → Prop} {lo s hi : Nat} {c1 c2 : Ch} (hk : c2.key = keyOf s) (hs : s < 65536) (h1 : R lo s c1) (h2 : R s hi c2) : Chain R lo hi [c1, c2] := ⟨s, hk, hs, h1, h2⟩
theorem leaf_save {S : Pg} {vl : ByteArray} (hv : vl.size ≤ 400) {lo hi p : Nat} (k0 : ByteArray) {K : List Nat} (h0 : K ≠ []) (hl : K.length ≤ cap vl + 1) (hs : Sorted K) (hb : ∀ x ∈ K, lo ≤ x ∧ x < hi) (hh : hi ≤ 65536) (hp : (S.f p).isSome = true) (hpn : p ≤ S.nx) (hnx : S.nx ≤ 60000) (hf : Fresh S) :
    ∃ S' more, saveF 300 S p ⟨true, K.map (itL vl)⟩ = some (S', more) ∧ SaveRes S S' vl 0 lo hi p k0 K [p] K.length (cap vl) more := by
  obtain ⟨cp1, cp2⟩ := cap_pos vl hv
  have hb' : ∀ x ∈ K, x < 65536 := fun x hx => by have := (hb x hx).2; omega
  by_cases hfit : K.length ≤ cap vl
  · have hok := okN_leaf hv h0 (by omega) hs hb'
    refine ⟨_, _, save_one (k := 299) hok ((leaf_len vl hv K).2 hfit) hp, ⟨⟨k0, p, K, [p]⟩, [], ⟨h0, hfit, hs, hb, rfl, set_at _ _ _⟩, rfl, rfl, rfl, by simp, fun x hx => by simp at hx, by simp [keysOf], by simp [pagesOf], fun q => ?_, fun _ => ?_, fun h => absurd rfl h⟩, Nat.le_refl _, Nat.le_succ _, fun q _ hq => set_other _ _ hq, fresh_set hf hpn _⟩
    · show q ∈ [p] ++ [] ↔ q ∈ [p] ∨ (S.nx < q ∧ q ≤ S.nx)
      rw [List.append_nil]
      exact ⟨.inl, fun h => h.elim id (fun h => by omega)⟩
    · rw [nodeLen_of (set_at _ _ _)]
      exact List.length_map _
  · have hlen : K.length = cap vl + 1 := by omega
    have h2 : 2 ≤ (K.map (itL vl)).length := by rw [List.length_map]; omega
    have hok : ∀ i, 1 ≤ i → i < (K.map (itL vl)).length → okN ⟨true, (K.map (itL vl)).take i⟩ = true ∧ okN ⟨true, (K.map (itL vl)).drop i⟩ = true := by
      intro i h1 h3
      rw [List.length_map] at h3
      rw [← List.map_take, ← List.map_drop]
      refine ⟨okN_leaf hv (fun e => ?_) ?_ (List.Pairwise.sublist (List.take_sublist _ _) hs) (fun x hx => hb' x (List.mem_of_mem_take hx)), okN_leaf hv (fun e => ?_) ?_ (List.Pairwise.sublist (List.drop_sublist _ _) hs) (fun x hx => hb' x (List.mem_of_mem_drop hx))⟩
      · have := congrArg List.length e
        rw [List.length_take, List.length_nil] at this
        omega
      · rw [List.length_take]
        omega
      · have := congrArg List.length e
        rw [List.length_drop, List.length_nil] at this
        omega
      · rw [List.length_drop]
        omega
    obtain ⟨a, x, ha1, hal, hx, hA, hB, hsave⟩ := save_two (k := 298) h2 (by rw [List.length_map]; omega) (Nat.lt_of_not_le (fun h => hfit ((leaf_len vl hv K).1 h))) hok (j := K.length - 1) (by omega) (by rw [List.length_map]; omega)
      (by rw [← List.map_take, leaf_len vl hv, List.length_take]; omega) (by rw [← List.map_drop, leaf_len vl hv, List.length_drop]; omega) hp hnx
    rw [List.length_map] at hal
    obtain ⟨s, hsx⟩ : ∃ s, K[a]? = some s := ⟨_, List.getElem?_eq_getElem hal⟩
    rw [List.getElem?_map, hsx] at hx
    obtain rfl : itL vl s = x := Option.some.inj hx
    obtain ⟨b1, b2⟩ := sorted_split hs hsx
    rw [← List.map_take] at hA
    rw [← List.map_drop] at hB
    obtain ⟨f1, f2, f3, f4, f5⟩ := two_facts hpn hf ⟨true, (K.map (itL vl)).take a⟩ ⟨true, (K.map (itL vl)).drop a⟩
    have hsm : s ∈ K := List.mem_of_getElem? hsx
    refine ⟨_, _, hsave, ⟨⟨k0, p, K.take a, [p]⟩, [⟨keyOf s, S.nx + 1, K.drop a, [S.nx + 1]⟩], chain_two (s := s) rfl (hb' s hsm) ?_ ?_, rfl, rfl, rfl, by simp, fun y hy => ?_, ?_, ?_, fun q => ?_, fun h => by simp at h, fun _ => by omega⟩, by rw [f3]; omega, by rw [f3]; omega, f4, f5⟩
    · refine ⟨fun e => ?_, ?_, List.Pairwise.sublist (List.take_sublist _ _) hs, fun y hy => ⟨(hb y (List.mem_of_mem_take hy)).1, b1 y hy⟩, rfl, by rw [f1, List.map_take]⟩
      · have := congrArg List.length e
        simp only at this
        rw [List.length_take, List.length_nil] at this
        omega
      · exact (leaf_len vl hv _).1 hA
    · refine ⟨fun e => ?_, ?_, List.Pairwise.sublist (List.drop_sublist _ _) hs, fun y hy => ⟨b2 y hy, (hb y (List.mem_of_mem_drop hy)).2⟩, rfl, by rw [f2, List.map_drop]⟩
      · have := congrArg List.length e
        simp only at this
        rw [List.length_drop, List.length_nil] at this
        omega
      · exact (leaf_len vl hv _).1 hB
    · obtain rfl : y = _ := by simpa using hy
      exact ⟨Nat.le_refl 3, by show S.nx + 1 < 65536; omega⟩
    · simp [keysOf]
    · simp [pagesOf]
      omega
    · rw [f3]
      simp [pagesOf]
      omega
theorem inner_save {S : Pg} {vl : ByteArray} {d lo hi p : Nat} (k0 : ByteArray) {cs : List Ch} (hc : Chain (Sub S vl d) lo hi cs) (hl : cs.length ≤ 86) (hb : ∀ x ∈ cs, x.key.size ≤ 3 ∧ x.page < 65536) (hp : (S.f p).isSome = true) (hpn : p ≤ S.nx) (hnx : S.nx ≤ 60000) (hf : Fresh S) (hnd : (p :: pagesOf cs).Nodup) (hpg : ∀ q ∈ pagesOf cs, q ≤ S.nx) :
    ∃ S' more, saveF 300 S p ⟨false, cs.map itC⟩ = some (S', more) ∧ SaveRes S S' vl (d + 1) lo hi p k0 (keysOf cs) (p :: pagesOf cs) cs.length 85 more := by
  have hg := sub_good S vl d
  have hpc : p ∉ pagesOf cs := (List.nodup_cons.1 hnd).1
  by_cases hfit : cs.length ≤ 85
  · have hok := okN_inner hg hc (by omega) hb
    have hfr : ∀ x ∈ cs, ∀ a b, Sub S vl d a b x → Sub (S.set p ⟨false, cs.map itC⟩) vl d a b x := fun x hx a b h => sub_frame h (fun q hq => set_other _ _ (fun e => hpc (e ▸ mem_pagesOf hx hq)))
    refine ⟨_, _, save_one (k := 299) hok ((inner_len hg hc hb).2 hfit) hp, ⟨⟨k0, p, keysOf cs, p :: pagesOf cs⟩, [], ⟨cs, hfit, chain_mono hc hfr, hb, rfl, rfl, set_at _ _ _⟩, rfl, rfl, rfl, by simp, fun x hx => by simp at hx, by simp [keysOf], by simpa [pagesOf] using hnd, fun q => ?_, fun _ => ?_, fun h => absurd rfl h⟩, Nat.le_refl _, Nat.le_succ _, fun q _ hq => set_other _ _ hq, fresh_set hf hpn _⟩
    · show q ∈ (p :: pagesOf cs) ++ [] ↔ q ∈ p :: pagesOf cs ∨ (S.nx < q ∧ q ≤ S.nx)
      rw [List.append_nil]
      exact ⟨.inl, fun h => h.elim id (fun h => by omega)⟩
    · rw [nodeLen_of (set_at _ _ _)]
      exact List.length_map _
  · have hlen : cs.length = 86 := by omega
    have hparts : ∀ i, 1 ≤ i → i < cs.length → ∃ s, s < 65536 ∧ (∀ c' ∈ (cs.drop i).head?, c'.key = keyOf s) ∧ Chain (Sub S vl d) lo s (cs.take i) ∧ Chain (Sub S vl d) s hi (cs.drop i) := by
      intro i h1 h2
      refine chain_split (by rw [List.take_append_drop]; exact hc) (fun e => ?_) (fun e => ?_)
      · have := congrArg List.length e
        rw [List.length_take, List.length_nil] at this
        omega
      · have := congrArg List.length e
        rw [List.length_drop, List.length_nil] at this
        omega
    have hbt : ∀ i, ∀ x ∈ cs.take i, x.key.size ≤ 3 ∧ x.page < 65536 := fun i x hx => hb x (List.mem_of_mem_take hx)
    have hbd : ∀ i, ∀ x ∈ cs.drop i, x.key.size ≤ 3 ∧ x.page < 65536 := fun i x hx => hb x (List.mem_of_mem_drop hx)
    have hok : ∀ i, 1 ≤ i → i < (cs.map itC).length → okN ⟨false, (cs.map itC).take i⟩ = true ∧ okN ⟨false, (cs.map itC).drop i⟩ = true := by
      intro i h1 h3
      rw [List.length_map] at h3
      rw [← List.map_take, ← List.map_drop]
      obtain ⟨s, _, _, h4, h5⟩ := hparts i h1 h3
      exact ⟨okN_inner hg h4 (by rw [List.length_take]; omega) (hbt i), okN_inner hg h5 (by rw [List.length_drop]; omega) (hbd i)⟩
    obtain ⟨sj, _, _, hj1, hj2⟩ := hparts 85 (by omega) (by omega)
    obtain ⟨a, x, ha1, hal, hx, hA, hB, hsave⟩ := save_two (k := 298) (S := S) (p := p) (leaf := false) (items := cs.map itC) (by rw [List.length_map]; omega) (by rw [List.length_map]; omega) (Nat.lt_of_not_le (fun h => hfit ((inner_len hg hc hb).1 h))) hok (j := 85) (by omega) (by rw [List.length_map]; omega)
      (by rw [← List.map_take, inner_len hg hj1 (hbt 85), List.length_take]; omega) (by rw [← List.map_drop, inner_len hg hj2 (hbd 85), List.length_drop]; omega) hp hnx
    rw [List.length_map] at hal
    obtain ⟨s, hs, hk, hcA, hcB⟩ := hparts a ha1 hal
    have hca : cs[a]? = some cs[a] := List.getElem?_eq_getElem hal
    rw [List.getElem?_map, hca] at hx
    obtain rfl : itC cs[a] = x := Option.some.inj hx
    have hka : cs[a].key = keyOf s := hk _ (by rw [List.head?_drop, hca]; rfl)
    rw [← List.map_take] at hA
    rw [← List.map_drop] at hB
    obtain ⟨f1, f2, f3, f4, f5⟩ := two_facts hpn hf ⟨false, (cs.map itC).take a⟩ ⟨false, (cs.map itC).drop a⟩
    have hfr : ∀ y ∈ cs, ∀ u v, Sub S vl d u v y → Sub (((S.set p ⟨false, (cs.map itC).take a⟩).new).set (S.nx + 1) ⟨false, (cs.map itC).drop a⟩) vl d u v y :=
      fun y hy u v h => sub_frame h (fun q hq => f4 q (hpg q (mem_pagesOf hy hq)) (fun e => hpc (e ▸ mem_pagesOf hy hq)))
    have hpt : pagesOf (cs.take a) ++ pagesOf (cs.drop a) = pagesOf cs := by rw [← pagesOf_append, List.take_append_drop]
    refine ⟨_, _, hsave, ⟨⟨k0, p, keysOf (cs.take a), p :: pagesOf (cs.take a)⟩, [⟨keyOf s, S.nx + 1, keysOf (cs.drop a), (S.nx + 1) :: pagesOf (cs.drop a)⟩], chain_two (s := s) rfl hs ?_ ?_, rfl, rfl, ?_, by simp, fun y hy => ?_, ?_, ?_, fun q => ?_, fun h => by simp at h, fun _ => by omega⟩, by rw [f3]; omega, by rw [f3]; omega, f4, f5⟩
    · exact ⟨cs.take a, (inner_len hg hcA (hbt a)).1 hA, chain_mono hcA (fun y hy => hfr y (List.mem_of_mem_take hy)), hbt a, rfl, rfl, by rw [f1, List.map_take]⟩
    · exact ⟨cs.drop a, (inner_len hg hcB (hbd a)).1 hB, chain_mono hcB (fun y hy => hfr y (List.mem_of_mem_drop hy)), hbd a, rfl, rfl, by rw [f2, List.map_drop]⟩
    · show [(⟨(itC cs[a]).key, ⟨#[]⟩, S.nx + 1⟩ : It)] = [⟨keyOf s, ⟨#[]⟩, S.nx + 1⟩]
      rw [show (itC cs[a]).key = keyOf s from hka]
    · obtain rfl : y = _ := by simpa using hy
      exact ⟨Nat.le_refl 3, by show S.nx + 1 < 65536; omega⟩
    · rw [keysOf_cons, keysOf_cons]
      show keysOf (cs.take a) ++ (keysOf (cs.drop a) ++ keysOf []) = _
      rw [show keysOf [] = [] from rfl, List.append_nil, ← keysOf_append, List.take_append_drop]
    · rw [pagesOf_cons, pagesOf_cons]
      show ((p :: pagesOf (cs.take a)) ++ (((S.nx + 1) :: pagesOf (cs.drop a)) ++ [])).Nodup
      rw [List.append_nil]
      have h1 : (p :: (pagesOf (cs.take a) ++ pagesOf (cs.drop a))).Nodup := by rw [hpt]; exact hnd
      refine (List.Perm.nodup_iff (List.perm_middle (a := S.nx + 1) (l₁ := p :: pagesOf (cs.take a)) (l₂ := pagesOf (cs.drop a)))).2 (List.nodup_cons.2 ⟨fun h => ?_, h1⟩)
      rw [List.cons_append, hpt] at h
      rcases List.mem_cons.1 h with h | h
      · omega
      · have := hpg _ h
        omega
    · rw [f3, pagesOf_cons, pagesOf_cons]
      show q ∈ (p :: pagesOf (cs.take a)) ++ (((S.nx + 1) :: pagesOf (cs.drop a)) ++ []) ↔ _
      rw [List.append_nil, ← hpt]
      simp only [List.mem_append, List.mem_cons]
      constructor
      · rintro ((h | h) | h | h)
        · exact .inl (.inl h)
        · exact .inl (.inr (.inl h))
        · exact .inr (by omega)
        · exact .inl (.inr (.inr h))
      · rintro ((h | h | h) | h)
        · exact .inl (.inl h)
        · exact .inl (.inr h)
        · exact .inr (.inr h)
        · exact .inr (.inl (by omega))
#print axioms leaf_save
#print axioms inner_save
end Go.Proofs.YtkmbkgjfhjjicaaT
