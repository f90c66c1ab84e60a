/- Tree, plain law: a key is put, from the root. -/
import Derived.Test.YtkmbkgjfhjjicaaT5
namespace Go.Proofs.YtkmbkgjfhjjicaaT
open Go.RowKit Go.Maps Go.Proofs Go.Proofs.YtkmbkgjfhjjicaaW.PrintWords Go.Proofs.YtkmbkgjfhjjicaaW.PrintLast

structure TreeAt (S : Pg) (vl : ByteArray) (d : Nat) (c : Ch) : Prop where
  sub : Sub S vl d 0 65536 c
  nodup : c.pages.Nodup
  all : ∀ q, (S.f q).isSome = true ↔ q ∈ c.pages
  pos : ∀ q ∈ c.pages, 0 < q ∧ q ≤ S.nx
  fresh : Fresh S
/-- The tree after so many puts: no deeper than these allow. -/
def State (S : Pg) (vl : ByteArray) (root : Nat) (K : List Nat) (cnt : Nat) : Prop :=
  S.nx ≤ 20 * cnt ∧ ((root = 0 ∧ K = [] ∧ ∀ q, S.f q = none) ∨ ∃ d c, TreeAt S vl d c ∧ c.page = root ∧ c.keys = K ∧ (1 ≤ d → 84 * (d - 1) + nodeLen S c.page ≤ cnt + 2))
theorem putRoot_ok {S : Pg} {n : Nat} {vl : ByteArray} (hv : vl.size ≤ 400) (hnx : S.nx ≤ 60000) : ¬ ((keyOf n).size = 0 ∨ 40 < (keyOf n).size ∨ 400 < vl.size ∨ 60000 < S.nx) := by
  rw [key_size]
  omega
theorem sub_sorted {S : Pg} {vl : ByteArray} {d lo hi : Nat} {c : Ch} (h : Sub S vl d lo hi c) : Sorted c.keys := (sub_good S vl d _ _ _ h).2.1
theorem put_tree {vl : ByteArray} (hv : vl.size ≤ 400) {S : Pg} {root : Nat} {K : List Nat} {cnt n : Nat} (h : State S vl root K cnt) (hc : cnt < 600) (hn : n < 65536) :
    ∃ S' root' K', putRoot S root (keyOf n) vl = some (S', root') ∧ State S' vl root' K' (cnt + 1) ∧ Sorted K' ∧ (∀ x, x ∈ K' ↔ x = n ∨ x ∈ K) ∧ K' ≠ [] := by
  obtain ⟨hnx, h⟩ := h
  rcases h with ⟨rfl, rfl, hemp⟩ | ⟨d, c, ht, rfl, rfl, hdep⟩
  · -- the first key
    have hok : okN ⟨true, [n].map (itL vl)⟩ = true := okN_leaf hv (by simp) (by simp) (List.pairwise_singleton _ _) (fun x hx => by
      obtain rfl : x = n := by simpa using hx
      exact hn)
    have hs : (S.new.f (S.nx + 1)).isSome = true := by unfold Pg.new; simp
    have hl : (encN ⟨true, [n].map (itL vl)⟩).length ≤ 512 := (leaf_len vl hv [n]).2 (by simpa using (cap_pos vl hv).1)
    refine ⟨S.new.set (S.nx + 1) ⟨true, [n].map (itL vl)⟩, S.nx + 1, [n], ?_, ⟨?_, .inr ⟨0, ⟨⟨#[]⟩, S.nx + 1, [n], [S.nx + 1]⟩, ⟨⟨by simp, by simpa using (cap_pos vl hv).1, List.pairwise_singleton _ _, fun x hx => ?_, rfl, set_at _ _ _⟩, by simp, fun q => ?_, fun q hq => ?_, ?_⟩, rfl, rfl, fun h => by omega⟩⟩, List.pairwise_singleton _ _, fun x => by simp, by simp⟩
    · unfold putRoot
      rw [if_neg (putRoot_ok hv (by omega)), if_pos rfl]
      show (S.new.put (S.nx + 1) ⟨true, [n].map (itL vl)⟩).map _ = _
      rw [put_some hok hl hs]
      rfl
    · show S.nx + 1 ≤ _
      omega
    · obtain rfl : x = n := by simpa using hx
      exact ⟨Nat.zero_le _, hn⟩
    · by_cases hq : q = S.nx + 1
      · subst hq
        rw [set_at]
        simp
      · rw [set_other _ _ hq, new_other _ hq, hemp]
        simp [hq]
    · obtain rfl : q = S.nx + 1 := by simpa using hq
      exact ⟨Nat.succ_pos _, Nat.le_refl _⟩
    · exact fun q hq => by
        have hq : S.nx + 1 < q := hq
        rw [set_other _ _ (by omega), new_other _ (by omega), hemp]
  · -- another one
    have hpos := sub_page ht.sub
    have hroot : c.page ≠ 0 := by have := (ht.pos _ hpos).1; omega
    have hd : d ≤ 9 := by
      by_cases h1 : 1 ≤ d
      · have := hdep h1
        omega
      · omega
    obtain ⟨S1, more, hput, hres⟩ := put_sub hv hn d 100 S 0 65536 c (by omega) ht.sub (Nat.zero_le _) hn (Nat.le_refl _) (by omega) ht.fresh ht.nodup (fun q hq => (ht.pos q hq).2)
    obtain ⟨c1, rest, o1, o2, o3, o4, o5, o6, o7, o8, o9, o10, o11⟩ := hres.out
    have hn1 := hres.nx1
    have hn2 := hres.nx2
    have hall : ∀ q, (S1.f q).isSome = true → q ∈ c.pages ∨ (S.nx < q ∧ q ≤ S1.nx) := by
      intro q hq
      by_cases hqn : q ≤ S.nx
      · by_cases hqc : q ∈ c.pages
        · exact .inl hqc
        · rw [hres.frame q hqn hqc] at hq
          exact .inl ((ht.all q).1 hq)
      · by_cases hq1 : q ≤ S1.nx
        · exact .inr ⟨by omega, hq1⟩
        · rw [hres.fresh q (by omega)] at hq
          cases hq
    have hroot2 : putRoot S c.page (keyOf n) vl = growF 100 S1 c.page more := by
      unfold putRoot
      rw [if_neg (putRoot_ok hv (by omega)), if_neg hroot, hput]
      rfl
    rw [hroot2]
    cases rest with
    | nil =>
      subst o4
      have hsub : Sub S1 vl d 0 65536 c1 := o1
      have hp1 : pagesOf [c1] = c1.pages := by rw [pagesOf_cons]; exact List.append_nil _
      have hk1 : keysOf [c1] = c1.keys := by rw [keysOf_cons]; exact List.append_nil _
      rw [hp1] at o8
      refine ⟨S1, c.page, c1.keys, rfl, ⟨by omega, .inr ⟨d, c1, ⟨hsub, o8, fun q => ⟨fun h => ?_, fun h => sub_some hsub h⟩, fun q hq => ?_, hres.fresh⟩, o2, rfl, fun h => ?_⟩⟩, sub_sorted hsub, fun x => by rw [← hk1]; exact o7 x, (sub_good S1 vl d _ _ _ hsub).1⟩
      · rw [← hp1]
        exact (o9 q).2 (hall q h)
      · rw [← hp1] at hq
        rcases (o9 q).1 hq with h | h
        · have := ht.pos q h
          omega
        · omega
      · have := o10 rfl
        have := hdep h
        rw [o2]
        omega
    | cons c2 rest =>
      have hr0 : rest = [] := List.eq_nil_of_length_eq_zero (by simp only [List.length_cons] at o5; omega)
      subst hr0
      subst o4
      obtain ⟨s, e1, e2, e3, e4⟩ := o1
      have e4 : Sub S1 vl d s 65536 c2 := e4
      have hpc : pagesOf [c1, c2] = c1.pages ++ c2.pages := by rw [pagesOf_cons, pagesOf_cons]; show c1.pages ++ (c2.pages ++ []) = _; rw [List.append_nil]
      have hkc : keysOf [c1, c2] = c1.keys ++ c2.keys := by rw [keysOf_cons, keysOf_cons]; show c1.keys ++ (c2.keys ++ []) = _; rw [List.append_nil]
      have hb : ∀ x ∈ [(⟨⟨#[]⟩, c.page, c1.keys, c1.pages⟩ : Ch), c2], x.key.size ≤ 3 ∧ x.page < 65536 := by
        intro x hx
        rcases List.mem_cons.1 hx with rfl | hx
        · exact ⟨Nat.zero_le _, by have := (ht.pos _ hpos).2; show c.page < 65536; omega⟩
        · exact o6 x hx
      have hle : ∀ q, q ∈ c1.pages ++ c2.pages → q ≤ S1.nx ∧ 0 < q := fun q hq => by
        rw [← hpc] at hq
        rcases (o9 q).1 hq with h | h
        · have := ht.pos q h
          omega
        · omega
      obtain ⟨nd, hnd⟩ : ∃ nd : Nd, nd = ⟨false, [(⟨⟨#[]⟩, c.page, c1.keys, c1.pages⟩ : Ch), c2].map itC⟩ := ⟨_, rfl⟩
      have hfr : ∀ (S' : Pg), (∀ q, q ≤ S1.nx → S'.f q = S1.f q) → Chain (Sub S' vl d) 0 65536 [(⟨⟨#[]⟩, c.page, c1.keys, c1.pages⟩ : Ch), c2] := fun S' hS => by
        refine chain_two e1 e2 ?_ (sub_frame e4 (fun q hq => hS q (hle q (List.mem_append_right _ hq)).1))
        have h := sub_rekey (k := ⟨#[]⟩) (sub_frame e3 (S' := S') (fun q hq => hS q (hle q (List.mem_append_left _ hq)).1))
        rw [o2] at h
        exact h
      have hnew : ∀ q, q ≤ S1.nx → S1.new.f q = S1.f q := fun q hq => new_other _ (by omega)
      have hset : ∀ q, q ≤ S1.nx → (S1.new.set (S1.nx + 1) nd).f q = S1.f q := fun q hq => by rw [set_other _ _ (by omega)]; exact hnew q hq
      have hok : okN nd = true := by rw [hnd]; exact okN_inner (sub_good S1.new vl d) (hfr S1.new hnew) (by simp) hb
      have hl : (encN nd).length ≤ 512 := by rw [hnd]; exact (inner_len (sub_good S1.new vl d) (hfr S1.new hnew) hb).2 (by simp)
      have hs : (S1.new.f (S1.nx + 1)).isSome = true := by unfold Pg.new; simp
      have hndp : ((S1.nx + 1) :: (c1.pages ++ c2.pages)).Nodup := List.nodup_cons.2 ⟨fun h => by have := (hle _ h).1; omega, by rw [← hpc]; exact o8⟩
      have hsub : Sub (S1.new.set (S1.nx + 1) nd) vl (d + 1) 0 65536 ⟨⟨#[]⟩, S1.nx + 1, c1.keys ++ c2.keys, (S1.nx + 1) :: (c1.pages ++ c2.pages)⟩ :=
        ⟨[(⟨⟨#[]⟩, c.page, c1.keys, c1.pages⟩ : Ch), c2], by simp, hfr _ hset, hb, by rw [keysOf_cons, keysOf_cons]; show _ = c1.keys ++ (c2.keys ++ []); rw [List.append_nil], by rw [pagesOf_cons, pagesOf_cons]; show _ = _ :: (c1.pages ++ (c2.pages ++ [])); rw [List.append_nil], by rw [set_at, hnd]⟩
      refine ⟨S1.new.set (S1.nx + 1) nd, S1.nx + 1, c1.keys ++ c2.keys, ?_, ⟨?_, .inr ⟨d + 1, _, ⟨hsub, hndp, fun q => ⟨fun h => ?_, fun h => sub_some hsub h⟩, fun q hq => ?_, fun q hq => ?_⟩, rfl, rfl, fun _ => ?_⟩⟩, sub_sorted hsub, fun x => by rw [← hkc]; exact o7 x, (sub_good _ vl _ _ _ _ hsub).1⟩
      · rw [growF, if_neg (show ¬ ([c2].map itC).isEmpty = true from Bool.false_ne_true), if_neg (by simp only [List.length_map, List.length_cons, List.length_nil]; omega)]
        have hsv := save_one (k := 299) (S := S1.new) (p := S1.nx + 1) hok hl hs
        rw [hnd] at hsv
        show (saveF 300 S1.new (S1.nx + 1) ⟨false, (⟨⟨#[]⟩, ⟨#[]⟩, c.page⟩ : It) :: [c2].map itC⟩).bind _ = _
        rw [show (⟨false, (⟨⟨#[]⟩, ⟨#[]⟩, c.page⟩ : It) :: [c2].map itC⟩ : Nd) = ⟨false, [(⟨⟨#[]⟩, c.page, c1.keys, c1.pages⟩ : Ch), c2].map itC⟩ from rfl, hsv, hnd]
        rfl
      · show S1.nx + 1 ≤ _
        omega
      · show q ∈ (S1.nx + 1) :: (c1.pages ++ c2.pages)
        by_cases hq : q = S1.nx + 1
        · rw [hq]
          simp
        · rw [set_other _ _ hq, new_other _ hq] at h
          rw [← hpc]
          exact List.mem_cons_of_mem _ ((o9 q).2 (hall q h))
      · have hq : q ∈ (S1.nx + 1) :: (c1.pages ++ c2.pages) := hq
        rcases List.mem_cons.1 hq with rfl | hq
        · exact ⟨Nat.succ_pos _, Nat.le_refl _⟩
        · exact ⟨(hle q hq).2, Nat.le_succ_of_le (hle q hq).1⟩
      · have hq : S1.nx + 1 < q := hq
        rw [set_other _ _ (by omega), new_other _ (by omega)]
        exact hres.fresh q (by omega)
      · show 84 * (d + 1 - 1) + nodeLen (S1.new.set (S1.nx + 1) nd) (S1.nx + 1) ≤ cnt + 1 + 2
        rw [nodeLen_of (set_at _ _ _), hnd]
        simp only [List.length_map, List.length_cons, List.length_nil]
        by_cases h1 : 1 ≤ d
        · have := o11 (by simp) h1
          have := hdep h1
          omega
        · omega
#print axioms put_tree
end Go.Proofs.YtkmbkgjfhjjicaaT
