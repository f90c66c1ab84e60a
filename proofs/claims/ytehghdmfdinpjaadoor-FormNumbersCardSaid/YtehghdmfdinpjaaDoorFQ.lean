/- Forms: the plain laws of Write and Same. -/
import Derived.Test.YtehghdmfdinpjaaDoorFS
import Derived.Test.YtehghdmfdinpjaaDoorPAllx3
namespace Go.Proofs.YtehghdmfdinpjaaDoorF
open Go.RowKit Go.Proofs Go.Proofs.YtehghdmfdinpjaaDoorW.PrintWords Go.Proofs.YtehghdmfdinpjaaDoorW.PrintLast
open Go.Proofs.YtehghdmfdinpjaaDoor.PAll (S24 k24 z24 tambourref04_Same.f tambourref04_Same.j0 tambourref04_Same.l0)

/-! ### What Write gives, without the state -/
mutual
/-- A form, all through. -/
def okF : S24 → Bool
  | ⟨false, _, is⟩ => is.isEmpty
  | ⟨true, t, is⟩ => t.data.toList.isEmpty && okL is
def okL : List S24 → Bool
  | [] => true
  | x :: xs => okF x && okL xs
end
mutual
def byF : S24 → List UInt8
  | ⟨false, t, _⟩ => numT t
  | ⟨true, _, is⟩ => [40] ++ byL is ++ [41]
def byL : List S24 → List UInt8
  | [] => []
  | x :: xs => byF x ++ byL xs
end
mutual
/-- How deep the lists go. -/
def deF : S24 → Nat
  | ⟨false, _, _⟩ => 0
  | ⟨true, _, is⟩ => deL is + 1
def deL : List S24 → Nat
  | [] => 0
  | x :: xs => max (deF x) (deL xs)
end
/-! Once wrong, too deep or too long, always so. -/
theorem mid1_er (d : Nat) (s : WS) : (mid1 d s).er = s.er := by unfold mid1; split <;> rfl
theorem mid1_dp (d : Nat) (s : WS) : (mid1 d s).dp = (s.dp || decide (8 < d + 1)) := by
  unfold mid1; split
  · rename_i h; simp [h]
  · rename_i h; simp [h]
theorem mid1_bs (d : Nat) (s : WS) : (mid1 d s).bs = s.bs := by unfold mid1; split <;> rfl
/-- What is told of put: wrong iff a part is no form; else, if it stays short and flat, the bytes. -/
structure Told (d : Nat) (s s' : WS) (ok : Bool) (by_ : List UInt8) (dp : Bool) : Prop where
  er : s'.er = (s.er || !ok)
  dpe : ok = true → s'.dp = (s.dp || dp)
  len : s.bs.length ≤ s'.bs.length
  bs : ok = true → d ≤ 8 → dp = false → s'.bs.length ≤ 65536 → s'.bs = s.bs ++ by_
theorem Told.trans {d : Nat} {s s1 s2 : WS} {ok1 ok2 dp1 dp2 : Bool} {b1 b2 : List UInt8} (h1 : Told d s s1 ok1 b1 dp1) (h2 : Told d s1 s2 ok2 b2 dp2) : Told d s s2 (ok1 && ok2) (b1 ++ b2) (dp1 || dp2) := by
  refine ⟨?_, fun h => ?_, Nat.le_trans h1.len h2.len, fun h h8 hd hl => ?_⟩
  · rw [h2.er, h1.er]; cases s.er <;> cases ok1 <;> cases ok2 <;> rfl
  · simp only [Bool.and_eq_true] at h
    rw [h2.dpe h.2, h1.dpe h.1, Bool.or_assoc]
  · simp only [Bool.and_eq_true] at h
    simp only [Bool.or_eq_false_iff] at hd
    have hl1 := h2.len
    rw [h2.bs h.2 h8 hd.2 hl, h1.bs h.1 h8 hd.1 (by omega), List.append_assoc]
theorem told_bad {d : Nat} {s : WS} {by_ : List UInt8} {dp : Bool} : Told d s { s with er := true } false by_ dp := ⟨by simp, fun h => (by cases h), Nat.le_refl _, fun h => (by cases h)⟩
theorem big_iff (d : Nat) (s : WS) : bigF d s = true ↔ 8 < d ∨ 65536 < s.bs.length := by simp [bigF]
mutual
theorem putF_told : ∀ (x : S24) (d : Nat) (s : WS), Told d s (putF x d s) (okF x) (byF x) (decide (8 < d + deF x) && decide (0 < deF x))
  | ⟨false, t, []⟩, d, s => by
    rw [putF_text, okF, byF, deF]
    by_cases hb : bigF d s = true
    · rw [if_pos hb]
      rw [big_iff] at hb
      exact ⟨by simp, fun _ => by simp, Nat.le_refl _, fun _ h8 _ hl => by omega⟩
    · rw [if_neg hb]
      exact ⟨by simp, fun _ => by simp, by simp, fun _ _ _ _ => rfl⟩
  | ⟨false, t, y :: is⟩, d, s => by
    rw [putF_bad (by simp), okF, byF, deF]
    exact told_bad
  | ⟨true, t, is⟩, d, s => by
    by_cases ht : t.toList.isEmpty = true
    · obtain rfl := toList_empty ht
      have h := putL_told is (d + 1) (mid2 d s)
      rw [putF_list, okF, byF, deF]
      have e0 : (({ data := #[] } : ByteArray).data.toList.isEmpty && okL is) = okL is := rfl
      rw [e0]
      generalize putL is (d + 1) (mid2 d s) = s' at h ⊢
      have m1 : (mid2 d s).er = s.er := by unfold mid2; split <;> exact mid1_er d s
      have m2 : (mid2 d s).dp = (s.dp || decide (8 < d + 1)) := by unfold mid2; split <;> exact mid1_dp d s
      have k1 : (mid4 (bigF d s) s').er = s'.er := by unfold mid4; split <;> rfl
      have k2 : (mid4 (bigF d s) s').dp = s'.dp := by unfold mid4; split <;> rfl
      have k3 : s'.bs.length ≤ (mid4 (bigF d s) s').bs.length := by unfold mid4; split <;> simp
      have m3 : s.bs.length ≤ (mid2 d s).bs.length := by have := mid1_len d s; unfold mid2; split <;> simp <;> omega
      refine ⟨by rw [k1, h.er, m1], fun ho => ?_, Nat.le_trans m3 (Nat.le_trans h.len k3), fun ho h8 hd hl => ?_⟩
      · rw [k2, h.dpe ho, m2, Bool.or_assoc]
        congr 1
        rw [Bool.eq_iff_iff]
        simp only [Bool.or_eq_true, Bool.and_eq_true, decide_eq_true_eq]
        omega
      · have hd' : ¬ 8 < d + (deL is + 1) := by
          intro hh
          rw [decide_eq_true hh, decide_eq_true (Nat.succ_pos _)] at hd
          cases hd
        have hd2 : (decide (8 < d + 1 + deL is) && decide (0 < deL is)) = false := by rw [decide_eq_false (by omega)]; rfl
        have hl2 := h.len
        have hnb : ¬ bigF d s = true := by rw [big_iff]; omega
        have hs' := h.bs ho (by omega) hd2 (by omega)
        rw [mid4, if_neg hnb]
        rw [mid2, if_neg hnb] at hs'
        show s'.bs ++ [41] = _
        rw [hs']
        show (mid1 d s).bs ++ [40] ++ byL is ++ [41] = _
        rw [mid1_bs]
        simp
    · have ht' : t.toList.isEmpty = false := by simpa using ht
      rw [putF_bad (by rw [ht']; rfl), okF]
      have : (t.data.toList.isEmpty && okL is) = false := by rw [← ByteArray.toList_eq, ht']; rfl
      rw [this]
      exact told_bad
theorem putL_told : ∀ (is : List S24) (d : Nat) (s : WS), Told d s (putL is d s) (okL is) (byL is) (decide (8 < d + deL is) && decide (0 < deL is))
  | [], d, s => by
    rw [putL, okL, byL, deL]
    exact ⟨by simp, fun _ => by simp, Nat.le_refl _, fun _ _ _ _ => by simp⟩
  | x :: is, d, s => by
    have h := (putF_told x d s).trans (putL_told is d (putF x d s))
    rw [putL, okL, byL, deL]
    have e : (decide (8 < d + deF x) && decide (0 < deF x) || decide (8 < d + deL is) && decide (0 < deL is)) = (decide (8 < d + max (deF x) (deL is)) && decide (0 < max (deF x) (deL is))) := by
      rw [Bool.eq_iff_iff]
      simp only [Bool.or_eq_true, Bool.and_eq_true, decide_eq_true_eq]
      omega
    rw [e] at h
    exact h
end
/-- Where Write has no error the form is one, and the text is its bytes. -/
theorem writeF_none {x : S24} {s : ByteArray} (h : writeF x = (s, none)) : okF x = true ∧ s = ⟨(byF x).toArray⟩ := by
  have ht := putF_told x 0 ⟨[], false, false⟩
  unfold writeF at h
  generalize putF x 0 ⟨[], false, false⟩ = s' at h ht
  simp only at h
  have he : s'.er = false := by
    cases hh : s'.er with
    | false => rfl
    | true => rw [hh, if_pos rfl] at h; cases h
  rw [he, if_neg (by decide)] at h
  have hok : okF x = true := by
    have := ht.er
    rw [he] at this
    simpa using this
  have hc : (s'.dp || decide (65536 < s'.bs.length)) = false := by
    cases hh : (s'.dp || decide (65536 < s'.bs.length)) with
    | false => rfl
    | true => rw [hh, if_pos rfl] at h; cases h
  rw [hc, if_neg (by decide)] at h
  simp only [Bool.or_eq_false_iff, decide_eq_false_iff_not] at hc
  have hdp := ht.dpe hok
  rw [hc.1] at hdp
  have hb := ht.bs hok (by omega) (by simpa using hdp.symm) (by omega)
  cases h
  rw [hb]
  exact ⟨hok, rfl⟩
/-! ### The bytes of a form tell it, and where it ends -/
theorem dec_digit : ∀ (u : Nat), ∀ c ∈ Lib.decDigits u, 48 ≤ c.toNat ∧ c.toNat ≤ 57 := by
  intro u
  induction u using Nat.strongRecOn with
  | _ u ih =>
  intro c hc
  rw [Lib.decDigits] at hc
  split at hc
  · rename_i h
    rw [List.mem_singleton] at hc
    subst hc
    rw [UInt8.toNat_ofNat']
    omega
  · rename_i h
    rcases List.mem_append.1 hc with hc | hc
    · exact ih (u / 10) (by omega) c hc
    · rw [List.mem_singleton] at hc
      subst hc
      rw [UInt8.toNat_ofNat']
      omega
def valD (l : List UInt8) : Nat := l.foldl (fun a c => a * 10 + (c.toNat - 48)) 0
theorem val_dec : ∀ u : Nat, valD (Lib.decDigits u) = u := by
  intro u
  induction u using Nat.strongRecOn with
  | _ u ih =>
  rw [Lib.decDigits]
  split
  · rename_i h
    simp only [valD, List.foldl_cons, List.foldl_nil, UInt8.toNat_ofNat']
    omega
  · rename_i h
    have := ih (u / 10) (by omega)
    rw [valD] at this
    rw [valD, List.foldl_append, this]
    simp only [List.foldl_cons, List.foldl_nil, UInt8.toNat_ofNat']
    omega
theorem dec_ne (u : Nat) : Lib.decDigits u ≠ [] := by
  intro h
  have := val_dec u
  rw [Lib.decDigits] at h
  split at h <;> simp at h
theorem itoa_nat (n : Nat) : Lib.itoa (n : Int) = Lib.decDigits n := by
  rw [Lib.itoa, if_neg (by omega), Int.toNat_natCast]
theorem split58 : ∀ {l1 l2 x y : List UInt8}, (∀ c ∈ l1, c ≠ 58) → (∀ c ∈ l2, c ≠ 58) → l1 ++ 58 :: x = l2 ++ 58 :: y → l1 = l2 ∧ x = y
  | [], [], x, y, _, _, h => by simpa using h
  | [], c :: l2, x, y, _, h2, h => by
    simp only [List.nil_append, List.cons_append, List.cons.injEq] at h
    exact absurd h.1.symm (h2 c (by simp))
  | c :: l1, [], x, y, h1, _, h => by
    simp only [List.nil_append, List.cons_append, List.cons.injEq] at h
    exact absurd h.1 (h1 c (by simp))
  | c :: l1, d :: l2, x, y, h1, h2, h => by
    simp only [List.cons_append, List.cons.injEq] at h
    obtain ⟨rfl, h⟩ := h
    obtain ⟨rfl, rfl⟩ := split58 (fun c hc => h1 c (by simp [hc])) (fun c hc => h2 c (by simp [hc])) h
    exact ⟨rfl, rfl⟩
theorem dec_58 (u : Nat) : ∀ c ∈ Lib.decDigits u, c ≠ 58 := fun c hc e => by
  have := dec_digit u c hc
  subst e
  revert this
  decide
theorem numT_split {t u : ByteArray} {r q : List UInt8} (h : numT t ++ r = numT u ++ q) : t = u ∧ r = q := by
  simp only [numT, itoa_nat, List.append_assoc, List.singleton_append, List.cons_append, List.nil_append] at h
  obtain ⟨h1, h2⟩ := split58 (dec_58 _) (dec_58 _) h
  have hs : t.size = u.size := by rw [← val_dec t.size, h1, val_dec]
  have hl : t.data.toList.length = u.data.toList.length := by rw [Array.length_toList, Array.length_toList]; exact hs
  obtain ⟨h3, h4⟩ := List.append_inj h2 hl
  refine ⟨?_, h4⟩
  obtain ⟨⟨x⟩⟩ := t
  obtain ⟨⟨y⟩⟩ := u
  exact congrArg (fun l : List UInt8 => (⟨⟨l⟩⟩ : ByteArray)) h3
theorem numT_head (t : ByteArray) : ∃ c l, numT t = c :: l ∧ 48 ≤ c.toNat ∧ c.toNat ≤ 57 := by
  rw [numT, itoa_nat]
  have hd := dec_digit t.size
  cases h : Lib.decDigits t.size with
  | nil => exact absurd h (dec_ne _)
  | cons c l =>
    rw [h] at hd
    exact ⟨c, l ++ ([58] ++ t.data.toList), by simp, hd c (by simp)⟩
theorem byF_head (x : S24) : ∃ c l, byF x = c :: l ∧ c ≠ 41 := by
  obtain ⟨l, t, is⟩ := x
  cases l with
  | false =>
    rw [byF]
    obtain ⟨c, l, h, h1, h2⟩ := numT_head t
    exact ⟨c, l, h, fun e => by subst e; revert h1; decide⟩
  | true =>
    rw [byF]
    exact ⟨40, byL is ++ [41], by simp, by decide⟩
mutual
theorem byF_inj : ∀ (a b : S24) (r q : List UInt8), okF a = true → okF b = true → byF a ++ r = byF b ++ q → a = b ∧ r = q
  | ⟨false, t, is⟩, b, r, q, ha, hb, h => by
    have hi : is = [] := by rw [okF] at ha; simpa using ha
    subst hi
    obtain ⟨l, u, js⟩ := b
    cases l with
    | false =>
      have hj : js = [] := by rw [okF] at hb; simpa using hb
      subst hj
      rw [byF, byF] at h
      obtain ⟨rfl, rfl⟩ := numT_split h
      exact ⟨rfl, rfl⟩
    | true =>
      rw [byF, byF] at h
      obtain ⟨c, l, h0, h1, h2⟩ := numT_head t
      rw [h0] at h
      simp only [List.cons_append, List.singleton_append, List.cons.injEq] at h
      rw [h.1] at h1
      exact absurd h1 (by decide)
  | ⟨true, t, is⟩, b, r, q, ha, hb, h => by
    obtain ⟨l, u, js⟩ := b
    cases l with
    | false =>
      rw [byF, byF] at h
      obtain ⟨c, l, h0, h1, h2⟩ := numT_head u
      rw [h0] at h
      simp only [List.cons_append, List.singleton_append, List.cons.injEq] at h
      rw [← h.1] at h1
      exact absurd h1 (by decide)
    | true =>
      rw [okF, Bool.and_eq_true] at ha hb
      rw [byF, byF] at h
      simp only [List.append_assoc, List.singleton_append, List.cons_append, List.nil_append, List.cons.injEq, true_and] at h
      obtain ⟨rfl, rfl⟩ := byL_inj is js r q ha.2 hb.2 h
      have e1 : t = ⟨#[]⟩ := toList_empty (by rw [ByteArray.toList_eq]; exact ha.1)
      have e2 : u = ⟨#[]⟩ := toList_empty (by rw [ByteArray.toList_eq]; exact hb.1)
      rw [e1, e2]
      exact ⟨rfl, rfl⟩
theorem byL_inj : ∀ (xs ys : List S24) (r q : List UInt8), okL xs = true → okL ys = true → byL xs ++ 41 :: r = byL ys ++ 41 :: q → xs = ys ∧ r = q
  | [], [], r, q, _, _, h => by
    rw [byL] at h
    simp only [List.nil_append, List.cons.injEq, true_and] at h
    exact ⟨rfl, h⟩
  | [], b :: ys, r, q, _, _, h => by
    rw [byL, byL] at h
    obtain ⟨c, l, h0, h1⟩ := byF_head b
    rw [h0] at h
    simp only [List.nil_append, List.cons_append, List.cons.injEq] at h
    exact absurd h.1.symm h1
  | a :: xs, [], r, q, _, _, h => by
    rw [byL, byL] at h
    obtain ⟨c, l, h0, h1⟩ := byF_head a
    rw [h0] at h
    simp only [List.nil_append, List.cons_append, List.cons.injEq] at h
    exact absurd h.1 h1
  | a :: xs, b :: ys, r, q, ha, hb, h => by
    rw [okL, Bool.and_eq_true] at ha hb
    rw [byL, byL, List.append_assoc, List.append_assoc] at h
    obtain ⟨rfl, h2⟩ := byF_inj a b _ _ ha.1 hb.1 h
    obtain ⟨rfl, rfl⟩ := byL_inj xs ys r q ha.2 hb.2 h2
    exact ⟨rfl, rfl⟩
end
/-! ### Same -/
theorem wtL_drop : ∀ (is : List S24) (i : Nat), wtL (is.drop i) ≤ wtL is
  | [], i => by simp
  | x :: is, 0 => by simp
  | x :: is, i + 1 => by
    have := wtL_drop is i
    rw [List.drop_succ_cons]
    have : wtL (x :: is) = wt x + wtL is := by rw [wtL]
    omega
theorem wrap_succ {i : Nat} (h : i ≤ 200000) : wrap64 ((i : Int) + 1) = ((i + 1 : Nat) : Int) := by unfold wrap64; omega
theorem rd_at {is : List S24} {i : Nat} {x : S24} (h : is[i]? = some x) : Go.Proofs.YtehghdmfdinpjaaDoor.PAll.rd_T24 is (i : Int) = x := by
  simp [Go.Proofs.YtehghdmfdinpjaaDoor.PAll.rd_T24, List.getD, h]
theorem ba_eq {s t : ByteArray} : s.toList = t.toList ↔ s = t := by
  rw [ByteArray.toList_eq, ByteArray.toList_eq]
  exact ⟨fun h => by obtain ⟨⟨x⟩⟩ := s; obtain ⟨⟨y⟩⟩ := t; exact congrArg (fun l : List UInt8 => (⟨⟨l⟩⟩ : ByteArray)) h, fun h => by rw [h]⟩
theorem same_all : ∀ (n : Nat) (a b : S24), wt a ≤ n → n ≤ 170000 → ∀ k, wt a ≤ k → ∃ r, tambourref04_Same.f k a.f0 a.f1 a.f2 b.f0 b.f1 b.f2 = some r ∧ (r = true ↔ a = b) := by
  intro n
  induction n with
  | zero => intro a b h; have := wt_pos a; omega
  | succ n ih =>
  intro a b ha hn k hk
  obtain ⟨l, t, is⟩ := a
  obtain ⟨l', t', js⟩ := b
  simp only at *
  have hw : wt ⟨l, t, is⟩ = t.size + 30 + wtL is := by rw [wt]
  obtain ⟨k, rfl⟩ : ∃ k', k = k' + 3 := ⟨k - 3, by omega⟩
  have hj0 : ∀ m, tambourref04_Same.j0 (m + 1) true l t is l' t' js = some false := fun m => rfl
  by_cases hl : l = l'
  · subst hl
    by_cases ht : t = t'
    · subst ht
      by_cases hlen : is.length = js.length
      · have loop : ∀ (m i : Nat), i + m = is.length → ∀ k, wtL (is.drop i) + 1 ≤ k → ∃ r, tambourref04_Same.l0 k (i : Int) l t is l t js = some r ∧ (r = true ↔ is.drop i = js.drop i) := by
          intro m
          induction m with
          | zero =>
            intro i hi k hk
            obtain ⟨k, rfl⟩ : ∃ k', k = k' + 1 := ⟨k - 1, by omega⟩
            refine ⟨true, ?_, ?_⟩
            · rw [tambourref04_Same.l0, if_neg (by omega)]
            · rw [List.drop_of_length_le (by omega), List.drop_of_length_le (by omega)]; simp
          | succ m ihm =>
            intro i hi k hk
            obtain ⟨k, rfl⟩ : ∃ k', k = k' + 1 := ⟨k - 1, by omega⟩
            have h1 : i < is.length := by omega
            have h2 : i < js.length := hlen ▸ h1
            have p1 : (i : Int) < (is.length : Int) := Int.ofNat_lt.2 h1
            have p2 : (0 : Int) ≤ (i : Int) := Int.natCast_nonneg _
            have p3 : (i : Int) < (js.length : Int) := Int.ofNat_lt.2 h2
            have d1 : is.drop i = is[i] :: is.drop (i + 1) := List.drop_eq_getElem_cons h1
            have d2 : js.drop i = js[i] :: js.drop (i + 1) := List.drop_eq_getElem_cons h2
            have hwd : wtL (is.drop i) = wt is[i] + wtL (is.drop (i + 1)) := by rw [d1, wtL]
            have hle : wtL (is.drop i) ≤ wtL is := wtL_drop is i
            have hp := wt_pos is[i]
            have hge := wtL_ge is
            obtain ⟨r, hr, hr2⟩ := ih is[i] js[i] (by omega) (by omega) k (by omega)
            have e1 : Go.Proofs.YtehghdmfdinpjaaDoor.PAll.rd_T24 is (i : Int) = is[i] := rd_at (List.getElem?_eq_getElem h1)
            have e2 : Go.Proofs.YtehghdmfdinpjaaDoor.PAll.rd_T24 js (i : Int) = js[i] := rd_at (List.getElem?_eq_getElem h2)
            have hwr : wrap64 ((i : Int) + 1) = ((i + 1 : Nat) : Int) := by
              exact wrap_succ (by omega)
            rw [tambourref04_Same.l0, if_pos p1, if_pos p2, if_pos p3, e1, e2, hr, Option.bind_some, hwr, d1, d2]
            cases r with
            | false =>
              refine ⟨false, rfl, ?_⟩
              constructor
              · intro h; cases h
              · intro h; injection h with h1 _; exact absurd (hr2.2 h1) (by decide)
            | true =>
              obtain ⟨r', hr', hr2'⟩ := ihm (i + 1) (by omega) k (by omega)
              refine ⟨r', by rw [if_pos rfl]; exact hr', ?_⟩
              constructor
              · intro h; exact congr (congrArg List.cons (hr2.1 rfl)) (hr2'.1 h)
              · intro h; injection h with _ h; exact hr2'.2 h
        obtain ⟨r, hr, hr2⟩ := loop is.length 0 (by omega) (k + 1) (by rw [List.drop_zero]; omega)
        refine ⟨r, ?_, ?_⟩
        · rw [tambourref04_Same.f, if_neg (by simp), if_pos rfl]
          have : ((is.length : Int) != (js.length : Int)) = false := by rw [hlen]; simp
          rw [this, tambourref04_Same.j0, if_neg (by decide)]
          exact hr
        · rw [hr2]; simp
      · refine ⟨false, ?_, ?_⟩
        · rw [tambourref04_Same.f, if_neg (by simp), if_pos rfl]
          have : ((is.length : Int) != (js.length : Int)) = true := by simp; omega
          rw [this, hj0]
        · constructor
          · intro h; cases h
          · intro h; injection h with _ _ h; exact absurd (congrArg List.length h) hlen
    · refine ⟨false, ?_, ?_⟩
      · rw [tambourref04_Same.f, if_neg (by simp), if_neg (fun h => ht (ba_eq.1 h)), hj0]
      · constructor
        · intro h; cases h
        · intro h; injection h with _ h _; exact absurd h ht
  · refine ⟨false, ?_, ?_⟩
    · rw [tambourref04_Same.f, if_pos (by simp [hl]), hj0]
    · constructor
      · intro h; cases h
      · intro h; injection h with h _ _; exact absurd h hl
theorem same_eq (a b : S24) (ha : wt a ≤ 170000) (hb : wt b ≤ 170000) : ∃ k r, tambourref04_Same.f k a.f0 a.f1 a.f2 b.f0 b.f1 b.f2 = some r ∧ (r = true ↔ a = b) := ⟨wt a, same_all (wt a) a b (Nat.le_refl _) ha (wt a) (Nat.le_refl _)⟩
#print axioms same_eq
theorem write_inj {a b : S24} {s t : ByteArray} (ha : writeF a = (s, none)) (hb : writeF b = (t, none)) (h : s = t) : a = b := by
  obtain ⟨oa, ea⟩ := writeF_none ha
  obtain ⟨ob, eb⟩ := writeF_none hb
  rw [ea, eb] at h
  have h2 : byF a = byF b := by
    have := congrArg (fun s : ByteArray => s.data.toList) h
    simpa using this
  exact (byF_inj a b [] [] oa ob (by rw [h2])).1
#print axioms write_inj
end Go.Proofs.YtehghdmfdinpjaaDoorF
