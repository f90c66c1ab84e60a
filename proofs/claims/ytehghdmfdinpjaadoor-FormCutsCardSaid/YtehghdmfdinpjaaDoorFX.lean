/- Forms: the plain law of Write: the document's answer is the writer's. -/
import Derived.Test.YtehghdmfdinpjaaDoorFI
import Derived.Test.YtehghdmfdinpjaaDoorPAllx5
namespace Go.Proofs.YtehghdmfdinpjaaDoorF
open Go.RowKit Go.Proofs Go.Proofs.YtehghdmfdinpjaaDoorW.PrintWords Go.Proofs.YtehghdmfdinpjaaDoorW.PrintLast Go.Proofs.YtehghdmfdinpjaaDoorW.PrintMore
open Go.Proofs.YtehghdmfdinpjaaDoor.PAll (S24 k24 z24 tambourref04_right.f tambourref04_right.l0 tambourref04_Depth.f tambourref04_Depth.l0 tambourref04_size.f tambourref04_size.l0 tambourref04_bytes.f tambourref04_bytes.l0 tambourref04_Digits.f tambourref04_Write.f)

theorem ba_append (a b : List UInt8) : ba a ++ ba b = ba (a ++ b) := by
  refine ByteArray.ext ?_
  rw [ByteArray.data_append]
  simp [ba]
theorem nil_iff (t : ByteArray) : t.toList = ([] : List UInt8) ↔ t.data.toList.isEmpty = true := by
  rw [ByteArray.toList_eq, List.isEmpty_iff]
theorem str_one (n : Nat) (h : n < 256) : strOfNums [(n : Int)] = ba [UInt8.ofNat n] := by
  simp [strOfNums, ba]
theorem dec_len : ∀ u : Nat, (Lib.decDigits u).length ≤ u + 1 := by
  intro u
  induction u using Nat.strongRecOn with
  | _ u ih =>
  by_cases hu : u < 10
  · rw [dec_small hu]; simp
  · rw [dec_big hu, List.length_append, List.length_singleton]
    have := ih (u / 10) (by omega)
    omega
/-- The document's digits. -/
theorem digits_nat : ∀ (k n : Nat), n < 10 ^ k → n < 1000000000000000000 → tambourref04_Digits.f (k + 1) (n : Int) = some (ba (Lib.decDigits n))
  | k, n, h, hn => by
    have e1 : wrap64 (48 + (Int.tmod (n : Int) 10)) % 256 = ((48 + n % 10 : Nat) : Int) := by
      rw [Int.tmod_eq_emod_of_nonneg (by omega)]; unfold wrap64; omega
    have e2 : wrap64 (Int.tdiv (n : Int) 10) = ((n / 10 : Nat) : Int) := by
      rw [Int.tdiv_eq_ediv_of_nonneg (by omega)]; unfold wrap64; omega
    rw [tambourref04_Digits.f, if_neg (by omega), e1, Option.bind_some, str_one _ (by omega), e2]
    by_cases h10 : n < 10
    · rw [if_pos (by omega), dec_small h10, Nat.mod_eq_of_lt h10]
    · cases k with
      | zero => exact absurd h (by simp; omega)
      | succ k =>
        have hl := dec_len (n / 10)
        rw [if_neg (by omega), digits_nat k (n / 10) (by rw [Nat.pow_succ] at h; omega) (by omega), Option.bind_some, if_pos (by rw [ba_size, ba_size, List.length_singleton]; omega), ba_append, dec_big h10]
/-! ### The document's walks over a form -/
theorem right_all : ∀ (n : Nat) (x : S24), wt x ≤ n → n ≤ 170000 → ∀ k, wt x ≤ k → tambourref04_right.f k x.f0 x.f1 x.f2 = some (okF x) := by
  intro n
  induction n with
  | zero => intro x h; have := wt_pos x; omega
  | succ n ih =>
  intro x hx hn k hk
  obtain ⟨l, t, is⟩ := x
  simp only at *
  have hw : wt ⟨l, t, is⟩ = t.size + 30 + wtL is := by rw [wt]
  obtain ⟨k, rfl⟩ : ∃ k', k = k' + 1 := ⟨k - 1, by omega⟩
  cases l with
  | false =>
    rw [tambourref04_right.f, if_neg (by decide), okF]
    congr 1
    cases is with
    | nil => rfl
    | cons y ys =>
      show (((ys.length + 1 : Nat) : Int) == 0) = false
      rw [beq_eq_false_iff_ne]; omega
  | true =>
    rw [tambourref04_right.f, if_pos rfl, okF]
    by_cases ht : t.toList = ([] : List UInt8)
    · rw [if_pos ht, (nil_iff t).1 ht, Bool.true_and]
      have loop : ∀ (m i : Nat), i + m = is.length → ∀ k, wtL (is.drop i) + 1 ≤ k → tambourref04_right.l0 k (i : Int) true t is = some (okL (is.drop i)) := by
        intro m
        induction m with
        | zero =>
          intro i hi k hk
          obtain ⟨k, rfl⟩ : ∃ k', k = k' + 1 := ⟨k - 1, by omega⟩
          rw [tambourref04_right.l0, if_neg (by omega), List.drop_of_length_le (by omega), okL]
        | succ m ihm =>
          intro i hi k hk
          obtain ⟨k, rfl⟩ : ∃ k', k = k' + 1 := ⟨k - 1, by omega⟩
          have h1 : i < is.length := by omega
          have p1 : (i : Int) < (is.length : Int) := Int.ofNat_lt.2 h1
          have p2 : (0 : Int) ≤ (i : Int) := Int.natCast_nonneg _
          have d1 : is.drop i = is[i] :: is.drop (i + 1) := List.drop_eq_getElem_cons h1
          have hwd : wtL (is.drop i) = wt is[i] + wtL (is.drop (i + 1)) := by rw [d1, wtL]
          have hle : wtL (is.drop i) ≤ wtL is := wtL_drop is i
          have hp := wt_pos is[i]
          have hge := wtL_ge is
          have e1 : Go.Proofs.YtehghdmfdinpjaaDoor.PAll.rd_T24 is (i : Int) = is[i] := rd_at (List.getElem?_eq_getElem h1)
          have hwr : wrap64 ((i : Int) + 1) = ((i + 1 : Nat) : Int) := wrap_succ (by omega)
          rw [tambourref04_right.l0, if_pos p1, if_pos p2, e1, ih is[i] (by omega) (by omega) k (by omega), Option.bind_some, hwr, d1, okL]
          cases okF is[i] with
          | false => rw [if_neg (by decide)]; rfl
          | true => rw [if_pos rfl, ihm (i + 1) (by omega) k (by omega), Bool.true_and]
      have := loop is.length 0 (by omega) k (by rw [List.drop_zero]; omega)
      rw [List.drop_zero] at this
      exact this
    · rw [if_neg ht]
      have : t.data.toList.isEmpty = false := by
        cases h : t.data.toList.isEmpty with
        | false => rfl
        | true => exact absurd ((nil_iff t).2 h) ht
      rw [this]; rfl
theorem deL_le : ∀ is : List S24, deL is ≤ wtL is := by
  have key : ∀ n, (∀ x : S24, wt x ≤ n → deF x ≤ wt x) ∧ (∀ is : List S24, wtL is ≤ n → deL is ≤ wtL is) := by
    intro n
    induction n with
    | zero =>
      refine ⟨fun x h => ?_, fun is h => ?_⟩
      · have := wt_pos x; omega
      · cases is with
        | nil => rw [deL]; omega
        | cons y ys => rw [wtL] at h; have := wt_pos y; omega
    | succ n ih =>
      have hF : ∀ x : S24, wt x ≤ n + 1 → deF x ≤ wt x := by
        rintro ⟨l, t, is⟩ h
        rw [wt] at h ⊢
        cases l with
        | false => rw [deF]; omega
        | true => rw [deF]; have := ih.2 is (by omega); omega
      refine ⟨hF, fun is h => ?_⟩
      cases is with
      | nil => rw [deL]; omega
      | cons y ys =>
        rw [wtL] at h ⊢
        rw [deL]
        have := wt_pos y
        have h1 := hF y (by omega)
        have h2 := ih.2 ys (by omega)
        omega
  exact fun is => (key (wtL is)).2 is (Nat.le_refl _)
theorem depth_all : ∀ (n : Nat) (x : S24), wt x ≤ n → n ≤ 170000 → ∀ k, wt x ≤ k → tambourref04_Depth.f k x.f0 x.f1 x.f2 = some (deF x : Int) := by
  intro n
  induction n with
  | zero => intro x h; have := wt_pos x; omega
  | succ n ih =>
  intro x hx hn k hk
  obtain ⟨l, t, is⟩ := x
  simp only at *
  have hw : wt ⟨l, t, is⟩ = t.size + 30 + wtL is := by rw [wt]
  obtain ⟨k, rfl⟩ : ∃ k', k = k' + 1 := ⟨k - 1, by omega⟩
  cases l with
  | false => rw [tambourref04_Depth.f, if_neg (by decide), deF]; rfl
  | true =>
    rw [tambourref04_Depth.f, if_pos rfl, deF]
    have hdl := deL_le is
    have loop : ∀ (m i : Nat), i + m = is.length → ∀ (a : Nat), a ≤ 200000 → ∀ k, wtL (is.drop i) + 1 ≤ k → tambourref04_Depth.l0 k (a : Int) (i : Int) true t is = some ((max a (deL (is.drop i)) + 1 : Nat) : Int) := by
      intro m
      induction m with
      | zero =>
        intro i hi a ha k hk
        obtain ⟨k, rfl⟩ : ∃ k', k = k' + 1 := ⟨k - 1, by omega⟩
        rw [tambourref04_Depth.l0, if_neg (by omega), List.drop_of_length_le (by omega), deL, wrap_succ ha, Nat.max_zero]
      | succ m ihm =>
        intro i hi a ha k hk
        obtain ⟨k, rfl⟩ : ∃ k', k = k' + 1 := ⟨k - 1, by omega⟩
        have h1 : i < is.length := by omega
        have p1 : (i : Int) < (is.length : Int) := Int.ofNat_lt.2 h1
        have p2 : (0 : Int) ≤ (i : Int) := Int.natCast_nonneg _
        have d1 : is.drop i = is[i] :: is.drop (i + 1) := List.drop_eq_getElem_cons h1
        have hwd : wtL (is.drop i) = wt is[i] + wtL (is.drop (i + 1)) := by rw [d1, wtL]
        have hle : wtL (is.drop i) ≤ wtL is := wtL_drop is i
        have hdd := deL_le (is.drop i)
        have hp := wt_pos is[i]
        have hge := wtL_ge is
        have e1 : Go.Proofs.YtehghdmfdinpjaaDoor.PAll.rd_T24 is (i : Int) = is[i] := rd_at (List.getElem?_eq_getElem h1)
        have hwr : wrap64 ((i : Int) + 1) = ((i + 1 : Nat) : Int) := wrap_succ (by omega)
        have hmx : mx (a : Int) (deF is[i] : Int) = ((max a (deF is[i]) : Nat) : Int) := by unfold mx; split <;> omega
        have hde : deL (is.drop i) = max (deF is[i]) (deL (is.drop (i + 1))) := by rw [d1, deL]
        have q1 : max a (deF is[i]) ≤ 200000 := by clear hmx hwr e1; omega
        rw [tambourref04_Depth.l0, if_pos p1, if_pos p2, e1, ih is[i] (by omega) (by omega) k (by omega), Option.bind_some, hwr, hmx, d1, deL, ihm (i + 1) (by omega) _ q1 k (by omega), Nat.max_assoc]
    have := loop is.length 0 (by omega) 0 (by omega) k (by rw [List.drop_zero]; omega)
    rw [List.drop_zero, Nat.zero_max] at this
    exact this
theorem numT_data (t : ByteArray) : numT t = Lib.decDigits t.size ++ 58 :: t.data.toList := by
  rw [numT, itoa_nat]; simp
theorem by_le : ∀ n, (∀ x : S24, wt x ≤ n → wt x ≤ 170000 → (byF x).length ≤ wt x) ∧ (∀ is : List S24, wtL is ≤ n → wtL is ≤ 170000 → (byL is).length ≤ wtL is) := by
  intro n
  induction n with
  | zero =>
    refine ⟨fun x h => ?_, fun is h _ => ?_⟩
    · have := wt_pos x; omega
    · cases is with
      | nil => rw [byL]; simp
      | cons y ys => rw [wtL] at h; have := wt_pos y; omega
  | succ n ih =>
    have hF : ∀ x : S24, wt x ≤ n + 1 → wt x ≤ 170000 → (byF x).length ≤ wt x := by
      rintro ⟨l, t, is⟩ h h2
      rw [wt] at h h2 ⊢
      cases l with
      | false => rw [byF]; have := numT_len t (by omega); omega
      | true =>
        rw [byF]
        have := ih.2 is (by omega) (by omega)
        simp only [List.length_append, List.length_cons, List.length_nil]
        omega
    refine ⟨hF, fun is h h2 => ?_⟩
    cases is with
    | nil => rw [byL]; simp
    | cons y ys =>
      rw [wtL] at h h2 ⊢
      rw [byL, List.length_append]
      have := wt_pos y
      have h3 := hF y (by omega) (by omega)
      have h4 := ih.2 ys (by omega) (by omega)
      omega
theorem digits_size {t : ByteArray} {k : Nat} (ht : t.size ≤ 170000) (hk : 20 ≤ k) : tambourref04_Digits.f k (t.size : Int) = some (ba (Lib.decDigits t.size)) := by
  obtain ⟨k, rfl⟩ : ∃ k', k = k' + 1 := ⟨k - 1, by omega⟩
  refine digits_nat k _ (Nat.lt_of_lt_of_le (show t.size < 10 ^ 6 by omega) (Nat.pow_le_pow_right (by omega) (by omega))) (by omega)
theorem size_all : ∀ (n : Nat) (x : S24), wt x ≤ n → n ≤ 170000 → ∀ k, wt x ≤ k → tambourref04_size.f k x.f0 x.f1 x.f2 = some ((byF x).length : Int) := by
  intro n
  induction n with
  | zero => intro x h; have := wt_pos x; omega
  | succ n ih =>
  intro x hx hn k hk
  obtain ⟨l, t, is⟩ := x
  simp only at *
  have hw : wt ⟨l, t, is⟩ = t.size + 30 + wtL is := by rw [wt]
  obtain ⟨k, rfl⟩ : ∃ k', k = k' + 1 := ⟨k - 1, by omega⟩
  cases l with
  | false =>
    have hl := dec_len t.size
    have hs : t.data.toList.length = t.size := by rw [Array.length_toList]; rfl
    rw [tambourref04_size.f, if_neg (by decide), byF, digits_size (by omega) (by omega), Option.bind_some, ba_size, numT_data, List.length_append, List.length_cons, hs]
    congr 1
    unfold wrap64
    omega
  | true =>
    rw [tambourref04_size.f, if_pos rfl, byF]
    have hbl := (by_le (wtL is)).2 is (Nat.le_refl _) (by omega)
    have loop : ∀ (m i : Nat), i + m = is.length → ∀ (a : Nat), a ≤ 200000 → ∀ k, wtL (is.drop i) + 1 ≤ k → a + (byL (is.drop i)).length ≤ 200000 → tambourref04_size.l0 k (a : Int) (i : Int) true t is = some ((a + (byL (is.drop i)).length : Nat) : Int) := by
      intro m
      induction m with
      | zero =>
        intro i hi a ha k hk _
        obtain ⟨k, rfl⟩ : ∃ k', k = k' + 1 := ⟨k - 1, by omega⟩
        rw [tambourref04_size.l0, if_neg (by omega), List.drop_of_length_le (by omega), byL]; rfl
      | succ m ihm =>
        intro i hi a ha k hk hal
        obtain ⟨k, rfl⟩ : ∃ k', k = k' + 1 := ⟨k - 1, by omega⟩
        have h1 : i < is.length := by omega
        have p1 : (i : Int) < (is.length : Int) := Int.ofNat_lt.2 h1
        have p2 : (0 : Int) ≤ (i : Int) := Int.natCast_nonneg _
        have d1 : is.drop i = is[i] :: is.drop (i + 1) := List.drop_eq_getElem_cons h1
        have hwd : wtL (is.drop i) = wt is[i] + wtL (is.drop (i + 1)) := by rw [d1, wtL]
        have hle : wtL (is.drop i) ≤ wtL is := wtL_drop is i
        have hp := wt_pos is[i]
        have hge := wtL_ge is
        have e1 : Go.Proofs.YtehghdmfdinpjaaDoor.PAll.rd_T24 is (i : Int) = is[i] := rd_at (List.getElem?_eq_getElem h1)
        have hwr : wrap64 ((i : Int) + 1) = ((i + 1 : Nat) : Int) := wrap_succ (by omega)
        rw [d1, byL, List.length_append] at hal ⊢
        have q1 : a + (byF is[i]).length ≤ 200000 := by clear hwr e1; omega
        have q2 : a + (byF is[i]).length + (byL (is.drop (i + 1))).length ≤ 200000 := by clear hwr e1; omega
        have q3 : wtL (is.drop (i + 1)) + 1 ≤ k := by clear hwr e1; omega
        have q4 : i + 1 + m = is.length := by clear hwr e1; omega
        have hws : wrap64 ((a : Int) + ((byF is[i]).length : Int)) = ((a + (byF is[i]).length : Nat) : Int) := by clear q2 q3 q4 hwr e1; unfold wrap64; omega
        rw [tambourref04_size.l0, if_pos p1, if_pos p2, e1, ih is[i] (by omega) (by omega) k (by omega), Option.bind_some, hwr, hws, ihm (i + 1) q4 _ q1 k q3 q2, Nat.add_assoc]
    have := loop is.length 0 (by omega) 2 (by omega) k (by rw [List.drop_zero]; omega) (by rw [List.drop_zero]; omega)
    rw [List.drop_zero] at this
    have e : ([40] ++ byL is ++ [41]).length = 2 + (byL is).length := by simp only [List.length_append, List.length_cons, List.length_nil]; omega
    rw [e]
    exact this
theorem bytes_all : ∀ (n : Nat) (x : S24), wt x ≤ n → n ≤ 170000 → ∀ k, wt x ≤ k → tambourref04_bytes.f k x.f0 x.f1 x.f2 = some (ba (byF x)) := by
  intro n
  induction n with
  | zero => intro x h; have := wt_pos x; omega
  | succ n ih =>
  intro x hx hn k hk
  obtain ⟨l, t, is⟩ := x
  simp only at *
  have hw : wt ⟨l, t, is⟩ = t.size + 30 + wtL is := by rw [wt]
  obtain ⟨k, rfl⟩ : ∃ k', k = k' + 1 := ⟨k - 1, by omega⟩
  cases l with
  | false =>
    have hl := dec_len t.size
    have e58 : (⟨#[58]⟩ : ByteArray) = ba [58] := rfl
    rw [tambourref04_bytes.f, if_neg (by decide), byF, digits_size (by omega) (by omega), Option.bind_some, e58, ba_append, if_pos (by rw [ba_size]; omega), if_pos (by rw [ba_size, List.length_append, List.length_singleton]; omega), numT_data]
    conv => lhs; rw [← ba_list t]
    rw [ba_append, ba_size]
    have hsz : t.data.toList.length = t.size := by rw [Array.length_toList]; rfl
    rw [hsz]
    simp
  | true =>
    rw [tambourref04_bytes.f, if_pos rfl, byF]
    have hbl := (by_le (wtL is)).2 is (Nat.le_refl _) (by omega)
    have loop : ∀ (m i : Nat), i + m = is.length → ∀ (a : List UInt8), ∀ k, wtL (is.drop i) + 1 ≤ k → a.length + (byL (is.drop i)).length ≤ 200000 → tambourref04_bytes.l0 k (ba a) (i : Int) true t is = some (ba (a ++ byL (is.drop i) ++ [41])) := by
      intro m
      induction m with
      | zero =>
        intro i hi a k hk ha
        obtain ⟨k, rfl⟩ : ∃ k', k = k' + 1 := ⟨k - 1, by omega⟩
        have e41 : (⟨#[41]⟩ : ByteArray) = ba [41] := rfl
        rw [tambourref04_bytes.l0, if_neg (by omega), List.drop_of_length_le (by omega), byL, List.append_nil, if_pos (by rw [ba_size]; omega), e41, ba_append]
      | succ m ihm =>
        intro i hi a k hk hal
        obtain ⟨k, rfl⟩ : ∃ k', k = k' + 1 := ⟨k - 1, by omega⟩
        have h1 : i < is.length := by omega
        have p1 : (i : Int) < (is.length : Int) := Int.ofNat_lt.2 h1
        have p2 : (0 : Int) ≤ (i : Int) := Int.natCast_nonneg _
        have d1 : is.drop i = is[i] :: is.drop (i + 1) := List.drop_eq_getElem_cons h1
        have hwd : wtL (is.drop i) = wt is[i] + wtL (is.drop (i + 1)) := by rw [d1, wtL]
        have hle : wtL (is.drop i) ≤ wtL is := wtL_drop is i
        have hp := wt_pos is[i]
        have hge := wtL_ge is
        have e1 : Go.Proofs.YtehghdmfdinpjaaDoor.PAll.rd_T24 is (i : Int) = is[i] := rd_at (List.getElem?_eq_getElem h1)
        have hwr : wrap64 ((i : Int) + 1) = ((i + 1 : Nat) : Int) := wrap_succ (by omega)
        rw [d1, byL, List.length_append] at hal
        rw [tambourref04_bytes.l0, if_pos p1, if_pos p2, e1, ih is[i] (by omega) (by omega) k (by omega), Option.bind_some, hwr, if_pos (by rw [ba_size, ba_size]; omega), ba_append, ihm (i + 1) (by omega) _ k (by omega) (by rw [List.length_append]; omega), d1, byL]
        simp
    have := loop is.length 0 (by omega) [40] k (by rw [List.drop_zero]; omega) (by rw [List.drop_zero]; simp only [List.length_cons, List.length_nil]; omega)
    rw [List.drop_zero] at this
    exact this
/-! ### The writer's length, where it writes on -/
theorem mid1_bs' (d : Nat) (s : WS) : (mid1 d s).bs = s.bs := mid1_bs d s
mutual
theorem putF_lenB : ∀ (x : S24) (d : Nat) (s : WS), (putF x d s).bs.length ≤ s.bs.length + (byF x).length
  | ⟨false, t, []⟩, d, s => by
    rw [putF_text, byF]
    split
    · omega
    · simp
  | ⟨false, t, y :: is⟩, d, s => by
    rw [putF_bad (by simp)]
    exact Nat.le_add_right _ _
  | ⟨true, t, is⟩, d, s => by
    by_cases ht : t.toList.isEmpty = true
    · obtain rfl := toList_empty ht
      have h := putL_lenB is (d + 1) (mid2 d s)
      rw [putF_list, byF]
      generalize putL is (d + 1) (mid2 d s) = s' at h ⊢
      have m3 : (mid2 d s).bs.length ≤ s.bs.length + 1 := mid2_len d s
      have k3 : (mid4 (bigF d s) s').bs.length ≤ s'.bs.length + 1 := by unfold mid4; split <;> simp
      simp only [List.length_append, List.length_cons, List.length_nil]
      omega
    · have ht' : t.toList.isEmpty = false := by simpa using ht
      rw [putF_bad (by rw [ht']; rfl)]
      exact Nat.le_add_right _ _
theorem putL_lenB : ∀ (is : List S24) (d : Nat) (s : WS), (putL is d s).bs.length ≤ s.bs.length + (byL is).length
  | [], d, s => by rw [putL, byL]; simp
  | x :: is, d, s => by
    have h1 := putF_lenB x d s
    have h2 := putL_lenB is d (putF x d s)
    rw [putL, byL, List.length_append]
    omega
end
/-- What Write gives, without the state. -/
theorem writeF_eq (x : S24) : writeF x = if okF x then (if 8 < deF x ∨ 65536 < (byF x).length then (⟨#[]⟩, some 2) else (ba (byF x), none)) else (⟨#[]⟩, some 1) := by
  have ht := putF_told x 0 ⟨[], false, false⟩
  have hlen := putF_lenB x 0 ⟨[], false, false⟩
  unfold writeF
  generalize putF x 0 ⟨[], false, false⟩ = s' at ht hlen
  simp only at hlen ⊢
  have he := ht.er
  simp only [Bool.false_or] at he
  rw [he]
  cases hok : okF x with
  | false => rfl
  | true =>
    have hdp := ht.dpe hok
    simp only [Bool.false_or] at hdp
    have hd8 : (decide (8 < 0 + deF x) && decide (0 < deF x)) = decide (8 < deF x) := by
      rw [Bool.eq_iff_iff]
      simp only [Bool.and_eq_true, decide_eq_true_eq]
      omega
    rw [hd8] at hdp
    rw [hdp]
    show (if (decide (8 < deF x) || decide (65536 < s'.bs.length)) = true then _ else _) = _
    by_cases h8 : 8 < deF x
    · rw [decide_eq_true h8, Bool.true_or, if_pos rfl, if_pos rfl, if_pos (.inl h8)]
    · rw [decide_eq_false h8, Bool.false_or]
      by_cases hl : 65536 < s'.bs.length
      · simp only [List.length_nil] at hlen
        rw [decide_eq_true hl, if_pos rfl, if_pos rfl, if_pos (.inr (by omega))]
      · have hb := ht.bs hok (by omega) (by rw [hd8]; exact decide_eq_false h8) (by omega)
        simp only [List.nil_append] at hb
        rw [decide_eq_false hl, if_neg (by decide), if_pos rfl, if_neg (by rw [← hb]; omega), hb]
        rfl
def codeOf (o : Option Int) : Int := match o with | none => 0 | some c => c
/-- The document's Write is the program's. -/
theorem ref_write (x : S24) (hx : wt x ≤ 170000) : tambourref04_Write.f 170000 x.f0 x.f1 x.f2 = some ((writeF x).1, codeOf (writeF x).2) := by
  rw [writeF_eq, tambourref04_Write.f, right_all _ x hx (Nat.le_refl _) 170000 hx, Option.bind_some]
  cases hok : okF x with
  | false => rfl
  | true =>
    rw [if_pos rfl, if_pos rfl, depth_all _ x hx (Nat.le_refl _) 170000 hx, Option.bind_some]
    by_cases h8 : 8 < deF x
    · rw [if_pos (by omega), if_pos (.inl h8)]; rfl
    · rw [if_neg (by omega), size_all _ x hx (Nat.le_refl _) 170000 hx, Option.bind_some]
      by_cases hl : 65536 < (byF x).length
      · rw [if_pos (by omega), if_pos (.inr hl)]; rfl
      · rw [if_neg (by omega), bytes_all _ x hx (Nat.le_refl _) 170000 hx, Option.bind_some, if_neg (by omega)]; rfl
#print axioms ref_write
end Go.Proofs.YtehghdmfdinpjaaDoorF
