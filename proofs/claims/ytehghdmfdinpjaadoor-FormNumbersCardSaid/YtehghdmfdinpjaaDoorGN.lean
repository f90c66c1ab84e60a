/- Forms: the plain laws of Number: a text is a number just if it is a number's own text. -/
import Derived.Test.YtehghdmfdinpjaaDoorFXa
import Derived.Test.YtehghdmfdinpjaaDoorPAllx8
import Derived.Test.YtehghdmfdinpjaaDoorPAlln
import Derived.Lib.AtoiAllMem
import Derived.Lib.AtoiAllCases
namespace Go.Proofs.YtehghdmfdinpjaaDoorF
open Go.RowKit Go.Proofs Go.Proofs.YtehghdmfdinpjaaDoorW.PrintWords Go.Proofs.YtehghdmfdinpjaaDoorW.PrintLast Go.Proofs.YtehghdmfdinpjaaDoorW.PrintMore
open Go.Proofs.YtehghdmfdinpjaaDoor.PAll (S24 k24 z24 tambourref04_Digits.f tambourref04_Number.f tambourref04_Number.j0 tambourref04_Number.j1 tambourref04_Number.j2 tambourref04_Number.j4 tambourref04_Number.l0 tambourref04_Num.f tambourref04_Text.f wrTd)

abbrev I64 (v : Int) : Prop := -9223372036854775808 ≤ v ∧ v ≤ 9223372036854775807
theorem str_oneN (n : Nat) : strOfNums [(n : Int)] = ba [UInt8.ofNat n] := by
  simp [strOfNums, ba]
theorem digits_pos : ∀ (k n : Nat), n < 10 ^ k → n < 9223372036854775808 → tambourref04_Digits.f (k + 1) (n : Int) = some (ba (Lib.decDigits n))
  | k, n, h, hn => by
    have e1 : wrap64 (48 + (Int.tmod (n : Int) 10)) % 256 = ((48 + n % 10 : Nat) : Int) := by
      rw [Int.tmod_eq_emod_of_nonneg (by omega)]; unfold wrap64; omega
    have e2 : wrap64 (Int.tdiv (n : Int) 10) = ((n / 10 : Nat) : Int) := by
      rw [Int.tdiv_eq_ediv_of_nonneg (by omega)]; unfold wrap64; omega
    rw [tambourref04_Digits.f, if_neg (by omega), e1, Option.bind_some, str_oneN, e2]
    by_cases h10 : n < 10
    · rw [if_pos (by omega), dec_small h10, Nat.mod_eq_of_lt h10]
    · cases k with
      | zero => exact absurd h (by simp; omega)
      | succ k =>
        have hl := dec_len (n / 10)
        have hl2 : (ba (Lib.decDigits (n / 10))).size + (ba [UInt8.ofNat (48 + n % 10)]).size ≤ 9223372036854775807 := by
          rw [ba_size, ba_size, List.length_singleton]; clear e1 e2; omega
        rw [if_neg (by omega), digits_pos k (n / 10) (by rw [Nat.pow_succ] at h; omega) (by omega), Option.bind_some, if_pos hl2, ba_append, dec_big h10]
theorem itoa_pos (u : Nat) : Lib.itoa (u : Int) = Lib.decDigits u := itoa_nat u
theorem itoa_neg (u : Nat) (h : 0 < u) : Lib.itoa (-(u : Int)) = 45 :: Lib.decDigits u := by
  rw [Lib.itoa, if_pos (by omega)]
  have : (-(u : Int)).natAbs = u := by omega
  rw [this]
theorem dec_least : ba (45 :: Lib.decDigits 9223372036854775808) = ⟨#[45, 57, 50, 50, 51, 51, 55, 50, 48, 51, 54, 56, 53, 52, 55, 55, 53, 56, 48, 56]⟩ := by
  have : Lib.decDigits 9223372036854775808 = [57, 50, 50, 51, 51, 55, 50, 48, 51, 54, 56, 53, 52, 55, 55, 53, 56, 48, 56] := by decide +kernel
  rw [this]; rfl
theorem dec_len19 : ∀ (k n : Nat), n < 10 ^ (k + 1) → (Lib.decDigits n).length ≤ k + 1
  | 0, n, h => by rw [dec_small (by simpa using h)]; simp
  | k + 1, n, h => by
    by_cases hn : n < 10
    · rw [dec_small hn]; simp
    · have := dec_len19 k (n / 10) (by rw [Nat.pow_succ] at h; omega)
      rw [dec_big hn, List.length_append, List.length_singleton]
      omega
theorem int_cases (v : Int) (h : I64 v) : (∃ u : Nat, v = (u : Int) ∧ u < 9223372036854775808) ∨ (∃ u : Nat, v = -(u : Int) ∧ 0 < u ∧ u ≤ 9223372036854775808) := by
  obtain ⟨h0, h1⟩ := h
  by_cases hv : 0 ≤ v
  · exact .inl ⟨v.toNat, by omega, by omega⟩
  · exact .inr ⟨(-v).toNat, by omega, by omega, by omega⟩
theorem p19 : 9223372036854775808 < 10 ^ 19 := by decide
theorem digits_all (v : Int) (h : I64 v) (k : Nat) (hk : 22 ≤ k) : tambourref04_Digits.f k v = some (ba (Lib.itoa v)) := by
  obtain ⟨k, rfl⟩ : ∃ k', k = k' + 2 := ⟨k - 2, by omega⟩
  have hp : 10 ^ 19 ≤ 10 ^ k := Nat.pow_le_pow_right (by omega) (by omega)
  have h19 := p19
  rcases int_cases v h with ⟨u, rfl, hu⟩ | ⟨u, rfl, hu0, hu⟩
  · rw [itoa_pos]
    exact digits_pos (k + 1) u (Nat.lt_of_lt_of_le (Nat.lt_trans hu h19) (Nat.pow_le_pow_right (by omega) (by omega))) hu
  · rw [itoa_neg u hu0, tambourref04_Digits.f, if_pos (by omega)]
    by_cases hl : u = 9223372036854775808
    · subst hl
      rw [if_pos (by decide), dec_least]
    · have hw : wrap64 (-(-(u : Int))) = (u : Int) := by unfold wrap64; omega
      have hd := dec_len u
      have hs : 1 + (ba (Lib.decDigits u)).size ≤ 9223372036854775807 := by
        have := dec_len19 18 u (by clear hw hp; omega)
        rw [ba_size]; clear hw hp; omega
      rw [if_neg (by omega), hw, digits_pos k u (Nat.lt_of_lt_of_le (Nat.lt_trans (by omega) h19) hp) (by omega), Option.bind_some, if_pos hs]
      have e45 : (⟨#[45]⟩ : ByteArray) = ba [45] := rfl
      rw [e45, ba_append]
      rfl
theorem itoa_len (v : Int) (h : I64 v) : (Lib.itoa v).length ≤ 20 := by
  have h19 := p19
  rcases int_cases v h with ⟨u, rfl, hu⟩ | ⟨u, rfl, hu0, hu⟩
  · rw [itoa_pos]
    have := dec_len19 18 u (Nat.lt_trans hu h19)
    omega
  · rw [itoa_neg u hu0, List.length_cons]
    have := dec_len19 18 u (Nat.lt_of_le_of_lt hu h19)
    omega
/-! ### The document's Number -/
def NAns (s : ByteArray) (l m : Int) (o : Option (Int × Int)) : Prop := o = some (0, 5) ∨ ∃ a, o = some (a, 0) ∧ I64 a ∧ s = ba (Lib.itoa a) ∧ l ≤ a ∧ a ≤ m
def inR (v l m : Int) : Int × Int := if l ≤ v ∧ v ≤ m then (v, 0) else (0, 5)
section
variable {s : ByteArray} {l m : Int} {f0 : Bool} {is : List S24} {L : List UInt8} {b : Bool} {i v k : Nat}
theorem n_bad {c : UInt8} (hc : L[i]? = some c) (h : ¬ (48 ≤ c.toNat ∧ c.toNat ≤ 57)) : tambourref04_Number.l0 (k + 2) l m (ba L) b (-(v : Int)) (i : Int) f0 s is = some (0, 5) := by
  have hi := (List.getElem?_eq_some_iff.1 hc).1
  have hs := ba_size L
  rw [tambourref04_Number.l0, if_pos (by omega), if_pos (by omega), bt_ba hc]
  by_cases h1 : c.toNat < 48
  · rw [if_pos (by omega), tambourref04_Number.j4, if_pos rfl]
  · have : decide ((c.toNat : Int) > 57) = true := decide_eq_true (by omega)
    rw [if_neg (by omega), this, tambourref04_Number.j4, if_pos rfl]
theorem n_digit {c : UInt8} (hL : L.length ≤ 1000) (hc : L[i]? = some c) (h1 : 48 ≤ c.toNat) (h2 : c.toNat ≤ 57) : tambourref04_Number.l0 (k + 2) l m (ba L) b (-(v : Int)) (i : Int) f0 s is = if 9223372036854775808 < v * 10 + (c.toNat - 48) then some (0, 5) else tambourref04_Number.l0 k l m (ba L) b (-((v * 10 + (c.toNat - 48) : Nat) : Int)) ((i + 1 : Nat) : Int) f0 s is := by
  have hi := (List.getElem?_eq_some_iff.1 hc).1
  have hs := ba_size L
  have d1 : decide ((c.toNat : Int) > 57) = false := decide_eq_false (by omega)
  have e0 : ((c.toNat : Int) - 48) % 256 = ((c.toNat - 48 : Nat) : Int) := by omega
  have e3 : wrap64 ((i : Int) + 1) = ((i + 1 : Nat) : Int) := by unfold wrap64; omega
  have hd : c.toNat - 48 ≤ 9 := by omega
  rw [tambourref04_Number.l0, if_pos (by omega), if_pos (by omega), bt_ba hc, if_neg (by omega), d1, tambourref04_Number.j4, if_neg (by decide), if_pos (by omega), if_pos (by omega), bt_ba hc, wrTd _ (Int.emod_nonneg _ (by decide)) (Int.emod_lt_of_pos _ (by decide)), e0, e3]
  generalize c.toNat - 48 = d at hd ⊢
  clear e3 e0 d1 h1 h2 hi hs hc hL
  have et : Int.tdiv ((-9223372036854775808) + (d : Int)) 10 = -((9223372036854775808 - (d : Int)) / 10) := by
    have e : (-9223372036854775808 : Int) + (d : Int) = -(9223372036854775808 - (d : Int)) := by omega
    rw [e, Int.neg_tdiv, Int.tdiv_eq_ediv_of_nonneg (by omega)]
  rw [et]
  by_cases hb : 9223372036854775808 < v * 10 + d
  · have : -(v : Int) < -((9223372036854775808 - (d : Int)) / 10) := by omega
    rw [if_pos hb, if_pos this]
  · have h3 : ¬ -(v : Int) < -((9223372036854775808 - (d : Int)) / 10) := by omega
    have e1 : wrap64 ((wrap64 (-(v : Int) * 10)) - (d : Int)) = -((v * 10 + d : Nat) : Int) := by unfold wrap64; omega
    rw [if_neg hb, if_neg h3, e1]
/-- The end: what the digits spell, below or not. -/
def sgn (b : Bool) (v : Nat) : Int := if b then -(v : Int) else (v : Int)
theorem n_end (hi : i = L.length) (hv : v ≤ 9223372036854775808) (hk : 22 ≤ k) : tambourref04_Number.l0 (k + 1) l m (ba L) b (-(v : Int)) (i : Int) f0 s is = if I64 (sgn b v) ∧ s = ba (Lib.itoa (sgn b v)) then some (inR (sgn b v) l m) else some (0, 5) := by
  have hs := ba_size L
  have hrng : ∀ a : Int, (if a < l then some ((0 : Int), (5 : Int)) else if a > m then some (0, 5) else some (a, 0)) = some (inR a l m) := by
    intro a
    unfold inR
    by_cases h1 : a < l
    · rw [if_pos h1, if_neg (by omega)]
    · rw [if_neg h1]
      by_cases h2 : a > m
      · rw [if_pos h2, if_neg (by omega)]
      · rw [if_neg h2, if_pos (by omega)]
  have hfin : ∀ (a : Int), I64 a → ((tambourref04_Digits.f k a).bind fun t => if t.toList = s.toList then (if a < l then some ((0 : Int), (5 : Int)) else if a > m then some (0, 5) else some (a, 0)) else some (0, 5)) = if I64 a ∧ s = ba (Lib.itoa a) then some (inR a l m) else some (0, 5) := by
    intro a ha
    rw [digits_all a ha k hk, Option.bind_some, hrng]
    by_cases he : s = ba (Lib.itoa a)
    · rw [if_pos (ba_eq.2 he.symm), if_pos ⟨ha, he⟩]
    · rw [if_neg (fun h => he (ba_eq.1 h).symm), if_neg (fun h => he h.2)]
  rw [tambourref04_Number.l0, if_neg (by omega)]
  cases b with
  | true =>
    rw [if_pos rfl]
    exact hfin (-(v : Int)) ⟨by omega, by omega⟩
  | false =>
    rw [if_neg (by decide)]
    by_cases hl : v = 9223372036854775808
    · subst hl
      rw [if_pos (by decide), if_neg]
      rintro ⟨h, _⟩
      have := h.2
      simp only [sgn] at this
      revert this
      decide
    · have hw : wrap64 (-(-(v : Int))) = (v : Int) := by unfold wrap64; omega
      rw [if_neg (by omega), hw]
      exact hfin (v : Int) ⟨by omega, by omega⟩
theorem n_tot (hL : L.length ≤ 1000) : ∀ (n i v : Nat), i + n = L.length → v ≤ 9223372036854775808 → ∀ k, 2 * n + 30 ≤ k → NAns s l m (tambourref04_Number.l0 k l m (ba L) b (-(v : Int)) (i : Int) f0 s is) := by
  intro n
  induction n with
  | zero =>
    intro i v hi hv k hk
    obtain ⟨k, rfl⟩ : ∃ k', k = k' + 1 := ⟨k - 1, by omega⟩
    rw [n_end (by omega) hv (by omega)]
    by_cases h : I64 (sgn b v) ∧ s = ba (Lib.itoa (sgn b v))
    · rw [if_pos h]
      unfold inR
      by_cases hr : l ≤ sgn b v ∧ sgn b v ≤ m
      · rw [if_pos hr]
        exact .inr ⟨_, rfl, h.1, h.2, hr.1, hr.2⟩
      · rw [if_neg hr]
        exact .inl rfl
    · rw [if_neg h]
      exact .inl rfl
  | succ n ih =>
    intro i v hi hv k hk
    obtain ⟨k, rfl⟩ : ∃ k', k = k' + 2 := ⟨k - 2, by omega⟩
    have hlt : i < L.length := by omega
    have hc : L[i]? = some L[i] := List.getElem?_eq_getElem hlt
    by_cases hd : 48 ≤ L[i].toNat ∧ L[i].toNat ≤ 57
    · rw [n_digit hL hc hd.1 hd.2]
      by_cases hb : 9223372036854775808 < v * 10 + (L[i].toNat - 48)
      · rw [if_pos hb]; exact .inl rfl
      · rw [if_neg hb]
        exact ih (i + 1) _ (by omega) (by omega) k (by omega)
    · rw [n_bad hc hd]; exact .inl rfl
theorem n_hit {u : Nat} (hu : u ≤ 9223372036854775808) (hL : (Lib.decDigits u).length ≤ 1000) : ∀ (n i : Nat), i + n = (Lib.decDigits u).length → ∀ k, 2 * n + 30 ≤ k → tambourref04_Number.l0 k l m (ba (Lib.decDigits u)) b (-((valD ((Lib.decDigits u).take i) : Nat) : Int)) (i : Int) f0 s is = if I64 (sgn b u) ∧ s = ba (Lib.itoa (sgn b u)) then some (inR (sgn b u) l m) else some (0, 5) := by
  intro n
  induction n with
  | zero =>
    intro i hi k hk
    obtain ⟨k, rfl⟩ : ∃ k', k = k' + 1 := ⟨k - 1, by omega⟩
    rw [List.take_of_length_le (by omega), val_dec, n_end (by omega) hu (by omega)]
  | succ n ih =>
    intro i hi k hk
    obtain ⟨k, rfl⟩ : ∃ k', k = k' + 2 := ⟨k - 2, by omega⟩
    have hlt : i < (Lib.decDigits u).length := by omega
    have hc : (Lib.decDigits u)[i]? = some (Lib.decDigits u)[i] := List.getElem?_eq_getElem hlt
    obtain ⟨d1, d2⟩ := dec_digit u _ (List.getElem_mem hlt)
    have hval := val_take _ _ _ hc
    have hle := val_take_le (Lib.decDigits u) (i + 1)
    rw [val_dec] at hle
    rw [n_digit hL hc d1 d2, if_neg (by omega), ← hval]
    exact ih (i + 1) (by omega) k (by omega)
end
/-- The document's Number, by what it should say. -/
theorem ref_number (s : ByteArray) (l m : Int) : (∃ v, I64 v ∧ s = ba (Lib.itoa v) ∧ tambourref04_Number.f 400 false s [] l m = some (inR v l m)) ∨ ((¬ ∃ v, I64 v ∧ s = ba (Lib.itoa v)) ∧ tambourref04_Number.f 400 false s [] l m = some (0, 5)) := by
  have hf : tambourref04_Number.f 400 false s [] l m = tambourref04_Number.j0 400 l m (decide ((s.size : Int) > 20)) false s [] := by
    rw [tambourref04_Number.f, if_neg (by decide), if_neg (by simp)]
  rw [hf]
  by_cases hx : ∃ v, I64 v ∧ s = ba (Lib.itoa v)
  · obtain ⟨v, hv, rfl⟩ := hx
    refine .inl ⟨v, hv, rfl, ?_⟩
    have hl := itoa_len v hv
    have d1 : decide (((ba (Lib.itoa v)).size : Int) > 20) = false := decide_eq_false (by rw [ba_size]; omega)
    rw [d1, tambourref04_Number.j0, if_neg (by decide)]
    rcases int_cases v hv with ⟨u, rfl, hu⟩ | ⟨u, rfl, hu0, hu⟩
    · rw [itoa_pos] at hl ⊢
      have hne := dec_ne u
      obtain ⟨c, r, hcr⟩ : ∃ c r, Lib.decDigits u = c :: r := by
        cases h : Lib.decDigits u with
        | nil => exact absurd h hne
        | cons c r => exact ⟨c, r, rfl⟩
      have hdig := dec_digit u c (by rw [hcr]; simp)
      have hb : bt (ba (Lib.decDigits u)) 0 = (c.toNat : Int) := bt_ba (i := 0) (by rw [hcr]; rfl)
      have h45 : ((c.toNat : Int) == 45) = false := by rw [beq_eq_false_iff_ne]; omega
      have hsz : 0 < (Lib.decDigits u).length := by rw [hcr]; simp
      rw [ba_toList, if_neg hne, if_pos (by rw [ba_size]; omega), hb, h45, tambourref04_Number.j1, if_neg (by decide), tambourref04_Number.j2]
      have hh := n_hit (s := ba (Lib.decDigits u)) (l := l) (m := m) (f0 := false) (is := []) (b := false) (u := u) (by omega) (by omega) (Lib.decDigits u).length 0 (by omega) 397 (by omega)
      rw [List.take_zero, show valD [] = 0 from rfl] at hh
      refine Eq.trans hh ?_
      have e : sgn false u = (u : Int) := rfl
      rw [e, itoa_pos, if_pos ⟨hv, rfl⟩]
    · rw [itoa_neg u hu0] at hl ⊢
      have hb : bt (ba (45 :: Lib.decDigits u)) 0 = 45 := bt_ba (L := 45 :: Lib.decDigits u) (i := 0) (c := 45) rfl
      have hs := ba_size (45 :: Lib.decDigits u)
      rw [List.length_cons] at hl hs
      rw [ba_toList, if_neg (by simp), if_pos (by omega), hb, show ((45 : Int) == 45) = true from rfl, tambourref04_Number.j1, if_pos rfl, if_pos (by omega), ba_drop, tambourref04_Number.j2]
      have hh := n_hit (s := ba (45 :: Lib.decDigits u)) (l := l) (m := m) (f0 := false) (is := []) (b := true) (u := u) hu (by omega) (Lib.decDigits u).length 0 (by omega) 397 (by omega)
      rw [List.take_zero, show valD [] = 0 from rfl] at hh
      refine Eq.trans hh ?_
      have e : sgn true u = -(u : Int) := rfl
      rw [e, itoa_neg u hu0, if_pos ⟨hv, rfl⟩]
  · refine .inr ⟨hx, ?_⟩
    have fin : NAns s l m (tambourref04_Number.j0 400 l m (decide ((s.size : Int) > 20)) false s []) := by
      by_cases hs : s.size > 20
      · rw [decide_eq_true (by omega), tambourref04_Number.j0, if_pos rfl]
        exact .inl rfl
      · rw [decide_eq_false (by omega), tambourref04_Number.j0, if_neg (by decide)]
        obtain ⟨L, hL⟩ : ∃ L, s = ba L := ⟨_, (ba_list s).symm⟩
        have hsz := ba_size L
        rw [← hL] at hsz
        have hj2 : ∀ (M : List UInt8) (b : Bool) k, M.length ≤ 1000 → 2 * M.length + 40 ≤ k → NAns s l m (tambourref04_Number.j2 k l m (ba M) b false s []) := by
          intro M b k hM hk
          obtain ⟨k, rfl⟩ : ∃ k', k = k' + 1 := ⟨k - 1, by omega⟩
          rw [tambourref04_Number.j2]
          exact n_tot (f0 := false) (is := []) hM M.length 0 0 (by omega) (by omega) k (by omega)
        have hj1 : ∀ b : Bool, (b = true → L ≠ []) → NAns s l m (tambourref04_Number.j1 399 l m s b false s []) := by
          intro b hb
          cases b with
          | false =>
            rw [tambourref04_Number.j1, if_neg (by decide)]
            have := hj2 L false 398 (by omega) (by omega)
            rw [← hL] at this
            exact this
          | true =>
            have hne := hb rfl
            have h1 : 1 ≤ L.length := by cases L with | nil => exact absurd rfl hne | cons c r => simp
            rw [tambourref04_Number.j1, if_pos rfl, if_pos (by omega)]
            have := hj2 (L.drop 1) true 398 (by simp; omega) (by simp; omega)
            rw [← ba_drop L 1, ← hL] at this
            exact this
        by_cases hn : s.toList = ([] : List UInt8)
        · rw [if_pos hn]
          exact hj1 false (fun h => by cases h)
        · rw [if_neg hn]
          have hLn : L ≠ [] := by rintro rfl; exact hn (by rw [hL, ba_toList])
          have h1 : 1 ≤ L.length := by cases L with | nil => exact absurd rfl hLn | cons c r => simp
          rw [if_pos (by omega)]
          exact hj1 _ (fun _ => hLn)
    rcases fin with h | ⟨a, _, ha, hs, _⟩
    · exact h
    · exact absurd ⟨a, ha, hs⟩ hx
#print axioms ref_number
/-! ### Atoi -/
theorem parse_digits : ∀ (q : List UInt8) (p : List UInt8), (∀ c ∈ q, 48 ≤ c.toNat ∧ c.toNat ≤ 57) → valD (p ++ q) ≤ 9223372036854775808 → Lib.parseUint10 (valD p) q = .ok (valD (p ++ q))
  | [], p, _, _ => by rw [Lib.parseUint10, List.append_nil]
  | c :: q, p, hd, hv => by
    have h := parse_digits q (p ++ [c]) (fun c hc => hd c (by simp [hc])) (by rw [List.append_assoc]; exact hv)
    have e : valD (p ++ [c]) = valD p * 10 + (c.toNat - 48) := by simp [valD]
    have hle := val_app q (p ++ [c])
    rw [List.append_assoc] at h hle
    simp only [List.cons_append, List.nil_append] at h hle
    rw [e] at h hle
    rw [Lib.parseUint10, if_pos (hd c (by simp)), if_neg (by omega), if_neg (by omega), h]
theorem parse_dec (u : Nat) (hu : u ≤ 9223372036854775808) : Lib.parseMag (Lib.decDigits u) = .ok u := by
  have h := parse_digits (Lib.decDigits u) [] (dec_digit u) (by rw [List.nil_append, val_dec]; exact hu)
  rw [List.nil_append, val_dec, show valD [] = 0 from rfl] at h
  rw [Lib.parseMag, if_neg (dec_ne u), h]
theorem atoi_hit (v : Int) (h : I64 v) : Lib.atoiAll (Lib.itoa v) = .ok v := by
  rcases int_cases v h with ⟨u, rfl, hu⟩ | ⟨u, rfl, hu0, hu⟩
  · rw [itoa_pos]
    have hne := dec_ne u
    have hp := parse_dec u (by omega)
    have hdig := dec_digit u
    cases hl : Lib.decDigits u with
    | nil => exact absurd hl hne
    | cons c r =>
      rw [hl] at hp hdig
      have hc := hdig c (by simp)
      unfold Lib.atoiAll
      simp only
      rw [if_neg (by omega), hp]
      simp only
      rw [if_neg (by omega), if_neg (by omega), if_neg (by omega)]
  · rw [itoa_neg u hu0]
    have hp := parse_dec u hu
    unfold Lib.atoiAll
    simp only
    have e45 : (45 : UInt8).toNat = 45 := rfl
    rw [if_pos (.inr e45), hp]
    simp only
    rw [if_neg (fun h => h.1 e45), if_neg (by omega), if_pos e45]
/-- What the program's Number gives. -/
def numF (x : S24) (l m : Int) : Int × Option Int :=
  match Lib.atoiAll x.f1.data.toList with
  | .ok v => if x.f0 = false ∧ x.f2.length = 0 ∧ ba (Lib.itoa v) = x.f1 ∧ l ≤ v ∧ v ≤ m then (v, none) else (0, some 5)
  | _ => (0, some 5)
theorem numF_num (v l m : Int) (h : I64 v) : numF ⟨false, ba (Lib.itoa v), []⟩ l m = if l ≤ v ∧ v ≤ m then (v, none) else (0, some 5) := by
  unfold numF
  simp only
  rw [ba_data, atoi_hit v h]
  simp only
  by_cases hr : l ≤ v ∧ v ≤ m
  · rw [if_pos hr, if_pos ⟨trivial, rfl, trivial, hr.1, hr.2⟩]
  · rw [if_neg hr, if_neg (fun hh => hr ⟨hh.2.2.2.1, hh.2.2.2.2⟩)]
theorem numF_not (s : ByteArray) (l m : Int) (h : ¬ ∃ v, I64 v ∧ s = ba (Lib.itoa v)) : numF ⟨false, s, []⟩ l m = (0, some 5) := by
  unfold numF
  simp only
  cases ha : Lib.atoiAll s.data.toList with
  | ok v =>
    simp only
    rw [if_neg]
    rintro ⟨_, _, hs, _⟩
    obtain ⟨b0, b1⟩ := Lib.atoiAll_bounds ha
    exact h ⟨v, ⟨b0, b1⟩, hs.symm⟩
  | _ => rfl
/-- Both. -/
theorem both_number (s : ByteArray) (l m : Int) : tambourref04_Number.f 400 false s [] l m = some ((numF ⟨false, s, []⟩ l m).1, codeOf (numF ⟨false, s, []⟩ l m).2) := by
  rcases ref_number s l m with ⟨v, hv, rfl, h⟩ | ⟨hn, h⟩
  · rw [h, numF_num v l m hv]
    unfold inR
    by_cases hr : l ≤ v ∧ v ≤ m
    · rw [if_pos hr, if_pos hr]; rfl
    · rw [if_neg hr, if_neg hr]; rfl
  · rw [h, numF_not s l m hn]; rfl
theorem numF_list (is : List S24) (l m : Int) : numF ⟨true, ⟨#[]⟩, is⟩ l m = (0, some 5) := rfl
theorem num_ref (v : Int) (h : I64 v) : tambourref04_Num.f 400 v = some (false, ba (Lib.itoa v), []) := by
  rw [tambourref04_Num.f, digits_all v h 400 (by omega), Option.bind_some, tambourref04_Text.f, Option.bind_some]
#print axioms both_number
end Go.Proofs.YtehghdmfdinpjaaDoorF
