/- Forms: the plain law of the reader: what length and item read is just a form's bytes. -/
import Derived.Test.YtehghdmfdinpjaaDoorFQ
import Derived.Test.YtehghdmfdinpjaaDoorPAllx2
namespace Go.Proofs.YtehghdmfdinpjaaDoorF
open Go.RowKit Go.Proofs Go.Proofs.YtehghdmfdinpjaaDoorW.PrintWords Go.Proofs.YtehghdmfdinpjaaDoorW.PrintLast
open Go.Proofs.YtehghdmfdinpjaaDoor.PAll (S24 k24 z24 terms_reader_length.l0 terms_reader_length.j1 terms_reader_length.j2 terms_reader_length.j3 terms_reader_length.f terms_reader_item.f terms_reader_item.l0 terms_reader_item.j1)

/-! ### Texts as lists -/
def ba (L : List UInt8) : ByteArray := ⟨L.toArray⟩
theorem ba_list (s : ByteArray) : ba s.data.toList = s := by obtain ⟨⟨l⟩⟩ := s; rfl
theorem ba_size (L : List UInt8) : (ba L).size = L.length := by simp [ba, ByteArray.size]
theorem ba_toList (L : List UInt8) : (ba L).toList = L := by rw [ByteArray.toList_eq]; simp [ba]
theorem ba_data (L : List UInt8) : (ba L).data.toList = L := by simp [ba]
theorem ba_nil : ba [] = ⟨#[]⟩ := rfl
theorem ba_extract (L : List UInt8) (i j : Nat) : (ba L).extract i j = ba ((L.drop i).take (j - i)) := by
  refine ByteArray.ext ?_
  rw [ByteArray.data_extract]
  refine Array.ext' ?_
  simp [ba, List.extract]
theorem ba_drop (L : List UInt8) (i : Nat) : (ba L).extract i (ba L).size = ba (L.drop i) := by
  rw [ba_extract, ba_size, List.take_of_length_le (by simp)]
theorem ba_take (L : List UInt8) (j : Nat) : (ba L).extract 0 j = ba (L.take j) := by
  rw [ba_extract]; simp
theorem bt_ba {L : List UInt8} {i : Nat} {c : UInt8} (h : L[i]? = some c) : bt (ba L) (i : Int) = (c.toNat : Int) := by
  obtain ⟨hi, rfl⟩ := List.getElem?_eq_some_iff.1 h
  have h1 : (i : Int).toNat < (ba L).size := by rw [ba_size]; simpa using hi
  rw [bt, dif_pos h1]
  rfl
/-! ### Canonical digits -/
theorem dec_small {u : Nat} (h : u < 10) : Lib.decDigits u = [UInt8.ofNat (48 + u)] := by rw [Lib.decDigits, dif_pos h]
theorem dec_big {u : Nat} (h : ¬ u < 10) : Lib.decDigits u = Lib.decDigits (u / 10) ++ [UInt8.ofNat (48 + u % 10)] := by rw [Lib.decDigits, dif_neg h]
theorem digit_of {c : UInt8} (h1 : 48 ≤ c.toNat) (h2 : c.toNat ≤ 57) : UInt8.ofNat (48 + (c.toNat - 48)) = c := by
  have : 48 + (c.toNat - 48) = c.toNat := by omega
  rw [this, UInt8.ofNat_toNat]
theorem dec_one {c : UInt8} (h1 : 48 ≤ c.toNat) (h2 : c.toNat ≤ 57) : Lib.decDigits (c.toNat - 48) = [c] := by
  rw [dec_small (by omega), digit_of h1 h2]
theorem dec_push {v : Nat} {c : UInt8} (hv : v ≠ 0) (h1 : 48 ≤ c.toNat) (h2 : c.toNat ≤ 57) : Lib.decDigits (v * 10 + (c.toNat - 48)) = Lib.decDigits v ++ [c] := by
  have e1 : (v * 10 + (c.toNat - 48)) / 10 = v := by omega
  have e2 : (v * 10 + (c.toNat - 48)) % 10 = c.toNat - 48 := by omega
  rw [dec_big (by omega), e1, e2, digit_of h1 h2]
theorem dec_head : ∀ u : Nat, ∀ l, Lib.decDigits u = 48 :: l → u = 0 ∧ l = [] := by
  intro u
  induction u using Nat.strongRecOn with
  | _ u ih =>
  intro l h
  by_cases hu : u < 10
  · rw [dec_small hu] at h
    injection h with h1 h2
    refine ⟨?_, h2.symm⟩
    have := congrArg UInt8.toNat h1
    rw [UInt8.toNat_ofNat'] at this
    have e : (48 : UInt8).toNat = 48 := rfl
    rw [e] at this
    omega
  · rw [dec_big hu] at h
    cases hd : Lib.decDigits (u / 10) with
    | nil => exact absurd hd (dec_ne _)
    | cons c l' =>
      rw [hd] at h
      injection h with h1 _
      subst h1
      have := (ih (u / 10) (by omega) l' hd).1
      omega
theorem val_take (l : List UInt8) (i : Nat) (c : UInt8) (h : l[i]? = some c) : valD (l.take (i + 1)) = valD (l.take i) * 10 + (c.toNat - 48) := by
  rw [List.take_add_one, h]
  simp [valD]
theorem val_app : ∀ (q : List UInt8) (l : List UInt8), valD l ≤ valD (l ++ q)
  | [], l => by simp
  | c :: q, l => by
    have h := val_app q (l ++ [c])
    have e : valD (l ++ [c]) = valD l * 10 + (c.toNat - 48) := by simp [valD]
    rw [List.append_assoc] at h
    simp only [List.cons_append, List.nil_append] at h
    omega
theorem val_take_le (l : List UInt8) (i : Nat) : valD (l.take i) ≤ valD l := by
  conv => rhs; rw [← List.take_append_drop i l]
  exact val_app _ _
/-! ### length -/
theorem len_digit {k : Nat} {v i : Nat} {c : UInt8} {s : ByteArray} (hi : i < 9000000000000000000) (hv : v ≤ 65536) (h1 : 48 ≤ c.toNat) (h2 : c.toNat ≤ 57) :
    (if (wrap64 ((wrap64 ((v : Int) * 10)) + (((c.toNat : Int) - 48) % 256))) > 65536 then some ((0 : Int), false, s) else terms_reader_length.l0 k (wrap64 ((wrap64 ((v : Int) * 10)) + (((c.toNat : Int) - 48) % 256))) (wrap64 ((i : Int) + 1)) s)
      = if 65536 < v * 10 + (c.toNat - 48) then some ((0 : Int), false, s) else terms_reader_length.l0 k ((v * 10 + (c.toNat - 48) : Nat) : Int) ((i + 1 : Nat) : Int) s := by
  have e1 : wrap64 ((wrap64 ((v : Int) * 10)) + (((c.toNat : Int) - 48) % 256)) = ((v * 10 + (c.toNat - 48) : Nat) : Int) := by unfold wrap64; omega
  have e2 : wrap64 ((i : Int) + 1) = ((i + 1 : Nat) : Int) := by unfold wrap64; omega
  rw [e1, e2]
  by_cases h : 65536 < v * 10 + (c.toNat - 48)
  · rw [if_pos h, if_pos (by omega)]
  · rw [if_neg h, if_neg (by omega)]
/-- One digit that stands not at a text's zero. -/
theorem len_step {k v i : Nat} {L : List UInt8} {c : UInt8} (hL : L.length < 9000000000000000000) (hc : L[i]? = some c) (hv : v ≤ 65536) (h1 : 48 ≤ c.toNat) (h2 : c.toNat ≤ 57) (h0 : i = 0 → c.toNat ≠ 48) :
    terms_reader_length.l0 (k + 3) (v : Int) (i : Int) (ba L) = if 65536 < v * 10 + (c.toNat - 48) then some ((0 : Int), false, ba L) else terms_reader_length.l0 k ((v * 10 + (c.toNat - 48) : Nat) : Int) ((i + 1 : Nat) : Int) (ba L) := by
  have hi := (List.getElem?_eq_some_iff.1 hc).1
  have p1 : (i : Int) < ((ba L).size : Int) := by rw [ba_size]; omega
  have p2 : (0 : Int) ≤ (i : Int) := Int.natCast_nonneg _
  have hj : terms_reader_length.j1 (k + 2) (v : Int) (i : Int) (c.toNat : Int) false (ba L) = if 65536 < v * 10 + (c.toNat - 48) then some ((0 : Int), false, ba L) else terms_reader_length.l0 k ((v * 10 + (c.toNat - 48) : Nat) : Int) ((i + 1 : Nat) : Int) (ba L) := by
    have q1 : (c.toNat : Int) ≥ 48 := by omega
    have q2 : decide ((c.toNat : Int) ≤ 57) = true := decide_eq_true (by omega)
    rw [terms_reader_length.j1, if_neg (by decide), if_pos q1, q2, terms_reader_length.j2, if_pos rfl]
    exact len_digit (by omega) hv h1 h2
  rw [terms_reader_length.l0, if_pos p1, if_pos p2, bt_ba hc]
  by_cases hz : i = 0
  · rw [if_pos (by omega)]
    have : ((c.toNat : Int) == 48) = false := by
      have := h0 hz
      rw [beq_eq_false_iff_ne]; omega
    rw [this, hj]
  · rw [if_neg (by omega), hj]
/-- A zero ahead. -/
theorem len_zero {k : Nat} {L : List UInt8} (hc : L[0]? = some 48) :
    terms_reader_length.l0 (k + 3) 0 0 (ba L) = if L[1]? = some 58 then terms_reader_length.l0 k 0 1 (ba L) else some (0, false, ba L) := by
  have hi := (List.getElem?_eq_some_iff.1 hc).1
  have p1 : (0 : Int) < ((ba L).size : Int) := by rw [ba_size]; omega
  have hb := bt_ba hc
  have e48 : ((48 : UInt8).toNat : Int) = 48 := rfl
  rw [e48] at hb
  have hb' : bt (ba L) 0 = 48 := hb
  rw [terms_reader_length.l0, if_pos p1, if_pos (by decide), if_pos rfl, hb', terms_reader_length.j1, if_pos (by decide)]
  by_cases h2 : L.length < 2
  · have p2 : ((ba L).size : Int) < 2 := by rw [ba_size]; omega
    have hn : L[1]? = none := List.getElem?_eq_none (by omega)
    rw [if_pos p2, hn, if_neg (by simp), terms_reader_length.j3, if_pos rfl]
  · have p2 : ¬ ((ba L).size : Int) < 2 := by rw [ba_size]; omega
    have p3 : (1 : Int) < ((ba L).size : Int) := by rw [ba_size]; omega
    have h1 : L[1]? = some L[1] := List.getElem?_eq_getElem (by omega)
    have hb1 : bt (ba L) 1 = (L[1].toNat : Int) := bt_ba h1
    rw [if_neg p2, if_pos p3, hb1, h1, terms_reader_length.j3]
    by_cases h58 : L[1] = 58
    · have e58 : ((58 : UInt8).toNat : Int) = 58 := rfl
      rw [h58, e58, if_neg (by decide), if_pos rfl]
      have w1 : wrap64 (wrap64 (0 * 10) + (48 - 48) % 256) = 0 := by unfold wrap64; rfl
      have w2 : wrap64 (0 + 1) = 1 := by unfold wrap64; rfl
      rw [w1, w2, if_neg (by decide)]
    · have hne : ((L[1].toNat : Int) != 58) = true := by
        rw [bne_iff_ne]
        intro h
        exact h58 (UInt8.toNat_inj.1 (by show _ = 58; omega))
      rw [if_pos hne, if_neg (by intro h; exact h58 (Option.some.inj h))]
/-- At the colon. -/
theorem len_colon {k v i : Nat} {L : List UInt8} (hL : L.length < 9000000000000000000) (hc : L[i]? = some 58) (h0 : 0 < i) :
    terms_reader_length.l0 (k + 3) (v : Int) (i : Int) (ba L) = some ((v : Int), decide (v ≤ (L.drop (i + 1)).length), ba (L.drop (i + 1))) := by
  have hi := (List.getElem?_eq_some_iff.1 hc).1
  have p1 : (i : Int) < ((ba L).size : Int) := by rw [ba_size]; omega
  have p2 : (0 : Int) ≤ (i : Int) := Int.natCast_nonneg _
  have e58 : ((58 : UInt8).toNat : Int) = 58 := rfl
  have hw : wrap64 ((i : Int) + 1) = ((i + 1 : Nat) : Int) := by unfold wrap64; omega
  rw [terms_reader_length.l0, if_pos p1, if_pos p2, bt_ba hc, e58, if_neg (by omega), terms_reader_length.j1, if_neg (by decide), if_pos (by decide)]
  have d1 : decide ((58 : Int) ≤ 57) = false := by decide
  rw [d1, terms_reader_length.j2, if_neg (by decide), if_pos rfl, if_pos (by omega), hw, if_pos (by omega), if_pos (by rw [ba_size]; omega), Int.toNat_natCast, ba_drop, ba_size]
  congr 3
  rw [decide_eq_decide]
  omega
/-- At another byte, or at the end. -/
theorem len_else {k v i : Nat} {L : List UInt8} (hc : ∀ c, L[i]? = some c → ¬ (48 ≤ c.toNat ∧ c.toNat ≤ 57) ∧ (c = 58 → i = 0)) :
    terms_reader_length.l0 (k + 3) (v : Int) (i : Int) (ba L) = some (0, false, ba L) := by
  by_cases hi : i < L.length
  · have h1 : L[i]? = some L[i] := List.getElem?_eq_getElem hi
    obtain ⟨hd, h58⟩ := hc _ h1
    have p1 : (i : Int) < ((ba L).size : Int) := by rw [ba_size]; omega
    have p2 : (0 : Int) ≤ (i : Int) := Int.natCast_nonneg _
    have hj2 : ∀ b, b = false → terms_reader_length.j2 (k + 1) (v : Int) (i : Int) (L[i].toNat : Int) b (ba L) = some (0, false, ba L) := by
      rintro _ rfl
      rw [terms_reader_length.j2, if_neg (by decide)]
      by_cases hx : L[i] = 58
      · have e58 : (L[i].toNat : Int) = 58 := by rw [hx]; rfl
        rw [if_pos e58, if_neg (by have := h58 hx; omega)]
      · rw [if_neg (fun h => hx (UInt8.toNat_inj.1 (by show _ = 58; omega)))]
    have hj1 : terms_reader_length.j1 (k + 2) (v : Int) (i : Int) (L[i].toNat : Int) false (ba L) = some (0, false, ba L) := by
      rw [terms_reader_length.j1, if_neg (by decide)]
      by_cases h48 : (L[i].toNat : Int) ≥ 48
      · rw [if_pos h48]
        exact hj2 _ (decide_eq_false (by omega))
      · rw [if_neg h48]
        exact hj2 _ rfl
    rw [terms_reader_length.l0, if_pos p1, if_pos p2, bt_ba h1]
    by_cases hz : (i : Int) = 0
    · rw [if_pos hz]
      have : ((L[i].toNat : Int) == 48) = false := by rw [beq_eq_false_iff_ne]; omega
      rw [this]
      exact hj1
    · rw [if_neg hz]
      exact hj1
  · rw [terms_reader_length.l0, if_neg (by rw [ba_size]; omega)]
/-- A text's length that stands there is read. -/
theorem len_hit {n : Nat} {rest : List UInt8} (hn : n ≤ 65536) (hL : (Lib.decDigits n ++ 58 :: rest).length < 9000000000000000000) : ∀ (m i : Nat), i + m = (Lib.decDigits n).length → ∀ k, 3 * m + 3 ≤ k →
    terms_reader_length.l0 k (valD ((Lib.decDigits n).take i) : Int) (i : Int) (ba (Lib.decDigits n ++ 58 :: rest)) = some ((n : Int), decide (n ≤ rest.length), ba rest) := by
  intro m
  induction m with
  | zero =>
    intro i hi k hk
    obtain ⟨k, rfl⟩ : ∃ k', k = k' + 3 := ⟨k - 3, by omega⟩
    have hp : 0 < i := by
      have := dec_ne n
      cases h : Lib.decDigits n with
      | nil => exact absurd h this
      | cons c l => rw [h] at hi; simp at hi; omega
    have hc : (Lib.decDigits n ++ 58 :: rest)[i]? = some 58 := by
      rw [List.getElem?_append_right (by omega)]
      have : i - (Lib.decDigits n).length = 0 := by omega
      rw [this]; rfl
    rw [len_colon hL hc hp]
    have hd : (Lib.decDigits n ++ 58 :: rest).drop (i + 1) = rest := by
      have : i + 1 = (Lib.decDigits n ++ [58]).length := by simp; omega
      rw [this, show Lib.decDigits n ++ 58 :: rest = (Lib.decDigits n ++ [58]) ++ rest by simp, List.drop_left]
    rw [hd, List.take_of_length_le (by omega), val_dec]
  | succ m ih =>
    intro i hi k hk
    obtain ⟨k, rfl⟩ : ∃ k', k = k' + 3 := ⟨k - 3, by omega⟩
    have h1 : i < (Lib.decDigits n).length := by omega
    have hc0 : (Lib.decDigits n)[i]? = some (Lib.decDigits n)[i] := List.getElem?_eq_getElem h1
    have hc : (Lib.decDigits n ++ 58 :: rest)[i]? = some (Lib.decDigits n)[i] := by rw [List.getElem?_append_left h1, hc0]
    obtain ⟨d1, d2⟩ := dec_digit n _ (List.getElem_mem h1)
    have hval := val_take _ _ _ hc0
    have hle := val_take_le (Lib.decDigits n) (i + 1)
    have hle0 := val_take_le (Lib.decDigits n) i
    rw [val_dec] at hle hle0
    by_cases hz : i = 0 ∧ (Lib.decDigits n)[i] = 48
    · obtain ⟨rfl, hz⟩ := hz
      have hcons : Lib.decDigits n = 48 :: (Lib.decDigits n).drop 1 := by
        have := List.drop_eq_getElem_cons h1
        rw [hz] at this
        simpa using this
      obtain ⟨rfl, hnil⟩ := dec_head n _ hcons
      have hone : Lib.decDigits 0 = [48] := by rw [hcons, hnil]
      rw [hone] at hi hL ⊢
      simp at hi
      subst hi
      have := ih 1 (by rw [hone]; rfl) k (by omega)
      rw [hone] at this
      show terms_reader_length.l0 (k + 3) 0 0 _ = _
      rw [len_zero (by rfl), if_pos (by rfl)]
      exact this
    · rw [len_step hL hc (by omega) d1 d2 (fun h0 h48 => hz ⟨h0, UInt8.toNat_inj.1 h48⟩), if_neg (by omega), ← hval]
      exact ih (i + 1) (by omega) k (by omega)
/-- It always answers; where it says yes a length stands there. -/
theorem len_tot {L : List UInt8} (hL : L.length < 9000000000000000000) : ∀ (m i v : Nat), i + m = L.length → v ≤ 65536 → (i = 0 → v = 0) → (i ≠ 0 → L.take i = Lib.decDigits v ∧ (v = 0 → L[i]? = some 58)) → ∀ k, 3 * m + 3 ≤ k →
    ∃ a ok s', terms_reader_length.l0 k (v : Int) (i : Int) (ba L) = some (a, ok, s') ∧ (ok = true → ∃ (n : Nat) (rest : List UInt8), L = Lib.decDigits n ++ 58 :: rest ∧ n ≤ 65536 ∧ n ≤ rest.length ∧ a = n ∧ s' = ba rest) := by
  intro m
  induction m with
  | zero =>
    intro i v hi hv h0 hd k hk
    obtain ⟨k, rfl⟩ : ∃ k', k = k' + 3 := ⟨k - 3, by omega⟩
    exact ⟨_, _, _, len_else (fun c hc => by rw [List.getElem?_eq_none (by omega)] at hc; cases hc), fun h => by cases h⟩
  | succ m ih =>
    intro i v hi hv h0 hd k hk
    obtain ⟨k, rfl⟩ : ∃ k', k = k' + 3 := ⟨k - 3, by omega⟩
    have h1 : i < L.length := by omega
    have hc : L[i]? = some L[i] := List.getElem?_eq_getElem h1
    by_cases hdig : 48 ≤ L[i].toNat ∧ L[i].toNat ≤ 57
    · obtain ⟨d1, d2⟩ := hdig
      have htk : L.take (i + 1) = L.take i ++ [L[i]] := by rw [List.take_add_one, hc]; rfl
      by_cases hz : i = 0 ∧ L[i].toNat = 48
      · obtain ⟨rfl, hz⟩ := hz
        obtain rfl := h0 rfl
        have hc48 : L[0]? = some 48 := by rw [hc]; exact congrArg some (UInt8.toNat_inj.1 hz)
        show ∃ a ok s', terms_reader_length.l0 (k + 3) 0 0 (ba L) = some (a, ok, s') ∧ _
        rw [len_zero hc48]
        by_cases h58 : L[1]? = some 58
        · rw [if_pos h58]
          refine ih 1 0 (by omega) (by omega) (fun h => by omega) (fun _ => ⟨?_, fun _ => h58⟩) k (by omega)
          rw [htk, List.take_zero, List.nil_append, ← dec_one d1 d2, hz]
        · rw [if_neg h58]
          exact ⟨_, _, _, rfl, fun h => by cases h⟩
      · rw [len_step hL hc hv d1 d2 (fun a b => hz ⟨a, b⟩)]
        by_cases hb : 65536 < v * 10 + (L[i].toNat - 48)
        · rw [if_pos hb]
          exact ⟨_, _, _, rfl, fun h => by cases h⟩
        · rw [if_neg hb]
          by_cases hi0 : i = 0
          · subst hi0
            obtain rfl := h0 rfl
            refine ih 1 _ (by omega) (by omega) (fun h => by omega) (fun _ => ⟨?_, fun h => ?_⟩) k (by omega)
            · rw [htk, List.take_zero, List.nil_append, ← dec_one d1 d2]; simp
            · exact absurd ⟨rfl, by omega⟩ hz
          · obtain ⟨e1, e2⟩ := hd hi0
            have hv0 : v ≠ 0 := fun h => by
              have := e2 h
              rw [hc] at this
              have := Option.some.inj this
              rw [this] at d2
              revert d2; decide
            refine ih (i + 1) _ (by omega) (by omega) (fun h => by omega) (fun _ => ⟨?_, fun h => ?_⟩) k (by omega)
            · rw [htk, e1, dec_push hv0 d1 d2]
            · omega
    · by_cases h58 : L[i] = 58 ∧ i ≠ 0
      · obtain ⟨h58, hi0⟩ := h58
        rw [len_colon hL (by rw [hc, h58]) (by omega)]
        refine ⟨_, _, _, rfl, fun h => ⟨v, L.drop (i + 1), ?_, hv, by simpa using h, rfl, rfl⟩⟩
        rw [← (hd hi0).1, ← h58, ← List.drop_eq_getElem_cons h1, List.take_append_drop]
      · rw [len_else (fun c hcc => by
          rw [hc] at hcc
          obtain rfl := Option.some.inj hcc
          exact ⟨hdig, fun h => Decidable.byContradiction fun hne => h58 ⟨h, hne⟩⟩)]
        exact ⟨_, _, _, rfl, fun h => by cases h⟩
#print axioms len_tot
end Go.Proofs.YtehghdmfdinpjaaDoorF
