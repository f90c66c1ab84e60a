/- Forms: the plain law of the document's reader: it reads just a form's bytes. -/
import Derived.Test.YtehghdmfdinpjaaDoorFXa
import Derived.Test.YtehghdmfdinpjaaDoorPAllj
namespace Go.Proofs.YtehghdmfdinpjaaDoorF
open Go.RowKit Go.Proofs Go.Proofs.YtehghdmfdinpjaaDoorW.PrintWords Go.Proofs.YtehghdmfdinpjaaDoorW.PrintLast
open Go.Proofs.YtehghdmfdinpjaaDoor.PAll (S24 k24 z24 tambourref04_item.f tambourref04_item.l0 tambourref04_item.j1 tambourref04_item.l1 tambourref04_Text.f tambourref04_Read.f)

abbrev Res := Option (Bool × ByteArray × List S24 × ByteArray × Bool)
def failR : Res := some (false, ⟨#[]⟩, [], ⟨#[]⟩, false)
def tailF (x0 : ByteArray) (x11 x12 : Int) : Res :=
  if x12 ≥ (x0.size : Int) then failR else (if (bt x0 x12) = 58 then (if x11 > (wrap64 ((wrap64 ((x0.size : Int) - x12)) - 1)) then failR else (if 0 ≤ (wrap64 (x12 + 1)) then (if (wrap64 (x12 + 1)) ≤ (wrap64 ((wrap64 (x12 + 1)) + x11)) then (if (wrap64 ((wrap64 (x12 + 1)) + x11)) ≤ (x0.size : Int) then ((tambourref04_Text.f (x0.extract ((wrap64 (x12 + 1)) : Int).toNat ((wrap64 ((wrap64 (x12 + 1)) + x11)) : Int).toNat)).bind fun b => (if 0 ≤ (wrap64 ((wrap64 (x12 + 1)) + x11)) then (some (b.1, b.2.1, b.2.2, x0.extract ((wrap64 ((wrap64 (x12 + 1)) + x11)) : Int).toNat x0.size, true)) else (none))) else (none)) else (none)) else (none))) else failR)
def endF (x0 : ByteArray) (x11 x12 : Int) : Res :=
  if x12 = 0 then failR else (if x12 > 1 then (if 0 < (x0.size : Int) then (if (bt x0 0) = 48 then failR else tailF x0 x11 x12) else (none)) else tailF x0 x11 x12)
section
variable {L : List UInt8} {i v k : Nat}
theorem tail_ok (hL : L.length < 9000000000) (hc : L[i]? = some 58) (hv : v ≤ (L.drop (i + 1)).length) : tailF (ba L) v i = some (false, ba ((L.drop (i + 1)).take v), [], ba ((L.drop (i + 1)).drop v), true) := by
  have hi := (List.getElem?_eq_some_iff.1 hc).1
  have e58 : ((58 : UInt8).toNat : Int) = 58 := rfl
  have hs := ba_size L
  rw [List.length_drop] at hv
  have w1 : wrap64 ((i : Int) + 1) = ((i + 1 : Nat) : Int) := by unfold wrap64; omega
  have w2 : wrap64 (((i + 1 : Nat) : Int) + (v : Int)) = ((i + 1 + v : Nat) : Int) := by unfold wrap64; omega
  have w3 : wrap64 ((wrap64 ((L.length : Int) - (i : Int))) - 1) = ((L.length - i - 1 : Nat) : Int) := by unfold wrap64; omega
  rw [tailF, hs, if_neg (by omega), bt_ba hc, e58, if_pos rfl, w3, if_neg (by omega), w1, if_pos (by omega), w2, if_pos (by omega), if_pos (by omega), Int.toNat_natCast, Int.toNat_natCast, tambourref04_Text.f, Option.bind_some, if_pos (by omega)]
  rw [ba_extract, ba_extract, List.drop_drop]
  have e1 : i + 1 + v - (i + 1) = v := by omega
  rw [e1, List.take_of_length_le (l := L.drop (i + 1 + v)) (by rw [List.length_drop]; exact Nat.le_refl _)]
theorem tail_fail (hL : L.length < 9000000000) (hi : i ≤ L.length) (h : ¬ (L[i]? = some 58 ∧ v ≤ (L.drop (i + 1)).length)) (hv : v < 9000000000) : tailF (ba L) v i = failR := by
  have hs := ba_size L
  by_cases hil : i < L.length
  · have hc : L[i]? = some L[i] := List.getElem?_eq_getElem hil
    rw [tailF, hs, if_neg (by omega), bt_ba hc]
    by_cases h58 : L[i] = 58
    · have e58 : (L[i].toNat : Int) = 58 := by rw [h58]; rfl
      have w3 : wrap64 ((wrap64 ((L.length : Int) - (i : Int))) - 1) = ((L.length - i - 1 : Nat) : Int) := by unfold wrap64; omega
      have hv2 : ¬ v ≤ (L.drop (i + 1)).length := fun hh => h ⟨by rw [hc, h58], hh⟩
      rw [List.length_drop] at hv2
      rw [if_pos e58, w3, if_pos (by omega)]
    · rw [if_neg (fun hh => h58 (UInt8.toNat_inj.1 (by show _ = 58; omega)))]
  · rw [tailF, hs, if_pos (by omega)]
theorem bt_head (h0 : 0 < L.length) : (bt (ba L) 0 = 48 ↔ L[0]? = some 48) := by
  have hc : L[0]? = some L[0] := List.getElem?_eq_getElem h0
  have hb : bt (ba L) 0 = (L[0].toNat : Int) := bt_ba hc
  rw [hb, hc]
  constructor
  · intro h
    exact congrArg some (UInt8.toNat_inj.1 (by show _ = 48; omega))
  · intro h
    have := Option.some.inj h
    rw [this]; rfl
theorem end_ok (hL : L.length < 9000000000) (h0 : 0 < i) (hz : 1 < i → L[0]? ≠ some 48) (hc : L[i]? = some 58) (hv : v ≤ (L.drop (i + 1)).length) : endF (ba L) v i = some (false, ba ((L.drop (i + 1)).take v), [], ba ((L.drop (i + 1)).drop v), true) := by
  have hi := (List.getElem?_eq_some_iff.1 hc).1
  have hs := ba_size L
  rw [endF, if_neg (by omega)]
  by_cases h1 : 1 < i
  · rw [if_pos (by omega), if_pos (by omega), if_neg (fun h => hz h1 ((bt_head (by omega)).1 h)), tail_ok hL hc hv]
  · rw [if_neg (by omega), tail_ok hL hc hv]
theorem end_fail (hL : L.length < 9000000000) (hl0 : 0 < L.length) (hi : i ≤ L.length) (hv : v < 9000000000) (h : ¬ (0 < i ∧ (1 < i → L[0]? ≠ some 48) ∧ L[i]? = some 58 ∧ v ≤ (L.drop (i + 1)).length)) : endF (ba L) v i = failR := by
  have hs := ba_size L
  by_cases h0 : i = 0
  · rw [endF, if_pos (by omega)]
  · rw [endF, if_neg (by omega)]
    by_cases h1 : 1 < i
    · rw [if_pos (by omega), if_pos (by omega)]
      by_cases hz : L[0]? = some 48
      · rw [if_pos ((bt_head hl0).2 hz)]
      · rw [if_neg (fun hh => hz ((bt_head hl0).1 hh)), tail_fail hL hi (fun hh => h ⟨by omega, fun _ => hz, hh⟩) hv]
    · rw [if_neg (by omega), tail_fail hL hi (fun hh => h ⟨by omega, fun h2 => absurd h2 h1, hh⟩) hv]
theorem l1_digit {c : UInt8} (hc : L[i]? = some c) (hv : v ≤ 99999) (h1 : 48 ≤ c.toNat) (h2 : c.toNat ≤ 57) (h6 : i < 6) : tambourref04_item.l1 (k + 1) (ba L) v i = tambourref04_item.l1 k (ba L) ((v * 10 + (c.toNat - 48) : Nat) : Int) ((i + 1 : Nat) : Int) := by
  have hi := (List.getElem?_eq_some_iff.1 hc).1
  have hs := ba_size L
  have e1 : wrap64 ((wrap64 ((v : Int) * 10)) + (((c.toNat : Int) - 48) % 256)) = ((v * 10 + (c.toNat - 48) : Nat) : Int) := by unfold wrap64; omega
  have e2 : wrap64 ((i : Int) + 1) = ((i + 1 : Nat) : Int) := by unfold wrap64; omega
  rw [tambourref04_item.l1, if_pos (by omega), if_pos (by omega), bt_ba hc, if_pos (by omega), if_pos (by omega), if_pos (by omega), e1, e2]
theorem l1_end {c : UInt8} (hc : L[i]? = some c) (h : ¬ (48 ≤ c.toNat ∧ c.toNat ≤ 57) ∨ 6 ≤ i) : tambourref04_item.l1 (k + 1) (ba L) v i = endF (ba L) v i := by
  have hi := (List.getElem?_eq_some_iff.1 hc).1
  have hs := ba_size L
  have hb := bt_ba hc
  by_cases h1 : 48 ≤ c.toNat
  · by_cases h2 : c.toNat ≤ 57
    · have h6 : 6 ≤ i := by omega
      rw [tambourref04_item.l1, if_pos (by omega), if_pos (by omega), if_pos (by omega), if_pos (by omega), if_neg (by omega)]
      rfl
    · rw [tambourref04_item.l1, if_pos (by omega), if_pos (by omega), if_pos (by omega), if_neg (by omega)]
      rfl
  · rw [tambourref04_item.l1, if_pos (by omega), if_pos (by omega), if_neg (by omega)]
    rfl
theorem l1_over (h0 : 0 < L.length) (hi : i = L.length) : tambourref04_item.l1 (k + 1) (ba L) v i = failR := by
  have hs := ba_size L
  rw [tambourref04_item.l1, if_neg (by omega), if_neg (by omega)]
  by_cases h1 : 1 < i
  · rw [if_pos (by omega), if_pos (by omega)]
    by_cases hz : bt (ba L) 0 = 48
    · rw [if_pos hz]; rfl
    · rw [if_neg hz, if_pos (by omega)]; rfl
  · rw [if_neg (by omega), if_pos (by omega)]; rfl
end
theorem dec_len_pow : ∀ (k n : Nat), n < 10 ^ (k + 1) → (Lib.decDigits n).length ≤ k + 1
  | 0, n, h => by rw [dec_small (by simpa using h)]; simp
  | k + 1, n, h => by
    by_cases hn : n < 10
    · rw [dec_small hn]; simp
    · have := dec_len_pow k (n / 10) (by rw [Nat.pow_succ] at h; omega)
      rw [dec_big hn, List.length_append, List.length_singleton]
      omega
/-- A text that stands there is read. -/
theorem l1_hit {n : Nat} {rest : List UInt8} (hn : n ≤ 65536) (hr : n ≤ rest.length) (hL : (Lib.decDigits n ++ 58 :: rest).length < 9000000000) : ∀ (m i : Nat), i + m = (Lib.decDigits n).length → ∀ k, m + 1 ≤ k →
    tambourref04_item.l1 k (ba (Lib.decDigits n ++ 58 :: rest)) (valD ((Lib.decDigits n).take i) : Int) (i : Int) = some (false, ba (rest.take n), [], ba (rest.drop n), true) := by
  have h5 := dec_len_pow 4 n (by omega)
  intro m
  induction m with
  | zero =>
    intro i hi k hk
    obtain ⟨k, rfl⟩ : ∃ k', k = k' + 1 := ⟨k - 1, by omega⟩
    have hp : 0 < i := by
      have := dec_ne n
      cases h : Lib.decDigits n with
      | nil => exact absurd h this
      | cons c l => rw [h] at hi; simp at hi; omega
    have hc : (Lib.decDigits n ++ 58 :: rest)[i]? = some 58 := by
      rw [List.getElem?_append_right (by omega)]
      have : i - (Lib.decDigits n).length = 0 := by omega
      rw [this]; rfl
    have hd : (Lib.decDigits n ++ 58 :: rest).drop (i + 1) = rest := by
      have : i + 1 = (Lib.decDigits n ++ [58]).length := by simp; omega
      rw [this, show Lib.decDigits n ++ 58 :: rest = (Lib.decDigits n ++ [58]) ++ rest by simp, List.drop_left]
    rw [List.take_of_length_le (by omega), val_dec, l1_end hc (.inl (by decide)), end_ok hL hp ?_ hc (by rw [hd]; exact hr), hd]
    intro h1 h48
    rw [List.getElem?_append_left (by omega)] at h48
    have hcons : Lib.decDigits n = 48 :: (Lib.decDigits n).drop 1 := by
      obtain ⟨hlt, h48'⟩ := List.getElem?_eq_some_iff.1 h48
      have := List.drop_eq_getElem_cons hlt
      rw [h48'] at this
      simpa using this
    have := (dec_head n _ hcons).2
    have h9 := congrArg List.length hcons
    rw [this] at h9
    simp at h9
    omega
  | succ m ih =>
    intro i hi k hk
    obtain ⟨k, rfl⟩ : ∃ k', k = k' + 1 := ⟨k - 1, by omega⟩
    have h1 : i < (Lib.decDigits n).length := by omega
    have hc0 : (Lib.decDigits n)[i]? = some (Lib.decDigits n)[i] := List.getElem?_eq_getElem h1
    have hc : (Lib.decDigits n ++ 58 :: rest)[i]? = some (Lib.decDigits n)[i] := by rw [List.getElem?_append_left h1, hc0]
    obtain ⟨d1, d2⟩ := dec_digit n _ (List.getElem_mem h1)
    have hval := val_take _ _ _ hc0
    have hle0 := val_take_le (Lib.decDigits n) i
    rw [val_dec] at hle0
    rw [l1_digit hc (by omega) d1 d2 (by omega), ← hval]
    exact ih (i + 1) (by omega) k (by omega)
/-- It always answers; where it says yes a text stands there. -/
theorem l1_tot {L : List UInt8} (h0 : 0 < L.length) (hL : L.length < 9000000000) : ∀ (m i v : Nat), i + m = 7 → i ≤ L.length → v < 10 ^ i → (i = 0 → v = 0) → (i ≠ 0 → L.take i = Lib.decDigits v ∨ (1 < i ∧ L[0]? = some 48)) → ∀ k, m + 1 ≤ k →
    ∃ t r ok, tambourref04_item.l1 k (ba L) (v : Int) (i : Int) = some (false, ba t, [], ba r, ok) ∧ (ok = true → L = numT (ba t) ++ r) := by
  intro m
  have fail : ∀ (k i v : Nat), tambourref04_item.l1 k (ba L) (v : Int) (i : Int) = failR → ∃ t r ok, tambourref04_item.l1 k (ba L) (v : Int) (i : Int) = some (false, ba t, [], ba r, ok) ∧ (ok = true → L = numT (ba t) ++ r) := fun k i v h => ⟨[], [], false, h, fun h => by cases h⟩
  have stop : ∀ (k i v : Nat) (c : UInt8), i ≤ L.length → v < 9000000000 → (i ≠ 0 → L.take i = Lib.decDigits v ∨ (1 < i ∧ L[0]? = some 48)) → L[i]? = some c → (¬ (48 ≤ c.toNat ∧ c.toNat ≤ 57) ∨ 6 ≤ i) → ∃ t r ok, tambourref04_item.l1 (k + 1) (ba L) (v : Int) (i : Int) = some (false, ba t, [], ba r, ok) ∧ (ok = true → L = numT (ba t) ++ r) := by
    intro k i v c hi hv hd hc hs
    rw [l1_end hc hs]
    by_cases hok : 0 < i ∧ (1 < i → L[0]? ≠ some 48) ∧ L[i]? = some 58 ∧ v ≤ (L.drop (i + 1)).length
    · obtain ⟨o1, o2, o3, o4⟩ := hok
      rw [end_ok hL o1 o2 o3 o4]
      refine ⟨_, _, _, rfl, fun _ => ?_⟩
      have htk : L.take i = Lib.decDigits v := by
        rcases hd (by omega) with h | ⟨h1, h2⟩
        · exact h
        · exact absurd h2 (o2 h1)
      obtain ⟨hlt, h58⟩ := List.getElem?_eq_some_iff.1 o3
      rw [numT_ba, List.length_take, Nat.min_eq_left o4, List.append_assoc, List.cons_append, List.take_append_drop, ← htk, ← h58, ← List.drop_eq_getElem_cons hlt, List.take_append_drop]
    · rw [end_fail hL h0 hi hv hok]
      exact ⟨[], [], false, rfl, fun h => by cases h⟩
  induction m with
  | zero =>
    intro i v hi hil hv hv0 hd k hk
    obtain ⟨k, rfl⟩ : ∃ k', k = k' + 1 := ⟨k - 1, by omega⟩
    obtain rfl : i = 7 := by omega
    by_cases hlt : 7 < L.length
    · exact stop k 7 v _ hil (by omega) hd (List.getElem?_eq_getElem hlt) (.inr (by omega))
    · exact fail _ _ _ (l1_over h0 (by omega))
  | succ m ih =>
    intro i v hi hil hv hv0 hd k hk
    obtain ⟨k, rfl⟩ : ∃ k', k = k' + 1 := ⟨k - 1, by omega⟩
    have hv6 : v < 1000000 := Nat.lt_of_lt_of_le hv (Nat.pow_le_pow_right (by omega) (show i ≤ 6 by omega))
    by_cases hlt : i < L.length
    · have hc : L[i]? = some L[i] := List.getElem?_eq_getElem hlt
      by_cases hdig : (48 ≤ L[i].toNat ∧ L[i].toNat ≤ 57) ∧ i < 6
      · obtain ⟨⟨d1, d2⟩, h6⟩ := hdig
        have hv5 : v < 100000 := Nat.lt_of_lt_of_le hv (Nat.pow_le_pow_right (by omega) (show i ≤ 5 by omega))
        have htk : L.take (i + 1) = L.take i ++ [L[i]] := by rw [List.take_add_one, hc]; rfl
        rw [l1_digit hc (by omega) d1 d2 h6]
        refine ih (i + 1) _ (by omega) (by omega) (by rw [Nat.pow_succ]; omega) (fun h => by omega) (fun _ => ?_) k (by omega)
        by_cases hi0 : i = 0
        · subst hi0
          obtain rfl := hv0 rfl
          left
          rw [htk, List.take_zero, List.nil_append, ← dec_one d1 d2]; simp
        · rcases hd hi0 with h | ⟨h1, h2⟩
          · by_cases hvz : v = 0
            · subst hvz
              right
              refine ⟨by omega, ?_⟩
              have e0 : (L.take i)[0]? = L[0]? := by rw [List.getElem?_take, if_pos (by omega)]
              rw [← e0, h, dec_small (by omega)]
              rfl
            · left
              rw [htk, h, dec_push hvz d1 d2]
          · exact .inr ⟨by omega, h2⟩
      · exact stop k i v _ hil (by omega) hd hc (by omega)
    · exact fail _ _ _ (l1_over h0 (by omega))
/-! ### item -/
theorem ritem_nil {k : Nat} {d : Int} : tambourref04_item.f (k + 1) (ba []) d = failR := by
  rw [tambourref04_item.f, ba_toList, if_pos rfl]; rfl
theorem ritem_list {k d : Nat} {L : List UInt8} (h : d < 8) : tambourref04_item.f (k + 1) (ba (40 :: L)) (d : Int) = tambourref04_item.l0 k (ba L) (d : Int) true ⟨#[]⟩ [] := by
  have hb : bt (ba (40 :: L)) 0 = 40 := bt_ba (L := 40 :: L) (i := 0) (c := 40) rfl
  have hs : (ba (40 :: L)).size = L.length + 1 := by rw [ba_size]; rfl
  rw [tambourref04_item.f, ba_toList, if_neg (by simp), if_pos (by omega), if_pos hb, if_neg (by omega), if_pos (by omega), ba_drop]
  rfl
theorem ritem_deep {k d : Nat} {L : List UInt8} (h : 8 ≤ d) : tambourref04_item.f (k + 1) (ba (40 :: L)) (d : Int) = failR := by
  have hb : bt (ba (40 :: L)) 0 = 40 := bt_ba (L := 40 :: L) (i := 0) (c := 40) rfl
  have hs : (ba (40 :: L)).size = L.length + 1 := by rw [ba_size]; rfl
  rw [tambourref04_item.f, ba_toList, if_neg (by simp), if_pos (by omega), if_pos hb, if_pos (by omega)]
  rfl
theorem ritem_text {k d : Nat} {c : UInt8} {L : List UInt8} (h : c ≠ 40) : tambourref04_item.f (k + 1) (ba (c :: L)) (d : Int) = tambourref04_item.l1 k (ba (c :: L)) 0 0 := by
  have hb : bt (ba (c :: L)) 0 = (c.toNat : Int) := bt_ba (L := c :: L) (i := 0) (c := c) rfl
  have hs : (ba (c :: L)).size = L.length + 1 := by rw [ba_size]; rfl
  rw [tambourref04_item.f, ba_toList, if_neg (by simp), if_pos (by omega), if_neg (by rw [hb]; intro hh; exact h (UInt8.toNat_inj.1 (by show _ = 40; omega)))]
theorem rloop_nil {k d : Nat} {acc : List S24} : tambourref04_item.l0 (k + 2) (ba []) (d : Int) true ⟨#[]⟩ acc = failR := by
  rw [tambourref04_item.l0, ba_toList, if_pos rfl, tambourref04_item.j1, if_neg (by decide), ba_toList, if_pos rfl]
  rfl
theorem rloop_end {k d : Nat} {L : List UInt8} {acc : List S24} : tambourref04_item.l0 (k + 2) (ba (41 :: L)) (d : Int) true ⟨#[]⟩ acc = some (true, ⟨#[]⟩, acc, ba L, true) := by
  have hb : bt (ba (41 :: L)) 0 = 41 := bt_ba (L := 41 :: L) (i := 0) (c := 41) rfl
  have hs : (ba (41 :: L)).size = L.length + 1 := by rw [ba_size]; rfl
  have e : ((41 : Int) != 41) = false := by decide
  rw [tambourref04_item.l0, ba_toList, if_neg (by simp), if_pos (by omega), hb, e, tambourref04_item.j1, if_neg (by decide), ba_toList, if_neg (by simp), if_pos (by omega), ba_drop]
  rfl
theorem rloop_next {k d : Nat} {c : UInt8} {L : List UInt8} {acc : List S24} (hd : d < 100) (hc : c ≠ 41) (ha : acc.length < 2932031007402) : tambourref04_item.l0 (k + 2) (ba (c :: L)) (d : Int) true ⟨#[]⟩ acc =
    (tambourref04_item.f k (ba (c :: L)) ((d + 1 : Nat) : Int)).bind fun q => if q.2.2.2.2 = true then tambourref04_item.l0 k q.2.2.2.1 (d : Int) true ⟨#[]⟩ (acc ++ [⟨q.1, q.2.1, q.2.2.1⟩]) else failR := by
  have hb : bt (ba (c :: L)) 0 = (c.toNat : Int) := bt_ba (L := c :: L) (i := 0) (c := c) rfl
  have hs : (ba (c :: L)).size = L.length + 1 := by rw [ba_size]; rfl
  have hw : wrap64 ((d : Int) + 1) = ((d + 1 : Nat) : Int) := by unfold wrap64; omega
  have e : ((c.toNat : Int) != 41) = true := by
    rw [bne_iff_ne]
    intro h
    exact hc (UInt8.toNat_inj.1 (by show _ = 41; omega))
  rw [tambourref04_item.l0, ba_toList, if_neg (by simp), if_pos (by omega), hb, e, tambourref04_item.j1, if_pos rfl, hw]
  congr 1
  funext q
  by_cases hq : q.2.2.2.2 = true
  · rw [if_pos hq, if_pos hq, if_pos ha]
  · rw [if_neg hq, if_neg hq]; rfl
mutual
theorem ritem_hit : ∀ (x : S24) (r : List UInt8) (d k : Nat), okF x = true → d + deF x ≤ 8 → (byF x ++ r).length ≤ 65536 → 3 * (byF x ++ r).length + 10 ≤ k → tambourref04_item.f k (ba (byF x ++ r)) (d : Int) = some (x.f0, x.f1, x.f2, ba r, true)
  | ⟨false, t, is⟩, r, d, k, ho, hd, hl, hk => by
    have hi : is = [] := by rw [okF] at ho; simpa using ho
    subst hi
    obtain ⟨k, rfl⟩ : ∃ k', k = k' + 1 := ⟨k - 1, by omega⟩
    obtain ⟨c, l', h0, h1, h2⟩ := numT_head t
    rw [byF] at hl hk ⊢
    have hc40 : c ≠ 40 := fun h => by rw [h] at h1; revert h1; decide
    obtain ⟨l, rfl⟩ : ∃ l, t = ba l := ⟨_, (ba_list t).symm⟩
    have e : numT (ba l) ++ r = Lib.decDigits l.length ++ 58 :: (l ++ r) := by rw [numT_ba]; simp
    have e0 : numT (ba l) ++ r = c :: (l' ++ r) := by rw [h0]; rfl
    have hll : (Lib.decDigits l.length ++ 58 :: (l ++ r)).length = (Lib.decDigits l.length).length + 1 + l.length + r.length := by simp; omega
    rw [e0, ritem_text hc40, ← e0]
    rw [e] at hl hk ⊢
    have hh := l1_hit (n := l.length) (rest := l ++ r) (by omega) (by simp) (by omega) (Lib.decDigits l.length).length 0 (by omega) k (by omega)
    rw [List.take_zero] at hh
    rw [show (((0 : Nat) : Int)) = 0 from rfl, show valD [] = 0 from rfl, show (((0 : Nat) : Int)) = 0 from rfl] at hh
    rw [hh]
    simp
  | ⟨true, t, is⟩, r, d, k, ho, hd, hl, hk => by
    rw [okF, Bool.and_eq_true] at ho
    have e1 : t = ⟨#[]⟩ := toList_empty (by rw [ByteArray.toList_eq]; exact ho.1)
    subst e1
    rw [deF] at hd
    rw [byF] at hl hk ⊢
    obtain ⟨k, rfl⟩ : ∃ k', k = k' + 1 := ⟨k - 1, by omega⟩
    have e : [40] ++ byL is ++ [41] ++ r = 40 :: (byL is ++ 41 :: r) := by simp
    rw [e] at hl hk ⊢
    rw [List.length_cons] at hl hk
    rw [ritem_list (by omega), rlist_hit is [] r d k ho.2 (by omega) (by simp only [List.length_nil]; omega) (by omega)]
    rfl
theorem rlist_hit : ∀ (is acc : List S24) (r : List UInt8) (d k : Nat), okL is = true → d + 1 + deL is ≤ 8 → acc.length + (byL is ++ 41 :: r).length ≤ 65536 → 3 * (byL is ++ 41 :: r).length + 12 ≤ k → tambourref04_item.l0 k (ba (byL is ++ 41 :: r)) (d : Int) true ⟨#[]⟩ acc = some (true, ⟨#[]⟩, acc ++ is, ba r, true)
  | [], acc, r, d, k, ho, hd, hl, hk => by
    obtain ⟨k, rfl⟩ : ∃ k', k = k' + 2 := ⟨k - 2, by omega⟩
    rw [byL]
    show tambourref04_item.l0 (k + 2) (ba (41 :: r)) (d : Int) true ⟨#[]⟩ acc = _
    rw [rloop_end, List.append_nil]
  | x :: is, acc, r, d, k, ho, hd, hl, hk => by
    rw [okL, Bool.and_eq_true] at ho
    rw [deL] at hd
    rw [byL] at hl hk ⊢
    obtain ⟨k, rfl⟩ : ∃ k', k = k' + 2 := ⟨k - 2, by omega⟩
    obtain ⟨c, l, h0, hc⟩ := byF_head x
    have h0l := congrArg List.length h0
    rw [List.append_assoc] at hl hk ⊢
    rw [List.length_append] at hl hk
    have hh := ritem_hit x (byL is ++ 41 :: r) (d + 1) k ho.1 (by omega) (by rw [List.length_append]; omega) (by rw [List.length_append]; omega)
    have e : byF x ++ (byL is ++ 41 :: r) = c :: (l ++ (byL is ++ 41 :: r)) := by rw [h0]; rfl
    rw [e] at hh ⊢
    rw [rloop_next (by omega) hc (by omega), hh, Option.bind_some]
    simp only
    rw [if_pos trivial]
    rw [List.length_cons] at h0l
    rw [show (⟨x.f0, x.f1, x.f2⟩ : S24) = x by cases x; rfl, rlist_hit is (acc ++ [x]) r d k ho.2 (by omega) (by rw [List.length_append, List.length_singleton]; omega) (by omega)]
    simp
end
def RItemSays (L : List UInt8) (d : Nat) (o : Res) : Prop :=
  ∃ r1 r2 r3 r4 r5, o = some (r1, r2, r3, r4, r5) ∧ (r5 = true → ∃ R, L = byF ⟨r1, r2, r3⟩ ++ R ∧ r4 = ba R ∧ okF ⟨r1, r2, r3⟩ = true ∧ d + deF ⟨r1, r2, r3⟩ ≤ 8)
def RLoopSays (L : List UInt8) (d : Nat) (acc : List S24) (o : Res) : Prop :=
  ∃ r1 r2 r3 r4 r5, o = some (r1, r2, r3, r4, r5) ∧ (r5 = true → ∃ is R, r1 = true ∧ r2 = ⟨#[]⟩ ∧ r3 = acc ++ is ∧ L = byL is ++ 41 :: R ∧ r4 = ba R ∧ okL is = true ∧ d + 1 + deL is ≤ 8)
theorem rread_tot : ∀ n, n ≤ 65536 → (∀ (L : List UInt8) (d k : Nat), L.length ≤ n → d ≤ 8 → 3 * n + 10 ≤ k → RItemSays L d (tambourref04_item.f k (ba L) (d : Int))) ∧ (∀ (L : List UInt8) (acc : List S24) (d k : Nat), L.length ≤ n → d < 8 → acc.length + n ≤ 65536 → 3 * n + 12 ≤ k → RLoopSays L d acc (tambourref04_item.l0 k (ba L) (d : Int) true ⟨#[]⟩ acc)) := by
  intro n
  induction n with
  | zero =>
    intro _
    refine ⟨fun L d k hL hd hk => ?_, fun L acc d k hL hd ha hk => ?_⟩
    · obtain rfl : L = [] := List.length_eq_zero_iff.1 (by omega)
      obtain ⟨k, rfl⟩ : ∃ k', k = k' + 1 := ⟨k - 1, by omega⟩
      rw [ritem_nil]
      exact ⟨_, _, _, _, _, rfl, fun h => by cases h⟩
    · obtain rfl : L = [] := List.length_eq_zero_iff.1 (by omega)
      obtain ⟨k, rfl⟩ : ∃ k', k = k' + 2 := ⟨k - 2, by omega⟩
      rw [rloop_nil]
      exact ⟨_, _, _, _, _, rfl, fun h => by cases h⟩
  | succ n ih =>
    intro hn
    obtain ⟨ihI, ihL⟩ := ih (by omega)
    have hI : ∀ (L : List UInt8) (d k : Nat), L.length ≤ n + 1 → d ≤ 8 → 3 * (n + 1) + 10 ≤ k → RItemSays L d (tambourref04_item.f k (ba L) (d : Int)) := by
      intro L d k hL hd hk
      obtain ⟨k, rfl⟩ : ∃ k', k = k' + 1 := ⟨k - 1, by omega⟩
      cases L with
      | nil =>
        rw [ritem_nil]
        exact ⟨_, _, _, _, _, rfl, fun h => by cases h⟩
      | cons c L =>
        rw [List.length_cons] at hL
        by_cases hc : c = 40
        · subst hc
          by_cases h8 : d < 8
          · rw [ritem_list h8]
            obtain ⟨r1, r2, r3, r4, r5, he, hr⟩ := ihL L [] d k (by omega) h8 (by simp; omega) (by omega)
            refine ⟨r1, r2, r3, r4, r5, he, fun h => ?_⟩
            obtain ⟨is, R, rfl, rfl, rfl, hL1, rfl, ho, hde⟩ := hr h
            refine ⟨R, ?_, rfl, ?_, ?_⟩
            · rw [byF, hL1]
              simp only [List.nil_append, List.append_assoc, List.cons_append]
            · rw [okF]; exact ho
            · rw [deF]
              show d + (deL r3 + 1) ≤ 8
              omega
          · rw [ritem_deep (by omega)]
            exact ⟨_, _, _, _, _, rfl, fun h => by cases h⟩
        · rw [ritem_text hc]
          obtain ⟨t, r, ok, he, hr⟩ := l1_tot (L := c :: L) (by simp) (by simp only [List.length_cons]; omega) 7 0 0 rfl (Nat.zero_le _) (by decide) (fun _ => rfl) (fun h => absurd rfl h) k (by omega)
          rw [show (((0 : Nat) : Int)) = 0 from rfl] at he
          rw [he]
          refine ⟨_, _, _, _, _, rfl, fun h => ⟨r, ?_, rfl, rfl, ?_⟩⟩
          · rw [byF]; exact hr h
          · rw [deF]; omega
    refine ⟨hI, fun L acc d k hL h8 ha hk => ?_⟩
    obtain ⟨k, rfl⟩ : ∃ k', k = k' + 2 := ⟨k - 2, by omega⟩
    cases L with
    | nil =>
      rw [rloop_nil]
      exact ⟨_, _, _, _, _, rfl, fun h => by cases h⟩
    | cons c L =>
      by_cases hc : c = 41
      · subst hc
        rw [rloop_end]
        exact ⟨_, _, _, _, _, rfl, fun _ => ⟨[], L, rfl, rfl, by simp, by rw [byL]; rfl, rfl, by rw [okL], by rw [deL]; omega⟩⟩
      · rw [rloop_next (by omega) hc (by omega)]
        obtain ⟨q1, q2, q3, q4, q5, he, hq⟩ := hI (c :: L) (d + 1) k hL (by omega) (by omega)
        rw [he, Option.bind_some]
        simp only
        cases q5 with
        | false => exact ⟨_, _, _, _, _, by rw [if_neg (by decide)]; rfl, fun h => by cases h⟩
        | true =>
          rw [if_pos rfl]
          obtain ⟨R, hLR, rfl, ho, hde⟩ := hq rfl
          obtain ⟨c', l', h0, _⟩ := byF_head ⟨q1, q2, q3⟩
          have hlen := congrArg List.length hLR
          rw [h0, List.length_append, List.length_cons] at hlen
          have hlc : (c' :: l').length = l'.length + 1 := rfl
          rw [List.length_cons] at hL
          obtain ⟨r1, r2, r3, r4, r5, he2, hr⟩ := ihL R (acc ++ [⟨q1, q2, q3⟩]) d k (by omega) h8 (by simp; omega) (by omega)
          refine ⟨r1, r2, r3, r4, r5, he2, fun h => ?_⟩
          obtain ⟨is, R', rfl, rfl, rfl, rfl, rfl, ho2, hde2⟩ := hr h
          refine ⟨⟨q1, q2, q3⟩ :: is, R', rfl, rfl, by simp, ?_, rfl, ?_, ?_⟩
          · rw [hLR, byL, List.append_assoc]
          · rw [okL, ho, ho2]; rfl
          · rw [deL]; omega
/-- The document's Read, by what it should say. -/
theorem ref_read (L : List UInt8) (hl : L.length ≤ 65536) : (∃ x, IsForm L x ∧ tambourref04_Read.f 200000 (ba L) = some (x.f0, x.f1, x.f2, 0)) ∨ ((¬ ∃ x, IsForm L x) ∧ tambourref04_Read.f 200000 (ba L) = some (false, ⟨#[]⟩, [], 5)) := by
  rw [tambourref04_Read.f, if_neg (by rw [ba_size]; omega)]
  by_cases hx : ∃ x, IsForm L x
  · obtain ⟨x, hx⟩ := hx
    refine .inl ⟨x, hx, ?_⟩
    have hh := ritem_hit x [] 0 200000 hx.2.1 (by have := hx.2.2; omega) (by rw [List.append_nil, ← hx.1]; omega) (by rw [List.append_nil, ← hx.1]; omega)
    rw [List.append_nil, ← hx.1] at hh
    have hh' : tambourref04_item.f 200000 (ba L) 0 = some (x.f0, x.f1, x.f2, ba [], true) := hh
    rw [hh', Option.bind_some]
    simp only
    rw [if_pos trivial, ba_toList, if_pos rfl]
  · refine .inr ⟨hx, ?_⟩
    obtain ⟨r1, r2, r3, r4, r5, he, hr⟩ := (rread_tot 65536 (Nat.le_refl _)).1 L 0 200000 (by omega) (by omega) (by omega)
    have he' : tambourref04_item.f 200000 (ba L) 0 = some (r1, r2, r3, r4, r5) := he
    rw [he', Option.bind_some]
    simp only
    by_cases h5 : r5 = true
    · obtain ⟨R, h1, rfl, h3, h4⟩ := hr h5
      rw [if_pos h5, ba_toList, if_neg]
      rintro rfl
      exact hx ⟨_, by rw [h1, List.append_nil], h3, by omega⟩
    · rw [if_neg h5]
#print axioms ref_read
end Go.Proofs.YtehghdmfdinpjaaDoorF
