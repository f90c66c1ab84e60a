/- Forms: the plain law of the reader: item reads just a form's bytes. -/
import Derived.Test.YtehghdmfdinpjaaDoorFL
import Derived.Test.YtehghdmfdinpjaaDoorFR
namespace Go.Proofs.YtehghdmfdinpjaaDoorF
open Go.RowKit Go.Proofs Go.Proofs.YtehghdmfdinpjaaDoorW.PrintWords Go.Proofs.YtehghdmfdinpjaaDoorW.PrintLast
open Go.Proofs.YtehghdmfdinpjaaDoor.PAll (S24 k24 z24 terms_reader_length.f terms_reader_length.l0 terms_reader_item.f terms_reader_item.l0 terms_reader_item.j1 strings_HasPrefix.f stringslite_HasPrefix.f terms_Text.f)

theorem has_open (L : List UInt8) : strings_HasPrefix.f (ba L) ⟨#[40]⟩ = some (decide (L[0]? = some 40)) := by
  have e1 : (((⟨#[40]⟩ : ByteArray).size : Nat) : Int) = 1 := rfl
  rw [strings_HasPrefix.f, stringslite_HasPrefix.f, e1, ba_size]
  cases L with
  | nil => rfl
  | cons c l =>
    have p1 : (((c :: l).length : Nat) : Int) ≥ 1 := by simp only [List.length_cons]; omega
    rw [if_pos p1, if_pos (by decide), if_pos p1, show (1 : Int).toNat = 1 from rfl, ba_take, ba_toList]
    rw [show (⟨#[40]⟩ : ByteArray).toList = [40] by rw [ByteArray.toList_eq]]
    show some ([c] == [40]) = _
    congr 1
    rw [Bool.eq_iff_iff]
    simp
theorem item_list {k d : Nat} {L : List UInt8} (h : L[0]? = some 40) : terms_reader_item.f (k + 1) (ba L) (d : Int) = terms_reader_item.l0 k (d : Int) (ba (L.drop 1)) true ⟨#[]⟩ [] := by
  have hi := (List.getElem?_eq_some_iff.1 h).1
  rw [terms_reader_item.f, has_open, Option.bind_some, if_pos (decide_eq_true h), if_pos (by rw [ba_size]; omega), ba_drop]
theorem item_text {k d : Nat} {L : List UInt8} (h : L[0]? ≠ some 40) {n : Nat} {rest : List UInt8} (hn : n ≤ rest.length) (hl : terms_reader_length.l0 k 0 0 (ba L) = some ((n : Int), true, ba rest)) : terms_reader_item.f (k + 1) (ba L) (d : Int) = some (false, ba (rest.take n), [], true, ba (rest.drop n)) := by
  rw [terms_reader_item.f, has_open, Option.bind_some, if_neg (by simpa using h), terms_reader_length.f, hl, Option.bind_some]
  simp only
  rw [if_pos trivial, if_pos (Int.natCast_nonneg _), if_pos (by rw [ba_size]; omega), Int.toNat_natCast, ba_take, ba_drop, terms_Text.f, Option.bind_some]
theorem item_none {k d : Nat} {L : List UInt8} (h : L[0]? ≠ some 40) {a : Int} {s' : ByteArray} (hl : terms_reader_length.l0 k 0 0 (ba L) = some (a, false, s')) : terms_reader_item.f (k + 1) (ba L) (d : Int) = some (false, ⟨#[]⟩, [], false, s') := by
  rw [terms_reader_item.f, has_open, Option.bind_some, if_neg (by simpa using h), terms_reader_length.f, hl, Option.bind_some]
  simp only
  rw [if_neg (by decide)]
theorem loop_off {k d : Nat} {L : List UInt8} {acc : List S24} (h : 8 ≤ d ∨ L = []) : terms_reader_item.l0 (k + 2) (d : Int) (ba L) true ⟨#[]⟩ acc = some (false, ⟨#[]⟩, [], false, ba L) := by
  have key : ∀ b, b = false → terms_reader_item.j1 (k + 1) (d : Int) b (ba L) true ⟨#[]⟩ acc = some (false, ⟨#[]⟩, [], false, ba L) := by
    rintro _ rfl
    rw [terms_reader_item.j1, if_neg (by decide)]
  by_cases h8 : d < 8
  · rw [terms_reader_item.l0, if_pos (by omega)]
    refine key _ ?_
    rcases h with h | rfl
    · omega
    · rw [ba_toList]; rfl
  · rw [terms_reader_item.l0, if_neg (by omega)]
    exact key _ rfl
theorem loop_end {k d : Nat} {L : List UInt8} {acc : List S24} (h : d < 8) : terms_reader_item.l0 (k + 2) (d : Int) (ba (41 :: L)) true ⟨#[]⟩ acc = some (true, ⟨#[]⟩, acc, true, ba L) := by
  have hne : ((ba (41 :: L)).toList != ([] : List UInt8)) = true := by rw [ba_toList]; rfl
  have hb : bt (ba (41 :: L)) 0 = 41 := bt_ba (L := 41 :: L) (i := 0) (c := 41) rfl
  have hs : (ba (41 :: L)).size = L.length + 1 := by rw [ba_size]; rfl
  rw [terms_reader_item.l0, if_pos (by omega), hne, terms_reader_item.j1, if_pos rfl, if_pos (by rw [hs]; omega), if_pos hb, if_pos (by rw [hs]; omega), ba_drop]
  rfl
theorem loop_next {k d : Nat} {c : UInt8} {L : List UInt8} {acc : List S24} (h : d < 8) (hc : c ≠ 41) (ha : acc.length < 2932031007402) : terms_reader_item.l0 (k + 2) (d : Int) (ba (c :: L)) true ⟨#[]⟩ acc =
    (terms_reader_item.f k (ba (c :: L)) ((d + 1 : Nat) : Int)).bind fun q => if q.2.2.2.1 = true then terms_reader_item.l0 k (d : Int) q.2.2.2.2 true ⟨#[]⟩ (acc ++ [⟨q.1, q.2.1, q.2.2.1⟩]) else some (false, ⟨#[]⟩, [], false, q.2.2.2.2) := by
  have hne : ((ba (c :: L)).toList != ([] : List UInt8)) = true := by rw [ba_toList]; rfl
  have hb : bt (ba (c :: L)) 0 = (c.toNat : Int) := bt_ba (L := c :: L) (i := 0) (c := c) rfl
  have hs : (ba (c :: L)).size = L.length + 1 := by rw [ba_size]; rfl
  have hw : wrap64 ((d : Int) + 1) = ((d + 1 : Nat) : Int) := by unfold wrap64; omega
  have h41 : ¬ (c.toNat : Int) = 41 := fun h => hc (UInt8.toNat_inj.1 (by show _ = 41; omega))
  rw [terms_reader_item.l0, if_pos (by omega), hne, terms_reader_item.j1, if_pos rfl, if_pos (by rw [hs]; omega), hb, if_neg h41, hw]
  congr 1
  funext q
  by_cases hq : q.2.2.2.1 = true
  · rw [if_pos hq, if_pos hq, if_pos ha]
  · rw [if_neg hq, if_neg hq]
theorem numT_ba (l : List UInt8) : numT (ba l) = Lib.decDigits l.length ++ 58 :: l := by
  rw [numT, ba_size, ba_data, itoa_nat]; simp
mutual
/-- A form's bytes are read as it. -/
theorem item_hit : ∀ (x : S24) (r : List UInt8) (d k : Nat), okF x = true → d + deF x ≤ 8 → (byF x ++ r).length ≤ 65536 → 3 * (byF x ++ r).length + 10 ≤ k → terms_reader_item.f k (ba (byF x ++ r)) (d : Int) = some (x.f0, x.f1, x.f2, true, ba r)
  | ⟨false, t, is⟩, r, d, k, ho, hd, hl, hk => by
    have hi : is = [] := by rw [okF] at ho; simpa using ho
    subst hi
    obtain ⟨k, rfl⟩ : ∃ k', k = k' + 1 := ⟨k - 1, by omega⟩
    obtain ⟨c, l, h0, h1, h2⟩ := numT_head t
    rw [byF] at hl hk ⊢
    have hne : (numT t ++ r)[0]? ≠ some 40 := by
      rw [h0]
      intro h
      have h := Option.some.inj h
      rw [h] at h1
      revert h1; decide
    obtain ⟨l, rfl⟩ : ∃ l, t = ba l := ⟨_, (ba_list t).symm⟩
    have e : numT (ba l) ++ r = Lib.decDigits l.length ++ 58 :: (l ++ r) := by rw [numT_ba]; simp
    rw [e] at hl hk hne ⊢
    have hll : (Lib.decDigits l.length ++ 58 :: (l ++ r)).length = (Lib.decDigits l.length).length + 1 + l.length + r.length := by simp; omega
    have hh := len_hit (n := l.length) (rest := l ++ r) (by omega) (by omega) (Lib.decDigits l.length).length 0 (by omega) k (by omega)
    rw [List.take_zero, decide_eq_true (by simp)] at hh
    rw [item_text hne (n := l.length) (rest := l ++ r) (by simp) hh]
    simp
  | ⟨true, t, is⟩, r, d, k, ho, hd, hl, hk => by
    rw [okF, Bool.and_eq_true] at ho
    have e1 : t = ⟨#[]⟩ := toList_empty (by rw [ByteArray.toList_eq]; exact ho.1)
    subst e1
    rw [deF] at hd
    rw [byF] at hl hk ⊢
    obtain ⟨k, rfl⟩ : ∃ k', k = k' + 1 := ⟨k - 1, by omega⟩
    have e : [40] ++ byL is ++ [41] ++ r = 40 :: (byL is ++ 41 :: r) := by simp
    rw [e] at hl hk ⊢
    rw [List.length_cons] at hl hk
    rw [item_list rfl]
    show terms_reader_item.l0 k (d : Int) (ba (byL is ++ 41 :: r)) true ⟨#[]⟩ [] = _
    rw [list_hit is [] r d k ho.2 (by omega) (by simp only [List.length_nil]; omega) (by omega)]
    rfl
theorem list_hit : ∀ (is acc : List S24) (r : List UInt8) (d k : Nat), okL is = true → d + 1 + deL is ≤ 8 → acc.length + (byL is ++ 41 :: r).length ≤ 65536 → 3 * (byL is ++ 41 :: r).length + 12 ≤ k → terms_reader_item.l0 k (d : Int) (ba (byL is ++ 41 :: r)) true ⟨#[]⟩ acc = some (true, ⟨#[]⟩, acc ++ is, true, ba r)
  | [], acc, r, d, k, ho, hd, hl, hk => by
    obtain ⟨k, rfl⟩ : ∃ k', k = k' + 2 := ⟨k - 2, by omega⟩
    rw [byL]
    show terms_reader_item.l0 (k + 2) (d : Int) (ba (41 :: r)) true ⟨#[]⟩ acc = _
    rw [loop_end (by omega), List.append_nil]
  | x :: is, acc, r, d, k, ho, hd, hl, hk => by
    rw [okL, Bool.and_eq_true] at ho
    rw [deL] at hd
    rw [byL] at hl hk ⊢
    obtain ⟨k, rfl⟩ : ∃ k', k = k' + 2 := ⟨k - 2, by omega⟩
    obtain ⟨c, l, h0, hc⟩ := byF_head x
    have h0l := congrArg List.length h0
    rw [List.append_assoc] at hl hk ⊢
    rw [List.length_append] at hl hk
    have hh := item_hit x (byL is ++ 41 :: r) (d + 1) k ho.1 (by omega) (by rw [List.length_append]; omega) (by rw [List.length_append]; omega)
    have e : byF x ++ (byL is ++ 41 :: r) = c :: (l ++ (byL is ++ 41 :: r)) := by rw [h0]; rfl
    rw [e] at hh ⊢
    rw [loop_next (by omega) hc (by omega), hh, Option.bind_some]
    simp only
    rw [if_pos trivial]
    rw [List.length_cons] at h0l
    rw [show (⟨x.f0, x.f1, x.f2⟩ : S24) = x by cases x; rfl, list_hit is (acc ++ [x]) r d k ho.2 (by omega) (by rw [List.length_append, List.length_singleton]; omega) (by omega)]
    simp
end
/-- What item tells. -/
def ItemSays (L : List UInt8) (d : Nat) (o : Option (Bool × ByteArray × List S24 × Bool × ByteArray)) : Prop :=
  ∃ r1 r2 r3 r4 r5, o = some (r1, r2, r3, r4, r5) ∧ (r4 = true → ∃ R, L = byF ⟨r1, r2, r3⟩ ++ R ∧ r5 = ba R ∧ okF ⟨r1, r2, r3⟩ = true ∧ d + deF ⟨r1, r2, r3⟩ ≤ 8)
def LoopSays (L : List UInt8) (d : Nat) (acc : List S24) (o : Option (Bool × ByteArray × List S24 × Bool × ByteArray)) : Prop :=
  ∃ r1 r2 r3 r4 r5, o = some (r1, r2, r3, r4, r5) ∧ (r4 = true → ∃ is R, r1 = true ∧ r2 = ⟨#[]⟩ ∧ r3 = acc ++ is ∧ L = byL is ++ 41 :: R ∧ r5 = ba R ∧ okL is = true ∧ d + 1 + deL is ≤ 8)
theorem read_tot : ∀ n, n ≤ 65536 → (∀ (L : List UInt8) (d k : Nat), L.length ≤ n → d ≤ 8 → 3 * n + 10 ≤ k → ItemSays L d (terms_reader_item.f k (ba L) (d : Int))) ∧ (∀ (L : List UInt8) (acc : List S24) (d k : Nat), L.length ≤ n → d ≤ 8 → acc.length + n ≤ 65536 → 3 * n + 12 ≤ k → LoopSays L d acc (terms_reader_item.l0 k (d : Int) (ba L) true ⟨#[]⟩ acc)) := by
  intro n
  induction n with
  | zero =>
    intro _
    refine ⟨fun L d k hL hd hk => ?_, fun L acc d k hL hd ha hk => ?_⟩
    · obtain rfl : L = [] := List.length_eq_zero_iff.1 (by omega)
      obtain ⟨k, rfl⟩ : ∃ k', k = k' + 1 := ⟨k - 1, by omega⟩
      obtain ⟨k, rfl⟩ : ∃ k', k = k' + 3 := ⟨k - 3, by omega⟩
      rw [item_none (by simp) (len_else (v := 0) (i := 0) (L := []) (fun c hc => by simp at hc))]
      exact ⟨_, _, _, _, _, rfl, fun h => by cases h⟩
    · obtain rfl : L = [] := List.length_eq_zero_iff.1 (by omega)
      obtain ⟨k, rfl⟩ : ∃ k', k = k' + 2 := ⟨k - 2, by omega⟩
      rw [loop_off (.inr rfl)]
      exact ⟨_, _, _, _, _, rfl, fun h => by cases h⟩
  | succ n ih =>
    intro hn
    obtain ⟨ihI, ihL⟩ := ih (by omega)
    have hI : ∀ (L : List UInt8) (d k : Nat), L.length ≤ n + 1 → d ≤ 8 → 3 * (n + 1) + 10 ≤ k → ItemSays L d (terms_reader_item.f k (ba L) (d : Int)) := by
      intro L d k hL hd hk
      obtain ⟨k, rfl⟩ : ∃ k', k = k' + 1 := ⟨k - 1, by omega⟩
      by_cases h40 : L[0]? = some 40
      · rw [item_list h40]
        obtain ⟨r1, r2, r3, r4, r5, he, hr⟩ := ihL (L.drop 1) [] d k (by simp; omega) hd (by simp; omega) (by omega)
        refine ⟨r1, r2, r3, r4, r5, he, fun h => ?_⟩
        obtain ⟨is, R, rfl, rfl, rfl, hL1, rfl, ho, hde⟩ := hr h
        refine ⟨R, ?_, rfl, ?_, ?_⟩
        · rw [byF]
          obtain ⟨hi, h0⟩ := List.getElem?_eq_some_iff.1 h40
          have := List.drop_eq_getElem_cons hi
          rw [List.drop_zero, h0, show 0 + 1 = 1 from rfl, hL1] at this
          rw [this]
          simp only [List.nil_append, List.append_assoc, List.cons_append]
        · rw [okF]; exact ho
        · rw [deF]
          show d + (deL r3 + 1) ≤ 8
          omega
      · obtain ⟨a, ok, s', he, hr⟩ := len_tot (L := L) (by omega) L.length 0 0 (by omega) (by omega) (fun _ => rfl) (fun h => absurd rfl h) k (by omega)
        have he' : terms_reader_length.l0 k 0 0 (ba L) = some (a, ok, s') := he
        cases ok with
        | false =>
          rw [item_none h40 he']
          exact ⟨_, _, _, _, _, rfl, fun h => by cases h⟩
        | true =>
          obtain ⟨n', rest, hL', hn', hle, rfl, rfl⟩ := hr rfl
          rw [item_text h40 hle he']
          refine ⟨_, _, _, _, _, rfl, fun _ => ⟨rest.drop n', ?_, rfl, rfl, ?_⟩⟩
          · rw [byF, numT_ba, List.length_take, Nat.min_eq_left hle, List.append_assoc, List.cons_append, List.take_append_drop]
            exact hL'
          · rw [deF]; omega
    refine ⟨hI, fun L acc d k hL hd ha hk => ?_⟩
    obtain ⟨k, rfl⟩ : ∃ k', k = k' + 2 := ⟨k - 2, by omega⟩
    by_cases hoff : 8 ≤ d ∨ L = []
    · rw [loop_off hoff]
      exact ⟨_, _, _, _, _, rfl, fun h => by cases h⟩
    · have h8 : d < 8 := by omega
      cases L with
      | nil => exact absurd (.inr rfl) hoff
      | cons c L =>
        by_cases hc : c = 41
        · subst hc
          rw [loop_end h8]
          exact ⟨_, _, _, _, _, rfl, fun _ => ⟨[], L, rfl, rfl, by simp, by rw [byL]; rfl, rfl, by rw [okL], by rw [deL]; omega⟩⟩
        · rw [loop_next h8 hc (by omega)]
          obtain ⟨q1, q2, q3, q4, q5, he, hq⟩ := hI (c :: L) (d + 1) k hL (by omega) (by omega)
          rw [he, Option.bind_some]
          simp only
          cases q4 with
          | false => exact ⟨_, _, _, _, _, by rw [if_neg (by decide)], fun h => by cases h⟩
          | true =>
            rw [if_pos rfl]
            obtain ⟨R, hLR, rfl, ho, hde⟩ := hq rfl
            obtain ⟨c', l', h0, _⟩ := byF_head ⟨q1, q2, q3⟩
            have hlen := congrArg List.length hLR
            rw [h0, List.length_append, List.length_cons] at hlen
            have hlc : (c' :: l').length = l'.length + 1 := rfl
            rw [List.length_cons] at hL
            obtain ⟨r1, r2, r3, r4, r5, he2, hr⟩ := ihL R (acc ++ [⟨q1, q2, q3⟩]) d k (by omega) hd (by simp; omega) (by omega)
            refine ⟨r1, r2, r3, r4, r5, he2, fun h => ?_⟩
            obtain ⟨is, R', rfl, rfl, rfl, rfl, rfl, ho2, hde2⟩ := hr h
            refine ⟨⟨q1, q2, q3⟩ :: is, R', rfl, rfl, by simp, ?_, rfl, ?_, ?_⟩
            · rw [hLR, byL, List.append_assoc]
            · rw [okL, ho, ho2]; rfl
            · rw [deL]; omega
/-! ### What Read says -/
/-- A text is a form's bytes. -/
def IsForm (L : List UInt8) (x : S24) : Prop := L = byF x ∧ okF x = true ∧ deF x ≤ 8
theorem IsForm.same {L : List UInt8} {x y : S24} (h : IsForm L x) (h2 : IsForm L y) : x = y := by
  refine (byF_inj x y [] [] h.2.1 h2.2.1 ?_).1
  rw [← h.1, ← h2.1]
/-- Read, by what it should say. -/
theorem read_says (L : List UInt8) : (65536 < L.length ∧ readF 200000 (ba L) = some (z24, some 2)) ∨ (L.length ≤ 65536 ∧ ((∃ x, IsForm L x ∧ readF 200000 (ba L) = some (x, none)) ∨ ((¬ ∃ x, IsForm L x) ∧ readF 200000 (ba L) = some (z24, some 5)))) := by
  by_cases hl : 65536 < L.length
  · exact .inl ⟨hl, by rw [readF, if_pos (by rw [ba_size]; exact hl)]⟩
  · refine .inr ⟨by omega, ?_⟩
    rw [readF, if_neg (by rw [ba_size]; exact hl)]
    by_cases hx : ∃ x, IsForm L x
    · obtain ⟨x, hx⟩ := hx
      refine .inl ⟨x, hx, ?_⟩
      have hh := item_hit x [] 0 200000 hx.2.1 (by have := hx.2.2; omega) (by rw [List.append_nil, ← hx.1]; omega) (by rw [List.append_nil, ← hx.1]; omega)
      rw [List.append_nil, ← hx.1] at hh
      have hh' : terms_reader_item.f 200000 (ba L) 0 = some (x.f0, x.f1, x.f2, true, ba []) := hh
      rw [hh']
      have : (true && (ba []).toList.isEmpty) = true := by rw [ba_toList]; rfl
      simp only
      rw [this, if_pos rfl]
      cases x
      rfl
    · refine .inr ⟨hx, ?_⟩
      obtain ⟨r1, r2, r3, r4, r5, he, hr⟩ := (read_tot 65536 (Nat.le_refl _)).1 L 0 200000 (by omega) (by omega) (by omega)
      have he' : terms_reader_item.f 200000 (ba L) 0 = some (r1, r2, r3, r4, r5) := he
      rw [he']
      simp only
      rw [if_neg]
      intro h
      rw [Bool.and_eq_true] at h
      obtain ⟨R, h1, rfl, h3, h4⟩ := hr h.1
      rw [ba_toList] at h
      obtain rfl : R = [] := List.isEmpty_iff.1 h.2
      exact hx ⟨_, by rw [h1, List.append_nil], h3, by omega⟩
#print axioms read_says
end Go.Proofs.YtehghdmfdinpjaaDoorF
