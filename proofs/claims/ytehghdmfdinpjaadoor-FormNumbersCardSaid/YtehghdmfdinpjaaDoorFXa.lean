/- Forms: the plain law of Write: what it gives, without the state. -/
import Derived.Test.YtehghdmfdinpjaaDoorFI
namespace Go.Proofs.YtehghdmfdinpjaaDoorF
open Go.RowKit Go.Proofs Go.Proofs.YtehghdmfdinpjaaDoorW.PrintWords Go.Proofs.YtehghdmfdinpjaaDoorW.PrintLast
open Go.Proofs.YtehghdmfdinpjaaDoor.PAll (S24 k24 z24)

theorem ba_append (a b : List UInt8) : ba a ++ ba b = ba (a ++ b) := by
  refine ByteArray.ext ?_
  rw [ByteArray.data_append]
  simp [ba]
theorem nil_iff (t : ByteArray) : t.toList = ([] : List UInt8) ↔ t.data.toList.isEmpty = true := by
  rw [ByteArray.toList_eq, List.isEmpty_iff]
theorem dec_len : ∀ u : Nat, (Lib.decDigits u).length ≤ u + 1 := by
  intro u
  induction u using Nat.strongRecOn with
  | _ u ih =>
  by_cases hu : u < 10
  · rw [dec_small hu]; simp
  · rw [dec_big hu, List.length_append, List.length_singleton]
    have := ih (u / 10) (by omega)
    omega
theorem numT_data (t : ByteArray) : numT t = Lib.decDigits t.size ++ 58 :: t.data.toList := by
  rw [numT, itoa_nat]; simp
/-! ### The writer's length, where it writes on -/
theorem mid1_bs' (d : Nat) (s : WS) : (mid1 d s).bs = s.bs := mid1_bs d s
mutual
theorem putF_lenB : ∀ (x : S24) (d : Nat) (s : WS), (putF x d s).bs.length ≤ s.bs.length + (byF x).length
  | ⟨false, t, []⟩, d, s => by
    rw [putF_text, byF]
    split
    · omega
    · simp
  | ⟨false, t, y :: is⟩, d, s => by
    rw [putF_bad (by simp)]
    exact Nat.le_add_right _ _
  | ⟨true, t, is⟩, d, s => by
    by_cases ht : t.toList.isEmpty = true
    · obtain rfl := toList_empty ht
      have h := putL_lenB is (d + 1) (mid2 d s)
      rw [putF_list, byF]
      generalize putL is (d + 1) (mid2 d s) = s' at h ⊢
      have m3 : (mid2 d s).bs.length ≤ s.bs.length + 1 := mid2_len d s
      have k3 : (mid4 (bigF d s) s').bs.length ≤ s'.bs.length + 1 := by unfold mid4; split <;> simp
      simp only [List.length_append, List.length_cons, List.length_nil]
      omega
    · have ht' : t.toList.isEmpty = false := by simpa using ht
      rw [putF_bad (by rw [ht']; rfl)]
      exact Nat.le_add_right _ _
theorem putL_lenB : ∀ (is : List S24) (d : Nat) (s : WS), (putL is d s).bs.length ≤ s.bs.length + (byL is).length
  | [], d, s => by rw [putL, byL]; simp
  | x :: is, d, s => by
    have h1 := putF_lenB x d s
    have h2 := putL_lenB is d (putF x d s)
    rw [putL, byL, List.length_append]
    omega
end
/-- What Write gives, without the state. -/
theorem writeF_eq (x : S24) : writeF x = if okF x then (if 8 < deF x ∨ 65536 < (byF x).length then (⟨#[]⟩, some 2) else (ba (byF x), none)) else (⟨#[]⟩, some 1) := by
  have ht := putF_told x 0 ⟨[], false, false⟩
  have hlen := putF_lenB x 0 ⟨[], false, false⟩
  unfold writeF
  generalize putF x 0 ⟨[], false, false⟩ = s' at ht hlen
  simp only at hlen ⊢
  have he := ht.er
  simp only [Bool.false_or] at he
  rw [he]
  cases hok : okF x with
  | false => rfl
  | true =>
    have hdp := ht.dpe hok
    simp only [Bool.false_or] at hdp
    have hd8 : (decide (8 < 0 + deF x) && decide (0 < deF x)) = decide (8 < deF x) := by
      rw [Bool.eq_iff_iff]
      simp only [Bool.and_eq_true, decide_eq_true_eq]
      omega
    rw [hd8] at hdp
    rw [hdp]
    show (if (decide (8 < deF x) || decide (65536 < s'.bs.length)) = true then _ else _) = _
    by_cases h8 : 8 < deF x
    · rw [decide_eq_true h8, Bool.true_or, if_pos rfl, if_pos rfl, if_pos (.inl h8)]
    · rw [decide_eq_false h8, Bool.false_or]
      by_cases hl : 65536 < s'.bs.length
      · simp only [List.length_nil] at hlen
        rw [decide_eq_true hl, if_pos rfl, if_pos rfl, if_pos (.inr (by omega))]
      · have hb := ht.bs hok (by omega) (by rw [hd8]; exact decide_eq_false h8) (by omega)
        simp only [List.nil_append] at hb
        rw [decide_eq_false hl, if_neg (by decide), if_pos rfl, if_neg (by rw [← hb]; omega), hb]
        rfl
def codeOf (o : Option Int) : Int := match o with | none => 0 | some c => c
#print axioms writeF_eq
end Go.Proofs.YtehghdmfdinpjaaDoorF
