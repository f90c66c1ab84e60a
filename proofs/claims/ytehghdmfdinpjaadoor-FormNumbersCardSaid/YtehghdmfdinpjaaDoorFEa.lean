/- Forms: Code of Write's and Read's errors; what is written is read. -/
import Derived.Test.YtehghdmfdinpjaaDoorFXa
import Derived.Test.YtehghdmfdinpjaaDoorCd
namespace Go.Proofs.YtehghdmfdinpjaaDoorF
open Go.RowKit Go.Proofs Go.Proofs.YtehghdmfdinpjaaDoorW.PrintWords Go.Proofs.YtehghdmfdinpjaaDoorW.PrintLast
open Go.Proofs.YtehghdmfdinpjaaDoor.PAll (S24 k24 z24)
open Go.Proofs.YtehghdmfdinpjaaDoorC (HasEt code_nil code_err)

theorem code_calls {w : World} (hg : HasEt w) (o : Option Int) : Calls Tryd.prog 13 #[errV o] w fun e w' => e = .returned (.int .i64 (codeOf o)) ∧ Below w.heap.size w w' := by
  cases o with
  | none =>
    refine (code_nil w).mono ?_
    rintro e w' ⟨rfl, rfl⟩
    exact ⟨rfl, Below.refl _ _⟩
  | some n => exact code_err n w hg
/-- What Write gives where it gives no error is read as the form. -/
theorem write_read {x : S24} {s : ByteArray} (h : writeF x = (s, none)) : s = ba (byF x) ∧ okF x = true ∧ deF x ≤ 8 ∧ (byF x).length ≤ 65536 ∧ readF 200000 s = some (x, none) := by
  rw [writeF_eq] at h
  cases hok : okF x with
  | false => rw [hok, if_neg (by decide)] at h; cases h
  | true =>
    rw [hok, if_pos rfl] at h
    by_cases hc : 8 < deF x ∨ 65536 < (byF x).length
    · rw [if_pos hc] at h; cases h
    · rw [if_neg hc] at h
      obtain rfl : ba (byF x) = s := congrArg Prod.fst h
      have hf : IsForm (byF x) x := ⟨rfl, hok, by omega⟩
      refine ⟨rfl, rfl, by omega, by omega, ?_⟩
      rcases read_says (byF x) with ⟨hl, _⟩ | ⟨_, ⟨y, hy, hr⟩ | ⟨hn, _⟩⟩
      · exact absurd hl (by omega)
      · rw [hr, hy.same hf]
      · exact absurd ⟨x, hf⟩ hn
theorem write_err {x : S24} {s : ByteArray} {n : Int} (h : writeF x = (s, some n)) : s = ⟨#[]⟩ := by
  rw [writeF_eq] at h
  split at h
  · split at h
    · exact (congrArg Prod.fst h).symm
    · cases h
  · exact (congrArg Prod.fst h).symm
theorem form_at_new {w : World} {v : Value} {x : S24} (h : FormAt w v x) : ∃ A c, v = .agg #[.bool x.f0, .string x.f1, .slice A x.f2.length c] ∧ x.f2.length ≤ c ∧ k24.C w A x.f2.length x.f2 := h
end Go.Proofs.YtehghdmfdinpjaaDoorF
