/- Forms: FormWrites walked. -/
import Derived.Test.YtehghdmfdinpjaaDoorFA
import Derived.Test.YtehghdmfdinpjaaDoorFX
import Derived.Test.YtehghdmfdinpjaaDoorCd
namespace Go.Proofs.YtehghdmfdinpjaaDoorF
open Go.RowKit Go.Proofs Go.Proofs.YtehghdmfdinpjaaDoorW.PrintWords Go.Proofs.YtehghdmfdinpjaaDoorW.PrintLast
open Go.Proofs.YtehghdmfdinpjaaDoor.PAll (S24 k24 z24)
open Go.Proofs.YtehghdmfdinpjaaDoorC (HasEt code_nil code_err)

theorem code_calls {w : World} (hg : HasEt w) (o : Option Int) : Calls Tryd.prog 13 #[errV o] w fun e w' => e = .returned (.int .i64 (codeOf o)) ∧ Below w.heap.size w w' := by
  cases o with
  | none =>
    refine (code_nil w).mono ?_
    rintro e w' ⟨rfl, rfl⟩
    exact ⟨rfl, Below.refl _ _⟩
  | some n => exact code_err n w hg
/-- What Write gives where it gives no error is read as the form. -/
theorem write_read {x : S24} {s : ByteArray} (h : writeF x = (s, none)) : s = ba (byF x) ∧ okF x = true ∧ deF x ≤ 8 ∧ (byF x).length ≤ 65536 ∧ readF 200000 s = some (x, none) := by
  rw [writeF_eq] at h
  cases hok : okF x with
  | false => rw [hok, if_neg (by decide)] at h; cases h
  | true =>
    rw [hok, if_pos rfl] at h
    by_cases hc : 8 < deF x ∨ 65536 < (byF x).length
    · rw [if_pos hc] at h; cases h
    · rw [if_neg hc] at h
      obtain rfl : ba (byF x) = s := congrArg Prod.fst h
      have hf : IsForm (byF x) x := ⟨rfl, hok, by omega⟩
      refine ⟨rfl, rfl, by omega, by omega, ?_⟩
      rcases read_says (byF x) with ⟨hl, _⟩ | ⟨_, ⟨y, hy, hr⟩ | ⟨hn, _⟩⟩
      · exact absurd hl (by omega)
      · rw [hr, hy.same hf]
      · exact absurd ⟨x, hf⟩ hn
theorem write_err {x : S24} {s : ByteArray} {n : Int} (h : writeF x = (s, some n)) : s = ⟨#[]⟩ := by
  rw [writeF_eq] at h
  split at h
  · split at h
    · exact (congrArg Prod.fst h).symm
    · cases h
  · exact (congrArg Prod.fst h).symm
theorem form_at_new {w : World} {v : Value} {x : S24} (h : FormAt w v x) : ∃ A c, v = .agg #[.bool x.f0, .string x.f1, .slice A x.f2.length c] ∧ x.f2.length ≤ c ∧ k24.C w A x.f2.length x.f2 := h
set_option maxHeartbeats 4000000 in
set_option maxRecDepth 100000 in
theorem writes_calls {w : World} (HT : TabAt w) (HG : HasEt w) (a : S24) (hta : tx a) (A : Option Addr) (c : Nat) (hA : k24.C w A a.f2.length a.f2) (hc : a.f2.length ≤ c) :
    Calls Tryd.prog 4 #[.agg #[.bool a.f0, .string a.f1, .slice A a.f2.length c]] w fun e w' => e = .returned (.bool true) ∧ Below w.heap.size w w' := by
  have H0 := Lib.hid HT
  have HE := Lib.hid HG
  have HA := Lib.hid hA
  have HZ := Lib.hid (Below.refl w.heap.size w)
  clear HT HG hA
  go_enter Tryd.func4, Tryd.ntmps4
  go_upto_region 3 with (first | ((with_reducible refine gate_dst (N := 1) rfl ?_); refine box_event ?hg (N := 1) ?hd (cs := #[.bool a.f0, .string a.f1, .slice A a.f2.length c]) (t := 24) ?hr ?_; (case hd => rfl); (case hg => rfl); (case hr => first | (go_simp; done) | (go_simp; rfl)); intro ga hg wa hbox hb2; have HB1 := Lib.hid hb2; have BA1 := Lib.hid hbox; clear hb2 hbox hg) | (go_at_call 8; refine (awake_calls (tab_below H0.out HB1.out)).mono ?_; rintro e w3 ⟨rfl, hb3⟩; have HB3 := Lib.hid (HB1.out.trans (hb3.mono HB1.out.size)); have BA3 := Lib.hid (blk_below BA1.out hb3); clear hb3))
  have a0 := (blk_cell BA3.out 0).trans rfl
  have a1 := (blk_cell BA3.out 1).trans rfl
  have a2 := (blk_cell BA3.out 2).trans rfl
  clear BA1 HB1
  cases hsa : smallF a with
  | false =>
    go_wp2_with (first | (go_at_call 9; refine (small_calls a hta A c (Kd.C_below HA.out HB3.out) hc).mono ?_; rw [hsa]; rintro e w4 ⟨rfl, hb4⟩; have HB4 := Lib.hid (HB3.out.trans (hb4.mono HB3.out.size)); clear hb4))
    go_ret
    exact ⟨rfl, HB4.out⟩
  | true =>
    have hwa := smallF_wt hsa
    have hrw := ref_write a hwa
    obtain ⟨sa, ea⟩ : ∃ sa, sa = writeF a := ⟨_, rfl⟩
    obtain ⟨s, e⟩ := sa
    rw [← ea] at hrw
    have EA := Lib.hid ea.symm
    have HW := Lib.hid hrw
    clear ea hrw
    go_upto_region 5 with (first | (go_at_call 9; refine (small_calls a hta A c (Kd.C_below HA.out HB3.out) hc).mono ?_; rw [hsa]; rintro e w4 ⟨rfl, hb4⟩; have HB4 := Lib.hid (HB3.out.trans (hb4.mono HB3.out.size)); have BA4 := Lib.hid (blk_below BA3.out hb4); clear hb4))
    clear a0 a1 a2
    have a0 := (blk_cell BA4.out 0).trans rfl
    have a1 := (blk_cell BA4.out 1).trans rfl
    have a2 := (blk_cell BA4.out 2).trans rfl
    go_upto_region 6 with (first | (go_at_call 10; refine (write_calls (tab_below H0.out HB4.out) a A c (Kd.C_below HA.out HB4.out) hc (by omega)).mono ?_; rw [EA.out]; rintro e w5 ⟨rfl, hb5⟩; have HB5 := Lib.hid (HB4.out.trans (hb5.mono HB4.out.size)); have BA5 := Lib.hid (blk_below BA4.out hb5); clear hb5))
    clear a0 a1 a2
    have a0 := (blk_cell BA5.out 0).trans rfl
    have a1 := (blk_cell BA5.out 1).trans rfl
    have a2 := (blk_cell BA5.out 2).trans rfl
    go_upto_region 7 with (first | (go_at_call 12; refine (Go.Proofs.YtehghdmfdinpjaaDoor.PAll.tambourref04_Write.calls 170000 _ _ A c _ _ _ _ (Kd.C_below HA.out HB5.out) hc HW.out).mono ?_; rintro e w6 ⟨rfl, hb6⟩; have HB6 := Lib.hid (HB5.out.trans (hb6.mono HB5.out.size)); have BA6 := Lib.hid (blk_below BA5.out hb6); clear hb6))
    clear a0 a1 a2
    have a0 := (blk_cell BA6.out 0).trans rfl
    have a1 := (blk_cell BA6.out 1).trans rfl
    have a2 := (blk_cell BA6.out 2).trans rfl
    have hs0 : (s.toList == s.toList) = true := beq_self_eq_true _
    have hs1 : (s.toList != s.toList) = false := bne_self_eq_false _
    have hc0 : (codeOf e == codeOf e) = true := beq_self_eq_true _
    have hc1 : (codeOf e != codeOf e) = false := bne_self_eq_false _
    go_upto_region 9 with (first | (go_at_call 13; refine (code_calls (HE.out.below HB6.out) e).mono ?_; rintro e w7 ⟨rfl, hb7⟩; have HB7 := Lib.hid (HB6.out.trans (hb7.mono HB6.out.size)); have BA7 := Lib.hid (blk_below BA6.out hb7); clear hb7))
    clear a0 a1 a2
    have a0 := (blk_cell BA7.out 0).trans rfl
    have a1 := (blk_cell BA7.out 1).trans rfl
    have a2 := (blk_cell BA7.out 2).trans rfl
    cases e with
    | some e =>
      obtain rfl := write_err EA.out
      simp only [errV]
      go_wp2_with fail
      go_ret
      exact ⟨rfl, HB7.out⟩
    | none =>
      obtain ⟨hs, _, _, _, hrd⟩ := write_read EA.out
      obtain ⟨k, r, hSame, hr⟩ := same_eq a a hwa hwa
      obtain rfl : r = true := hr.2 rfl
      have HSM := Lib.hid hSame
      have HRD := Lib.hid hrd
      clear hSame hrd hs hr
      simp only [errV]
      go_upto_region 12 with (first | (go_at_call 14; refine (read_calls 200000 s a none HRD.out).mono ?_; rintro e w8 ⟨v, rfl, ⟨A8, c8, rfl, hl8, hC8⟩, hb8⟩; have HC8 := Lib.hid hC8; have HB8 := Lib.hid (HB7.out.trans (hb8.mono HB7.out.size)); have BA8 := Lib.hid (blk_below BA7.out hb8); clear hb8 hC8; simp only [errV]))
      clear a0 a1 a2
      have BA9 := blk_alloc BA8.out (.cells #[.bool a.f0, .string a.f1, .slice A8 a.f2.length c8] 24)
      have BB9 := blk_new w8 (.cells #[.bool a.f0, .string a.f1, .slice A8 a.f2.length c8] 24)
      have a0 := (blk_cell BA9 0).trans rfl
      have a1 := (blk_cell BA9 1).trans rfl
      have a2 := (blk_cell BA9 2).trans rfl
      have b0 := (blk_cell BB9 0).trans rfl
      have b1 := (blk_cell BB9 1).trans rfl
      have b2 := (blk_cell BB9 2).trans rfl
      go_wp2_with (first | (go_at_call 11; refine (Go.Proofs.YtehghdmfdinpjaaDoor.PAll.tambourref04_Same.calls k _ _ A c _ _ _ A8 c8 _ true _ (Kd.C_below HA.out (below_alloc HB8.out _)) hc (Kd.C_below HC8.out (below_alloc (Below.refl _ _) _)) hl8 HSM.out).mono ?_; rintro e w9 ⟨rfl, hb9⟩; have HB9 := Lib.hid ((below_alloc HB8.out _).trans (hb9.mono (below_alloc HB8.out _).size)); clear hb9))
      go_ret
      exact ⟨rfl, HB9.out⟩
#print axioms writes_calls
end Go.Proofs.YtehghdmfdinpjaaDoorF
