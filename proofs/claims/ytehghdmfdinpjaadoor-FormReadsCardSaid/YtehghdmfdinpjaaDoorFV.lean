/- Forms: FormReads walked. -/
import Derived.Test.YtehghdmfdinpjaaDoorFEa
import Derived.Test.YtehghdmfdinpjaaDoorFA
import Derived.Test.YtehghdmfdinpjaaDoorFY
namespace Go.Proofs.YtehghdmfdinpjaaDoorF
open Go.RowKit Go.Proofs Go.Proofs.YtehghdmfdinpjaaDoorW.PrintWords Go.Proofs.YtehghdmfdinpjaaDoorW.PrintLast
open Go.Proofs.YtehghdmfdinpjaaDoor.PAll (S24 k24 z24 tambourref04_Read.f)
open Go.Proofs.YtehghdmfdinpjaaDoorC (HasEt)

theorem wt_by : ∀ n, (∀ x : S24, wt x ≤ n → okF x = true → wt x ≤ 15 * (byF x).length) ∧ (∀ is : List S24, wtL is ≤ n → okL is = true → wtL is ≤ 15 * (byL is).length) := by
  intro n
  induction n with
  | zero =>
    refine ⟨fun x h => ?_, fun is h _ => ?_⟩
    · have := wt_pos x; omega
    · cases is with
      | nil => rw [wtL]; omega
      | cons y ys => rw [wtL] at h; have := wt_pos y; omega
  | succ n ih =>
    have hF : ∀ x : S24, wt x ≤ n + 1 → okF x = true → wt x ≤ 15 * (byF x).length := by
      rintro ⟨l, t, is⟩ h ho
      rw [wt] at h ⊢
      cases l with
      | false =>
        have hi : is = [] := by rw [okF] at ho; simpa using ho
        subst hi
        have hd := dec_ne t.size
        have hd1 : 1 ≤ (Lib.decDigits t.size).length := by
          cases hh : Lib.decDigits t.size with
          | nil => exact absurd hh hd
          | cons c l => simp
        have hs : t.data.toList.length = t.size := by rw [Array.length_toList]; rfl
        rw [byF, numT_data, List.length_append, List.length_cons, hs, wtL]
        omega
      | true =>
        rw [okF, Bool.and_eq_true] at ho
        have e1 : t = ⟨#[]⟩ := toList_empty (by rw [ByteArray.toList_eq]; exact ho.1)
        have e2 : t.size = 0 := by rw [e1]; rfl
        have := ih.2 is (by omega) ho.2
        rw [byF]
        simp only [List.length_append, List.length_cons, List.length_nil]
        omega
    refine ⟨hF, fun is h ho => ?_⟩
    cases is with
    | nil => rw [wtL]; omega
    | cons y ys =>
      rw [okL, Bool.and_eq_true] at ho
      rw [wtL] at h ⊢
      rw [byL, List.length_append]
      have := wt_pos y
      have h3 := hF y (by omega) ho.1
      have h4 := ih.2 ys (by omega) ho.2
      omega
/-- Both readers, of a short text. -/
theorem both_read (s : ByteArray) (hl : s.size ≤ 3000) : (∃ x, wt x ≤ 170000 ∧ readF 200000 s = some (x, none) ∧ tambourref04_Read.f 200000 s = some (x.f0, x.f1, x.f2, 0) ∧ writeF x = (s, none)) ∨ (readF 200000 s = some (z24, some 5) ∧ tambourref04_Read.f 200000 s = some (z24.f0, z24.f1, z24.f2, 5)) := by
  obtain ⟨L, rfl⟩ : ∃ L, s = ba L := ⟨_, (ba_list s).symm⟩
  rw [ba_size] at hl
  rcases read_says L with ⟨h, _⟩ | ⟨_, h⟩
  · omega
  · rcases ref_read L (by omega) with ⟨x, hx, hr⟩ | ⟨hn, hr⟩
    · rcases h with ⟨y, hy, h⟩ | ⟨hn, _⟩
      · obtain rfl := hx.same hy
        refine .inl ⟨x, ?_, h, hr, ?_⟩
        · have := (wt_by (wt x)).1 x (Nat.le_refl _) hx.2.1
          rw [← hx.1] at this
          omega
        · rw [writeF_eq, hx.2.1, if_pos rfl, if_neg (by rw [← hx.1]; have := hx.2.2; omega), ← hx.1]
      · exact absurd ⟨x, hx⟩ hn
    · rcases h with ⟨y, hy, _⟩ | ⟨_, h⟩
      · exact absurd ⟨y, hy⟩ hn
      · exact .inr ⟨h, hr⟩
theorem same_self (x : S24) (h : wt x ≤ 170000) : ∃ k, Go.Proofs.YtehghdmfdinpjaaDoor.PAll.tambourref04_Same.f k x.f0 x.f1 x.f2 x.f0 x.f1 x.f2 = some true := by
  obtain ⟨k, r, h1, h2⟩ := same_eq x x h h
  obtain rfl : r = true := h2.2 rfl
  exact ⟨k, h1⟩
theorem wt_zero : wt z24 ≤ 170000 := by decide
set_option maxHeartbeats 4000000 in
set_option maxRecDepth 100000 in
theorem reads_calls {w : World} (HT : TabAt w) (HG : HasEt w) (s : ByteArray) :
    Calls Tryd.prog 5 #[.string s] w fun e w' => e = .returned (.bool true) ∧ Below w.heap.size w w' := by
  have H0 := Lib.hid HT
  have HE := Lib.hid HG
  clear HT HG
  obtain ⟨kz, hz⟩ := same_self z24 wt_zero
  have HZS := Lib.hid hz
  clear hz
  go_enter Tryd.func5, Tryd.ntmps5
  go_upto_region 3 with (first | (go_at_call 8; refine (awake_calls H0.out).mono ?_; rintro e w3 ⟨rfl, hb3⟩; have HB3 := Lib.hid hb3; clear hb3))
  by_cases h1 : 3000 < s.size
  · have d1 : decide ((s.size : Int) > 3000) = true := decide_eq_true (by omega)
    by_cases h2 : s.size ≤ 65536
    · have d2 : decide ((s.size : Int) ≤ 65536) = true := decide_eq_true (by omega)
      go_wp2_with fail
      go_ret
      exact ⟨rfl, HB3.out⟩
    · have d2 : decide ((s.size : Int) ≤ 65536) = false := decide_eq_false (by omega)
      have hr : readF 200000 s = some (z24, some 2) := by rw [readF, if_pos (by omega)]
      go_upto_region 7 with (first | (go_at_call 14; refine (read_calls 200000 _ z24 (some 2) hr).mono ?_; rintro e w5 ⟨v, rfl, ⟨A5, c5, rfl, hl5, hC5⟩, hb5⟩; have HC5 := Lib.hid hC5; have HB5 := Lib.hid (HB3.out.trans (hb5.mono HB3.out.size)); clear hb5 hC5; simp only [errV]))
      have BX := Lib.hid (blk_new w5 (.cells #[.bool z24.f0, .string z24.f1, .slice A5 z24.f2.length c5] 24))
      have HB6 := Lib.hid (below_alloc HB5.out (.cells #[.bool z24.f0, .string z24.f1, .slice A5 z24.f2.length c5] 24))
      have HC6 := Lib.hid (Kd.C_below HC5.out (below_alloc (Below.refl _ _) (.cells #[.bool z24.f0, .string z24.f1, .slice A5 z24.f2.length c5] 24)))
      go_wp2_with (first | (go_at_call 13; refine (code_calls (HE.out.below HB6.out) (some 2)).mono ?_; rintro e w8 ⟨rfl, hb8⟩; have HB8 := Lib.hid (HB6.out.trans (hb8.mono HB6.out.size)); have HC8 := Lib.hid (Kd.C_below HC6.out hb8); have BX8 := blk_below BX.out hb8; clear hb8; have a0 := (blk_cell BX8 0).trans rfl; have a1 := (blk_cell BX8 1).trans rfl; have a2 := (blk_cell BX8 2).trans rfl; simp only [codeOf]) | (go_at_call 11; refine (Go.Proofs.YtehghdmfdinpjaaDoor.PAll.tambourref04_Same.calls kz _ _ A5 c5 z24.f2 _ _ none 0 z24.f2 true _ HC8.out hl5 (nil_C _) (Nat.le_refl _) HZS.out).mono ?_; rintro e w9 ⟨rfl, hb9⟩; have HB9 := Lib.hid (HB8.out.trans (hb9.mono HB8.out.size)); clear hb9))
      go_ret
      exact ⟨rfl, HB9.out⟩
  · have d1 : decide ((s.size : Int) > 3000) = false := decide_eq_false (by omega)
    have hboth := both_read s (by omega)
    rcases hboth with ⟨x, hwx, hr, hrr, hww⟩ | ⟨hr, hrr⟩
    · obtain ⟨k, hS⟩ := same_self x hwx
      have HR := Lib.hid hr
      have HRR := Lib.hid hrr
      have HWW := Lib.hid hww
      have HS := Lib.hid hS
      have HWX := Lib.hid hwx
      clear hr hrr hww hS hwx
      go_upto_region 8 with (first | (go_at_call 14; refine (read_calls 200000 _ x none HR.out).mono ?_; rintro e w5 ⟨v, rfl, ⟨A5, c5, rfl, hl5, hC5⟩, hb5⟩; have HC5 := Lib.hid hC5; have HB5 := Lib.hid (HB3.out.trans (hb5.mono HB3.out.size)); clear hb5 hC5; simp only [errV]))
      have BX := Lib.hid (blk_new w5 (.cells #[.bool x.f0, .string x.f1, .slice A5 x.f2.length c5] 24))
      have HB6 := Lib.hid (below_alloc HB5.out (.cells #[.bool x.f0, .string x.f1, .slice A5 x.f2.length c5] 24))
      have HC6 := Lib.hid (Kd.C_below HC5.out (below_alloc (Below.refl _ _) (.cells #[.bool x.f0, .string x.f1, .slice A5 x.f2.length c5] 24)))
      go_upto_region 9 with (first | (go_at_call 15; refine (Go.Proofs.YtehghdmfdinpjaaDoor.PAll.tambourref04_Read.calls 200000 s x.f0 x.f1 x.f2 0 _ HRR.out).mono ?_; rintro e w8 ⟨v, rfl, hR, hb8⟩; obtain ⟨A8, c8, rfl, hl8, hC8⟩ := Kd.R_reads hR; have HC8 := Lib.hid hC8; have HB8 := Lib.hid (HB6.out.trans (hb8.mono HB6.out.size)); have HC9 := Lib.hid (Kd.C_below HC6.out hb8); have BX8 := Lib.hid (blk_below BX.out hb8); clear hb8 hC8 hR))
      have BY := Lib.hid (blk_new w8 (.cells #[.bool x.f0, .string x.f1, .slice A8 x.f2.length c8] 24))
      have BX9 := Lib.hid (blk_alloc BX8.out (.cells #[.bool x.f0, .string x.f1, .slice A8 x.f2.length c8] 24))
      have HB9 := Lib.hid (below_alloc HB8.out (.cells #[.bool x.f0, .string x.f1, .slice A8 x.f2.length c8] 24))
      have HD8 := Lib.hid (Kd.C_below HC8.out (below_alloc (Below.refl _ _) (.cells #[.bool x.f0, .string x.f1, .slice A8 x.f2.length c8] 24)))
      have HD9 := Lib.hid (Kd.C_below HC9.out (below_alloc (Below.refl _ _) (.cells #[.bool x.f0, .string x.f1, .slice A8 x.f2.length c8] 24)))
      have a0 := (blk_cell BX9.out 0).trans rfl
      have a1 := (blk_cell BX9.out 1).trans rfl
      have a2 := (blk_cell BX9.out 2).trans rfl
      have b0 := (blk_cell BY.out 0).trans rfl
      have b1 := (blk_cell BY.out 1).trans rfl
      have b2 := (blk_cell BY.out 2).trans rfl
      go_upto_region 11 with (first | (go_at_call 11; refine (Go.Proofs.YtehghdmfdinpjaaDoor.PAll.tambourref04_Same.calls k _ _ A5 c5 x.f2 _ _ A8 c8 x.f2 true _ HD9.out hl5 HD8.out hl8 HS.out).mono ?_; rintro e w10 ⟨rfl, hb10⟩; have HB10 := Lib.hid (HB9.out.trans (hb10.mono HB9.out.size)); have BX10 := Lib.hid (blk_below BX9.out hb10); have HC10 := Lib.hid (Kd.C_below HD9.out hb10); clear hb10) | (go_at_call 13; refine (code_calls (HE.out.below HB10.out) none).mono ?_; rintro e w11 ⟨rfl, hb11⟩; have HB11 := Lib.hid (HB10.out.trans (hb11.mono HB10.out.size)); have BX11 := Lib.hid (blk_below BX10.out hb11); have HC11 := Lib.hid (Kd.C_below HC10.out hb11); clear hb11; simp only [codeOf]))
      clear a0 a1 a2 b0 b1 b2
      have a0 := (blk_cell BX11.out 0).trans rfl
      have a1 := (blk_cell BX11.out 1).trans rfl
      have a2 := (blk_cell BX11.out 2).trans rfl
      have hs0 : (s.toList == s.toList) = true := beq_self_eq_true _
      go_wp2_with (first | (go_at_call 10; refine (write_calls (tab_below H0.out HB11.out) x A5 c5 HC11.out hl5 (by have := HWX.out; omega)).mono ?_; rw [HWW.out]; rintro e w12 ⟨rfl, hb12⟩; have HB12 := Lib.hid (HB11.out.trans (hb12.mono HB11.out.size)); clear hb12; simp only [errV]))
      go_ret
      exact ⟨rfl, HB12.out⟩
    · have HR := Lib.hid hr
      have HRR := Lib.hid hrr
      clear hr hrr
      go_upto_region 8 with (first | (go_at_call 14; refine (read_calls 200000 _ z24 (some 5) HR.out).mono ?_; rintro e w5 ⟨v, rfl, ⟨A5, c5, rfl, hl5, hC5⟩, hb5⟩; have HC5 := Lib.hid hC5; have HB5 := Lib.hid (HB3.out.trans (hb5.mono HB3.out.size)); clear hb5 hC5; simp only [errV]))
      have BX := Lib.hid (blk_new w5 (.cells #[.bool z24.f0, .string z24.f1, .slice A5 z24.f2.length c5] 24))
      have HB6 := Lib.hid (below_alloc HB5.out (.cells #[.bool z24.f0, .string z24.f1, .slice A5 z24.f2.length c5] 24))
      have HC6 := Lib.hid (Kd.C_below HC5.out (below_alloc (Below.refl _ _) (.cells #[.bool z24.f0, .string z24.f1, .slice A5 z24.f2.length c5] 24)))
      go_upto_region 9 with (first | (go_at_call 15; refine (Go.Proofs.YtehghdmfdinpjaaDoor.PAll.tambourref04_Read.calls 200000 s z24.f0 z24.f1 z24.f2 5 _ HRR.out).mono ?_; rintro e w8 ⟨v, rfl, hR, hb8⟩; obtain ⟨A8, c8, rfl, hl8, hC8⟩ := Kd.R_reads hR; have HC8 := Lib.hid hC8; have HB8 := Lib.hid (HB6.out.trans (hb8.mono HB6.out.size)); have HC9 := Lib.hid (Kd.C_below HC6.out hb8); have BX8 := Lib.hid (blk_below BX.out hb8); clear hb8 hC8 hR))
      have BY := Lib.hid (blk_new w8 (.cells #[.bool z24.f0, .string z24.f1, .slice A8 z24.f2.length c8] 24))
      have BX9 := Lib.hid (blk_alloc BX8.out (.cells #[.bool z24.f0, .string z24.f1, .slice A8 z24.f2.length c8] 24))
      have HB9 := Lib.hid (below_alloc HB8.out (.cells #[.bool z24.f0, .string z24.f1, .slice A8 z24.f2.length c8] 24))
      have HD8 := Lib.hid (Kd.C_below HC8.out (below_alloc (Below.refl _ _) (.cells #[.bool z24.f0, .string z24.f1, .slice A8 z24.f2.length c8] 24)))
      have HD9 := Lib.hid (Kd.C_below HC9.out (below_alloc (Below.refl _ _) (.cells #[.bool z24.f0, .string z24.f1, .slice A8 z24.f2.length c8] 24)))
      have a0 := (blk_cell BX9.out 0).trans rfl
      have a1 := (blk_cell BX9.out 1).trans rfl
      have a2 := (blk_cell BX9.out 2).trans rfl
      have b0 := (blk_cell BY.out 0).trans rfl
      have b1 := (blk_cell BY.out 1).trans rfl
      have b2 := (blk_cell BY.out 2).trans rfl
      go_upto_region 11 with (first | (go_at_call 11; refine (Go.Proofs.YtehghdmfdinpjaaDoor.PAll.tambourref04_Same.calls kz _ _ A5 c5 z24.f2 _ _ A8 c8 z24.f2 true _ HD9.out hl5 HD8.out hl8 HZS.out).mono ?_; rintro e w10 ⟨rfl, hb10⟩; have HB10 := Lib.hid (HB9.out.trans (hb10.mono HB9.out.size)); have BX10 := Lib.hid (blk_below BX9.out hb10); have HC10 := Lib.hid (Kd.C_below HD9.out hb10); clear hb10) | (go_at_call 13; refine (code_calls (HE.out.below HB10.out) (some 5)).mono ?_; rintro e w11 ⟨rfl, hb11⟩; have HB11 := Lib.hid (HB10.out.trans (hb11.mono HB10.out.size)); have BX11 := Lib.hid (blk_below BX10.out hb11); have HC11 := Lib.hid (Kd.C_below HC10.out hb11); clear hb11; simp only [codeOf]))
      clear a0 a1 a2 b0 b1 b2
      have a0 := (blk_cell BX11.out 0).trans rfl
      have a1 := (blk_cell BX11.out 1).trans rfl
      have a2 := (blk_cell BX11.out 2).trans rfl
      go_wp2_with (first | (go_at_call 11; refine (Go.Proofs.YtehghdmfdinpjaaDoor.PAll.tambourref04_Same.calls kz _ _ A5 c5 z24.f2 _ _ none 0 z24.f2 true _ HC11.out hl5 (nil_C _) (Nat.le_refl _) HZS.out).mono ?_; rintro e w12 ⟨rfl, hb12⟩; have HB12 := Lib.hid (HB11.out.trans (hb12.mono HB11.out.size)); clear hb12))
      go_ret
      exact ⟨rfl, HB12.out⟩
#print axioms reads_calls
end Go.Proofs.YtehghdmfdinpjaaDoorF
