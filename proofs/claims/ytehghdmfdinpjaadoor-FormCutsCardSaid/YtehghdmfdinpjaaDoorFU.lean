/- Forms: FormCuts walked. -/
import Derived.Test.YtehghdmfdinpjaaDoorFE
namespace Go.Proofs.YtehghdmfdinpjaaDoorF
open Go.RowKit Go.Proofs Go.Proofs.YtehghdmfdinpjaaDoorW.PrintWords Go.Proofs.YtehghdmfdinpjaaDoorW.PrintLast
open Go.Proofs.YtehghdmfdinpjaaDoor.PAll (S24 k24 z24)
open Go.Proofs.YtehghdmfdinpjaaDoorC (HasEt)

/-- A beginning of a form's bytes is no form. -/
theorem cut_read {x : S24} {s : ByteArray} (h : writeF x = (s, none)) {j : Nat} (hj : j < s.size) : readF 200000 (s.extract 0 j) = some (z24, some 5) := by
  obtain ⟨rfl, hok, hde, hl, _⟩ := write_read h
  rw [ba_size] at hj
  rw [ba_take]
  rcases read_says ((byF x).take j) with ⟨hl2, _⟩ | ⟨_, ⟨y, hy, _⟩ | ⟨_, hr⟩⟩
  · rw [List.length_take] at hl2; omega
  · exfalso
    have e : byF x ++ [] = byF y ++ (byF x).drop j := by rw [← hy.1, List.take_append_drop, List.append_nil]
    have h2 := (byF_inj x y [] _ hok hy.2.1 e).2
    have h3 := congrArg List.length h2
    rw [List.length_drop, List.length_nil] at h3
    omega
  · exact hr
/-- What goes on behind a form's bytes is no form. -/
theorem more_read {x : S24} {s m : ByteArray} (h : writeF x = (s, none)) (hm : m.toList.isEmpty = false) : ∃ c, readF 200000 (s ++ m) = some (z24, some c) ∧ (c = 5 ∨ (c = 2 ∧ 65536 < s.size + m.size)) := by
  obtain ⟨rfl, hok, hde, hl, _⟩ := write_read h
  obtain ⟨M, rfl⟩ : ∃ M, m = ba M := ⟨_, (ba_list m).symm⟩
  rw [ba_append, ba_size, ba_size]
  rw [ba_toList] at hm
  rcases read_says (byF x ++ M) with ⟨hl2, hr⟩ | ⟨_, ⟨y, hy, _⟩ | ⟨_, hr⟩⟩
  · rw [List.length_append] at hl2
    exact ⟨2, hr, .inr ⟨rfl, hl2⟩⟩
  · exfalso
    have e : byF x ++ M = byF y ++ [] := by rw [← hy.1, List.append_nil]
    have h2 := (byF_inj x y M [] hok hy.2.1 e).2
    rw [h2] at hm
    cases hm
  · exact ⟨5, hr, .inl rfl⟩
set_option maxHeartbeats 4000000 in
set_option maxRecDepth 100000 in
theorem cuts_calls {w : World} (HT : TabAt w) (HG : HasEt w) (a : S24) (hta : tx a) (A : Option Addr) (c : Nat) (hA : k24.C w A a.f2.length a.f2) (hc : a.f2.length ≤ c) (n : Int) (m : ByteArray) :
    Calls Tryd.prog 6 #[.agg #[.bool a.f0, .string a.f1, .slice A a.f2.length c], .int .i64 n, .string m] w fun e w' => e = .returned (.bool true) ∧ Below w.heap.size w w' := by
  have H0 := Lib.hid HT
  have HE := Lib.hid HG
  have HA := Lib.hid hA
  have HZ := Lib.hid (Below.refl w.heap.size w)
  clear HT HG hA
  go_enter Tryd.func6, Tryd.ntmps6
  go_upto_region 3 with (first | ((with_reducible refine gate_dst (N := 3) rfl ?_); refine box_event ?hg (N := 3) ?hd (cs := #[.bool a.f0, .string a.f1, .slice A a.f2.length c]) (t := 24) ?hr ?_; (case hd => rfl); (case hg => rfl); (case hr => first | (go_simp; done) | (go_simp; rfl)); intro ga hg wa hbox hb2; have HB1 := Lib.hid hb2; have BA1 := Lib.hid hbox; clear hb2 hbox hg) | (go_at_call 8; refine (awake_calls (tab_below H0.out HB1.out)).mono ?_; rintro e w3 ⟨rfl, hb3⟩; have HB3 := Lib.hid (HB1.out.trans (hb3.mono HB1.out.size)); have BA3 := Lib.hid (blk_below BA1.out hb3); clear hb3))
  have a0 := (blk_cell BA3.out 0).trans rfl
  have a1 := (blk_cell BA3.out 1).trans rfl
  have a2 := (blk_cell BA3.out 2).trans rfl
  clear BA1 HB1
  cases hsa : smallF a with
  | false =>
    go_wp2_with (first | (go_at_call 9; refine (small_calls a hta A c (Kd.C_below HA.out HB3.out) hc).mono ?_; rw [hsa]; rintro e w4 ⟨rfl, hb4⟩; have HB4 := Lib.hid (HB3.out.trans (hb4.mono HB3.out.size)); clear hb4))
    go_ret
    exact ⟨rfl, HB4.out⟩
  | true =>
  cases hm : m.toList.isEmpty with
  | true =>
    go_wp2_with (first | (go_at_call 9; refine (small_calls a hta A c (Kd.C_below HA.out HB3.out) hc).mono ?_; rw [hsa]; rintro e w4 ⟨rfl, hb4⟩; have HB4 := Lib.hid (HB3.out.trans (hb4.mono HB3.out.size)); clear hb4))
    go_ret
    exact ⟨rfl, HB4.out⟩
  | false =>
  by_cases hml : 1000 < m.size
  · have h1 : decide ((m.size : Int) > 1000) = true := decide_eq_true (by omega)
    go_wp2_with (first | (go_at_call 9; refine (small_calls a hta A c (Kd.C_below HA.out HB3.out) hc).mono ?_; rw [hsa]; rintro e w4 ⟨rfl, hb4⟩; have HB4 := Lib.hid (HB3.out.trans (hb4.mono HB3.out.size)); clear hb4))
    go_ret
    exact ⟨rfl, HB4.out⟩
  · have h1 : decide ((m.size : Int) > 1000) = false := decide_eq_false (by omega)
    have hwa := smallF_wt hsa
    obtain ⟨sa, ea⟩ : ∃ sa, sa = writeF a := ⟨_, rfl⟩
    obtain ⟨s, e⟩ := sa
    have EA := Lib.hid ea.symm
    clear ea
    go_upto_region 5 with (first | (go_at_call 9; refine (small_calls a hta A c (Kd.C_below HA.out HB3.out) hc).mono ?_; rw [hsa]; rintro e w4 ⟨rfl, hb4⟩; have HB4 := Lib.hid (HB3.out.trans (hb4.mono HB3.out.size)); have BA4 := Lib.hid (blk_below BA3.out hb4); clear hb4))
    clear a0 a1 a2
    have a0 := (blk_cell BA4.out 0).trans rfl
    have a1 := (blk_cell BA4.out 1).trans rfl
    have a2 := (blk_cell BA4.out 2).trans rfl
    go_upto_region 6 with (first | (go_at_call 10; refine (write_calls (tab_below H0.out HB4.out) a A c (Kd.C_below HA.out HB4.out) hc (by omega)).mono ?_; rw [EA.out]; rintro e w5 ⟨rfl, hb5⟩; have HB5 := Lib.hid (HB4.out.trans (hb5.mono HB4.out.size)); clear hb5))
    clear a0 a1 a2
    cases e with
    | some e =>
      simp only [errV]
      go_wp2_with fail
      go_ret
      exact ⟨rfl, HB5.out⟩
    | none =>
      simp only [errV]
      by_cases hn0 : n < 0
      · have h2 : decide (n < 0) = true := decide_eq_true hn0
        go_wp2_with fail
        go_ret
        exact ⟨rfl, HB5.out⟩
      · have h2 : decide (n < 0) = false := decide_eq_false hn0
        obtain ⟨j, rfl⟩ : ∃ j : Nat, n = (j : Int) := ⟨n.toNat, by omega⟩
        by_cases hj : s.size ≤ j
        · have h3 : decide ((j : Int) ≥ (s.size : Int)) = true := decide_eq_true (by omega)
          go_wp2_with fail
          go_ret
          exact ⟨rfl, HB5.out⟩
        · have h3 : decide ((j : Int) ≥ (s.size : Int)) = false := decide_eq_false (by omega)
          have hr1 := cut_read EA.out (j := j) (by omega)
          obtain ⟨k, hr2, hk⟩ := more_read EA.out hm
          have hsz : s.size ≤ 65536 := by obtain ⟨rfl, _, _, hl, _⟩ := write_read EA.out; rw [ba_size]; exact hl
          have q1 : (0 : Int) ≤ (j : Int) := Int.natCast_nonneg _
          have q2 : (j : Int) ≤ (s.size : Int) := by omega
          have q3 : s.size + m.size ≤ maxLen := by unfold maxLen; omega
          have HR1 := Lib.hid hr1
          have HR2 := Lib.hid hr2
          have HK := Lib.hid hk
          clear hr1 hr2 hk
          go_upto_region 9 with (first | (go_at_call 14; refine (read_calls 200000 _ z24 (some 5) HR1.out).mono ?_; rintro e w6 ⟨v, rfl, ⟨A6, c6, rfl, _, _⟩, hb6⟩; have HB6 := Lib.hid (below_alloc (HB5.out.trans (hb6.mono HB5.out.size)) (.cells #[.bool z24.f0, .string z24.f1, .slice A6 z24.f2.length c6] 24)); clear hb6; simp only [errV]))
          go_upto_region 10 with (first | (go_at_call 14; refine (read_calls 200000 _ z24 (some k) HR2.out).mono ?_; rintro e w7 ⟨v, rfl, ⟨A7, c7, rfl, _, _⟩, hb7⟩; have HB7 := Lib.hid (below_alloc (HB6.out.trans (hb7.mono HB6.out.size)) (.cells #[.bool z24.f0, .string z24.f1, .slice A7 z24.f2.length c7] 24)); clear hb7; simp only [errV]))
          rcases HK.out with rfl | ⟨rfl, hbig⟩
          · go_wp2_with (first | (go_at_call 13; refine (code_calls (HE.out.below HB8.out) (some 5)).mono ?_; rintro e w9 ⟨rfl, hb9⟩; have HB9 := Lib.hid (HB8.out.trans (hb9.mono HB8.out.size)); clear hb9; simp only [codeOf]) | (go_at_call 13; refine (code_calls (HE.out.below HB7.out) (some 5)).mono ?_; rintro e w8 ⟨rfl, hb8⟩; have HB8 := Lib.hid (HB7.out.trans (hb8.mono HB7.out.size)); clear hb8; simp only [codeOf]))
            go_ret
            exact ⟨rfl, HB9.out⟩
          · have h4 : decide ((s.size : Int) + (m.size : Int) > 65536) = true := decide_eq_true (by omega)
            go_wp2_with (first | (go_at_call 13; refine (code_calls (HE.out.below HB8.out) (some 2)).mono ?_; rintro e w9 ⟨rfl, hb9⟩; have HB9 := Lib.hid (HB8.out.trans (hb9.mono HB8.out.size)); clear hb9; simp only [codeOf]) | (go_at_call 13; refine (code_calls (HE.out.below HB7.out) (some 5)).mono ?_; rintro e w8 ⟨rfl, hb8⟩; have HB8 := Lib.hid (HB7.out.trans (hb8.mono HB7.out.size)); clear hb8; simp only [codeOf]))
            go_ret
            exact ⟨rfl, HB9.out⟩
#print axioms cuts_calls
end Go.Proofs.YtehghdmfdinpjaaDoorF
