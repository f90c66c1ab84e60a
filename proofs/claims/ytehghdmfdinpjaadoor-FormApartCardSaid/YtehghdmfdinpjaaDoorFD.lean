/- Forms: FormApart walked. -/
import Derived.Test.YtehghdmfdinpjaaDoorFA
import Derived.Test.YtehghdmfdinpjaaDoorFQ
import Derived.Test.YtehghdmfdinpjaaDoorPAllx3
namespace Go.Proofs.YtehghdmfdinpjaaDoorF
open Go.RowKit Go.Proofs Go.Proofs.YtehghdmfdinpjaaDoorW.PrintWords Go.Proofs.YtehghdmfdinpjaaDoorW.PrintLast
open Go.Proofs.YtehghdmfdinpjaaDoor.PAll (S24 k24 z24)

set_option maxHeartbeats 4000000 in
set_option maxRecDepth 100000 in
theorem apart_calls {w : World} (HT : TabAt w) (a b : S24) (hta : tx a) (htb : tx b) (A B : Option Addr) (c d : Nat) (hA : k24.C w A a.f2.length a.f2) (hc : a.f2.length ≤ c) (hB : k24.C w B b.f2.length b.f2) (hd : b.f2.length ≤ d) :
    Calls Tryd.prog 3 #[.agg #[.bool a.f0, .string a.f1, .slice A a.f2.length c], .agg #[.bool b.f0, .string b.f1, .slice B b.f2.length d]] w fun e w' => e = .returned (.bool true) ∧ Below w.heap.size w w' := by
  have H0 := Lib.hid HT
  have HA := Lib.hid hA
  have HB := Lib.hid hB
  have HZ := Lib.hid (Below.refl w.heap.size w)
  clear HT hA hB
  go_enter Tryd.func3, Tryd.ntmps3
  go_upto_region 3 with (first | ((with_reducible refine gate_dst (N := 2) rfl ?_); refine box_event ?hg (N := 2) ?hd (cs := #[.bool a.f0, .string a.f1, .slice A a.f2.length c]) (t := 24) ?hr ?_; (case hd => rfl); (case hg => rfl); (case hr => first | (go_simp; done) | (go_simp; rfl)); intro ga hg wa hbox hb2; have HB1 := Lib.hid hb2; have BA1 := Lib.hid hbox; clear hb2 hbox hg) | ((with_reducible refine gate_dst (N := 3) rfl ?_); refine box_event ?hg (N := 3) ?hd (cs := #[.bool b.f0, .string b.f1, .slice B b.f2.length d]) (t := 24) ?hr ?_; (case hd => rfl); (case hg => rfl); (case hr => first | (go_simp; done) | (go_simp; rfl)); intro gb hg wb hbox hb2; have HB2 := Lib.hid (HB1.out.trans (hb2.mono HB1.out.size)); have BA2 := Lib.hid (blk_below BA1.out hb2); have BB2 := Lib.hid hbox; clear hb2 hbox hg) | (go_at_call 8; refine (awake_calls (tab_below H0.out HB2.out)).mono ?_; rintro e w3 ⟨rfl, hb3⟩; have HB3 := Lib.hid (HB2.out.trans (hb3.mono HB2.out.size)); have BA3 := Lib.hid (blk_below BA2.out hb3); have BB3 := Lib.hid (blk_below BB2.out hb3); clear hb3))
  have a0 := (blk_cell BA3.out 0).trans rfl
  have a1 := (blk_cell BA3.out 1).trans rfl
  have a2 := (blk_cell BA3.out 2).trans rfl
  clear BA1 BA2 BB2 HB1 HB2
  cases hsa : smallF a with
  | false =>
    go_wp2_with (first | (go_at_call 9; refine (small_calls a hta A c (Kd.C_below HA.out HB3.out) hc).mono ?_; rw [hsa]; rintro e w4 ⟨rfl, hb4⟩; have HB4 := Lib.hid (HB3.out.trans (hb4.mono HB3.out.size)); clear hb4))
    go_ret
    exact ⟨rfl, HB4.out⟩
  | true =>
    cases hsb : smallF b with
    | false =>
      go_wp2_with (first | (go_at_call 9; refine (small_calls a hta A c (Kd.C_below HA.out HB3.out) hc).mono ?_; rw [hsa]; rintro e w4 ⟨rfl, hb4⟩; have HB4 := Lib.hid (HB3.out.trans (hb4.mono HB3.out.size)); have BB4 := Lib.hid (blk_below BB3.out hb4); clear hb4; have b0 := (blk_cell BB4.out 0).trans rfl; have b1 := (blk_cell BB4.out 1).trans rfl; have b2 := (blk_cell BB4.out 2).trans rfl) | (go_at_call 9; refine (small_calls b htb B d (Kd.C_below HB.out HB4.out) hd).mono ?_; rw [hsb]; rintro e w5 ⟨rfl, hb5⟩; have HB5 := Lib.hid (HB4.out.trans (hb5.mono HB4.out.size)); clear hb5))
      go_ret
      exact ⟨rfl, HB5.out⟩
    | true =>
      have hwa := smallF_wt hsa
      have hwb := smallF_wt hsb
      obtain ⟨k, r, hSame, hr⟩ := same_eq a b hwa hwb
      obtain ⟨sa, ea⟩ : ∃ sa, sa = writeF a := ⟨_, rfl⟩
      obtain ⟨sb, eb⟩ : ∃ sb, sb = writeF b := ⟨_, rfl⟩
      obtain ⟨s, e⟩ := sa
      obtain ⟨t, f⟩ := sb
      have EA := Lib.hid ea
      have EB := Lib.hid eb
      have HR := Lib.hid hr
      have HSM := Lib.hid hSame
      clear ea eb hr hSame
      go_upto_region 5 with (first | (go_at_call 9; refine (small_calls a hta A c (Kd.C_below HA.out HB3.out) hc).mono ?_; rw [hsa]; rintro e w4 ⟨rfl, hb4⟩; have HB4 := Lib.hid (HB3.out.trans (hb4.mono HB3.out.size)); have BA4 := Lib.hid (blk_below BA3.out hb4); have BB4 := Lib.hid (blk_below BB3.out hb4); clear hb4; have b0 := (blk_cell BB4.out 0).trans rfl; have b1 := (blk_cell BB4.out 1).trans rfl; have b2 := (blk_cell BB4.out 2).trans rfl) | (go_at_call 9; refine (small_calls b htb B d (Kd.C_below HB.out HB4.out) hd).mono ?_; rw [hsb]; rintro e w5 ⟨rfl, hb5⟩; have HB5 := Lib.hid (HB4.out.trans (hb5.mono HB4.out.size)); have BA5 := Lib.hid (blk_below BA4.out hb5); have BB5 := Lib.hid (blk_below BB4.out hb5); clear hb5))
      clear a0 a1 a2 b0 b1 b2
      have a0 := (blk_cell BA5.out 0).trans rfl
      have a1 := (blk_cell BA5.out 1).trans rfl
      have a2 := (blk_cell BA5.out 2).trans rfl
      go_upto_region 6 with (first | (go_at_call 10; refine (write_calls (tab_below H0.out HB5.out) a A c (Kd.C_below HA.out HB5.out) hc (by omega)).mono ?_; rw [← EA.out]; rintro e w6 ⟨rfl, hb6⟩; have HB6 := Lib.hid (HB5.out.trans (hb6.mono HB5.out.size)); have BA6 := Lib.hid (blk_below BA5.out hb6); have BB6 := Lib.hid (blk_below BB5.out hb6); clear hb6))
      have b0 := (blk_cell BB6.out 0).trans rfl
      have b1 := (blk_cell BB6.out 1).trans rfl
      have b2 := (blk_cell BB6.out 2).trans rfl
      go_upto_region 7 with (first | (go_at_call 10; refine (write_calls (tab_below H0.out HB6.out) b B d (Kd.C_below HB.out HB6.out) hd (by omega)).mono ?_; rw [← EB.out]; rintro e w7 ⟨rfl, hb7⟩; have HB7 := Lib.hid (HB6.out.trans (hb7.mono HB6.out.size)); have BA7 := Lib.hid (blk_below BA6.out hb7); have BB7 := Lib.hid (blk_below BB6.out hb7); clear hb7))
      clear a0 a1 a2 b0 b1 b2
      have a0 := (blk_cell BA7.out 0).trans rfl
      have a1 := (blk_cell BA7.out 1).trans rfl
      have a2 := (blk_cell BA7.out 2).trans rfl
      have b0 := (blk_cell BB7.out 0).trans rfl
      have b1 := (blk_cell BB7.out 1).trans rfl
      have b2 := (blk_cell BB7.out 2).trans rfl
      cases e with
      | some e =>
        cases f with
        | some f =>
          simp only [errV]
          go_wp2_with fail
          go_ret
          exact ⟨rfl, HB7.out⟩
        | none =>
          simp only [errV]
          go_wp2_with fail
          go_ret
          exact ⟨rfl, HB7.out⟩
      | none =>
        cases f with
        | some f =>
          simp only [errV]
          go_wp2_with fail
          go_ret
          exact ⟨rfl, HB7.out⟩
        | none =>
          simp only [errV]
          have key : s = t ↔ a = b := ⟨fun h => write_inj EA.out.symm EB.out.symm h, fun h => by have h1 := EA.out; rw [h, ← EB.out] at h1; exact congrArg Prod.fst h1⟩
          go_wp2_with (first | (go_at_call 11; refine (Go.Proofs.YtehghdmfdinpjaaDoor.PAll.tambourref04_Same.calls k _ _ A c _ _ _ B d _ r _ (Kd.C_below HA.out HB7.out) hc (Kd.C_below HB.out HB7.out) hd HSM.out).mono ?_; rintro e w8 ⟨rfl, hb8⟩; have HB8 := Lib.hid (HB7.out.trans (hb8.mono HB7.out.size)); clear hb8))
          go_ret
          refine ⟨?_, HB8.out⟩
          have hk : ((s.toList == t.toList) == r) = true := by
            have h1 : (s.toList == t.toList) = true ↔ s = t := by
              rw [ByteArray.toList_eq, ByteArray.toList_eq, beq_iff_eq]
              exact ⟨fun h => by obtain ⟨⟨x⟩⟩ := s; obtain ⟨⟨y⟩⟩ := t; exact congrArg (fun l : List UInt8 => (⟨⟨l⟩⟩ : ByteArray)) h, fun h => by rw [h]⟩
            rw [beq_iff_eq, Bool.eq_iff_iff, h1, key, HR.out]
          show Ending.returned (.bool ((s.toList == t.toList) == r)) = _
          rw [hk]
#print axioms apart_calls
end Go.Proofs.YtehghdmfdinpjaaDoorF
