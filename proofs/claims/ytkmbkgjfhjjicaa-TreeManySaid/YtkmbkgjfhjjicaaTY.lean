/- Tree: awake. -/
import Derived.Test.YtkmbkgjfhjjicaaTB
namespace Go.Proofs.YtkmbkgjfhjjicaaT
open Go.RowKit Go.Maps Go.Proofs Go.Proofs.YtkmbkgjfhjjicaaW.PrintWords Go.Proofs.YtkmbkgjfhjjicaaW.PrintLast

def S0 : Pg := ⟨fun _ => none, 0⟩
theorem S0_F : S0.F = fun _ => none := by
  funext k
  unfold Pg.F S0
  split <;> rfl
def bytesOf (l : List UInt8) : ByteArray := ⟨⟨l⟩⟩
theorem awake_runs : ((putRoot S0 0 (bytesOf [98]) (bytesOf [50])).bind fun r => (putRoot r.1 r.2 (bytesOf [97]) (bytesOf [49])).bind fun q => (walkF 2 q.1 q.2 9 []).map fun l => (r.2, q.2, l)) = some (1, 1, [(bytesOf [97], bytesOf [49]), (bytesOf [98], bytesOf [50])]) := by kernel_rfl
theorem awake_plain : ∃ S1 S2, putRoot S0 0 (bytesOf [98]) (bytesOf [50]) = some (S1, 1) ∧ putRoot S1 1 (bytesOf [97]) (bytesOf [49]) = some (S2, 1) ∧ walkF 2 S2 1 9 [] = some [(bytesOf [97], bytesOf [49]), (bytesOf [98], bytesOf [50])] := by
  have h := awake_runs
  obtain ⟨⟨S1, r1⟩, h1, h⟩ := Option.bind_eq_some_iff.1 h
  obtain ⟨⟨S2, r2⟩, h2, h⟩ := Option.bind_eq_some_iff.1 h
  obtain ⟨l, h3, h4⟩ := Option.map_eq_some_iff.1 h
  injection h4 with e1 h4
  injection h4 with e2 e3
  simp only at e1 e2 e3 h2 h3
  subst e1 e2 e3
  exact ⟨S1, S2, h1, h2, h3⟩
#print axioms awake_plain
theorem prs_new (w : World) (l : List Pr) : PrsAt (w.alloc (.cells (flatP l).toArray 38)) (some ⟨w.heap.size, 0, none⟩) l := fun _ => ⟨⟨w.heap.size, 0, none⟩, rfl, rfl, fun j u hu => by
  rw [Nat.zero_add]
  exact (blk_cell (blk_new w (.cells (flatP l).toArray 38)) j).trans (by rw [List.getElem?_toArray]; exact hu)⟩
set_option maxHeartbeats 4000000 in
set_option maxRecDepth 100000 in
theorem awake_calls (w : World) : Calls Try.prog 4 #[] w fun e w' => e = .returned (.bool true) ∧ Below w.heap.size w w' := by
  obtain ⟨S1, S2, h1, h2, h3⟩ := awake_plain
  have H1 := Lib.hid h1
  have H2 := Lib.hid h2
  have H3 := Lib.hid h3
  clear h1 h2 h3
  go_enter Try.func4, Try.ntmps4
  go_upto_region 2 with (first | (go_at_call 5; refine (newPages_calls w).mono ?_; rintro e w1 ⟨pp, mb, rfl, hp1, hb1, hpp, hmb⟩; have HP1 := Lib.hid (show PgAt w1 pp mb S0.nx S0.F by rw [S0_F]; exact hp1); have HB1 := Lib.hid hb1; have HPM := Lib.hid (And.intro hpp hmb); clear hp1 hb1 hpp hmb))
  go_upto_region 3 with (first | (go_at_call 6; refine (Put_calls H1.out HP1.out (Nat.le_of_ble_eq_true rfl)).mono ?_; rintro e w2 ⟨rfl, hp2, hk2⟩; have HP2 := Lib.hid hp2; have HK2 := Lib.hid hk2; clear hp2 hk2))
  go_upto_region 4 with (first | (go_at_call 6; refine (Put_calls H2.out HP2.out (Nat.le_of_ble_eq_true rfl)).mono ?_; rintro e w3 ⟨rfl, hp3, hk3⟩; have HP3 := Lib.hid hp3; have HK3 := Lib.hid hk3; clear hp3 hk3))
  go_upto_region 5 with (first | (go_at_call 7; refine (Range_calls (k := 2) (limit := 9) ⟨Nat.one_ne_zero, H3.out⟩ HP3.out (Nat.le_of_ble_eq_true rfl) (by decide) (by decide)).mono ?_; rintro e w4 ⟨v4, rfl, hr4, hb4⟩; obtain ⟨A4, c4, rfl, hlc4, hit4⟩ := hr4.reads; have HI4 := Lib.hid hit4; have HB4 := Lib.hid hb4; clear hr4 hb4 hit4))
  have hsz : w.heap.size ≤ w3.heap.size := Nat.le_trans HB1.out.size (Nat.le_trans HK2.out.size HK3.out.size)
  have hb3 : Below w.heap.size w w3 := HB1.out.trans ((HK2.out.trans HK3.out).below HB1.out.size (fun k hk => ⟨by have := HPM.out; omega, by have := HPM.out; omega⟩))
  have HB := Lib.hid (hb3.trans (HB4.out.mono hsz))
  have HA5 := Lib.hid (below_alloc (Below.refl w4.heap.size w4) (.cells #[.string (bytesOf [97]), .string (bytesOf [49]), .string (bytesOf [98]), .string (bytesOf [50])] 38))
  have HI5 := Lib.hid (prs_new w4 [(bytesOf [97], bytesOf [49]), (bytesOf [98], bytesOf [50])])
  clear hsz hb3
  go_wp2_with (first | (go_at_call 9; refine (Same_calls (HI4.out.below HA5.out) HI5.out rfl (by decide)).mono ?_; rintro e w6 ⟨rfl, hb6⟩; have HB6 := Lib.hid hb6; clear hb6))
  go_ret
  exact ⟨rfl, (HB.out.trans (HA5.out.mono HB.out.size)).trans (HB6.out.mono (Nat.le_trans HB.out.size HA5.out.size))⟩
#print axioms awake_calls
end Go.Proofs.YtkmbkgjfhjjicaaT
