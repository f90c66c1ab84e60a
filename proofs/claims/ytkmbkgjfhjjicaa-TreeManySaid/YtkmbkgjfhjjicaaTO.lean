/- Tree: load, through the pager's interface. -/
import Derived.Test.YtkmbkgjfhjjicaaTD
namespace Go.Proofs.YtkmbkgjfhjjicaaT
open Go.RowKit Go.Maps Go.Proofs Go.Proofs.YtkmbkgjfhjjicaaW.PrintWords Go.Proofs.YtkmbkgjfhjjicaaW.PrintLast

abbrev pgv (pp : Nat) : Value := .iface 24 (.pointer (some ⟨pp, 0, none⟩))
theorem meth_get (a : Addr) (w : World) : (Go.method 201 24 (.pointer (some a)) "Get").run Try.prog w = .ok (45, .pointer (some a)) w := by kernel_rfl
theorem meth_put (a : Addr) (w : World) : (Go.method 201 24 (.pointer (some a)) "Put").run Try.prog w = .ok (47, .pointer (some a)) w := by kernel_rfl
theorem meth_new (a : Addr) (w : World) : (Go.method 201 24 (.pointer (some a)) "New").run Try.prog w = .ok (46, .pointer (some a)) w := by kernel_rfl
theorem meth_free (a : Addr) (w : World) : (Go.method 201 24 (.pointer (some a)) "Free").run Try.prog w = .ok (44, .pointer (some a)) w := by kernel_rfl
set_option maxHeartbeats 4000000 in
set_option maxRecDepth 100000 in
theorem load_calls {w : World} {pp mb nx : Nat} {F : Int → Option ByteArray} (h : PgAt w pp mb nx F) {k : Nat} (hk : k < 9000000000) (n : Nd) (hok : okN n = true) (hs : F k = some (bytesP (some n))) :
    Calls Try.prog 16 #[pgv pp, .int .i64 (k : Int)] w fun e w' => ∃ v, e = .returned (.tuple #[.agg #[.bool n.leaf, v], .nilIface]) ∧ RowI w' w.heap.size v n.items ∧ Below w.heap.size w w' := by
  have m1 := meth_get ⟨pp, 0, none⟩
  have H := Lib.hid h
  have HS := Lib.hid hs
  have HOK := Lib.hid hok
  clear h hs hok
  go_enter Try.func16, Try.ntmps16
  go_upto_region 1 with fail
  obtain ⟨g1, hg1⟩ : ∃ g1, g1 = w.heap.size := ⟨_, rfl⟩
  obtain ⟨w1, hw1⟩ : ∃ w1, w1 = w.alloc (.cells #[.bool false, .slice none 0 0] 56) := ⟨_, rfl⟩
  rw [← hw1, ← hg1]
  have hb1 : Below w.heap.size w w1 := by rw [hw1]; exact below_alloc (Below.refl _ _) _
  have BX1 := Lib.hid (show w1.heap[g1]? = some (.cells #[.bool false, .slice none 0 0] 56 (0, 0)) by rw [hw1, hg1]; exact blk_new _ _)
  have HB1 := Lib.hid hb1
  have HG1 := Lib.hid hg1
  clear hw1 hb1 hg1
  obtain ⟨s, hs⟩ : ∃ s, s = bytesP (some n) := ⟨_, rfl⟩
  have HS2 := Lib.hid hs
  clear hs
  go_upto_region 4 with (first | (go_at_call 45; refine (get_calls (s := s) (H.out.below HB1.out) hk (by rw [HS2.out]; exact HS.out)).mono ?_; rintro e w2 ⟨rfl, hb2⟩; have HB2 := Lib.hid (HB1.out.trans (hb2.mono HB1.out.size)); have BX2 := Lib.hid (blk_below BX1.out hb2); clear hb2))
  go_upto_region 5 with (first | (go_at_call 20; rw [show s = ba (encN n) from HS2.out]; refine (decode_calls n HOK.out).mono ?_; rintro e w3 ⟨v, rfl, hr3, hb3⟩; obtain ⟨A3, n3, c3, rfl⟩ := hr3.val; have HB3 := Lib.hid (HB2.out.trans (hb3.mono HB2.out.size)); have BX3 := Lib.hid (blk_below BX2.out hb3); have HR3 := Lib.hid hr3; have HL3 := Lib.hid (HB2.out.size); clear hb3 hr3))
  obtain ⟨g4, hg4⟩ : ∃ g4, g4 = w3.heap.size := ⟨_, rfl⟩
  obtain ⟨w4, hw4⟩ : ∃ w4, w4 = w3.alloc (.cells #[.bool n.leaf, .slice A3 n3 c3] 56) := ⟨_, rfl⟩
  rw [← hw4, ← hg4]
  have hb4 : Below w3.heap.size w3 w4 := by rw [hw4]; exact below_alloc (Below.refl _ _) _
  have BX4 := Lib.hid (show w4.heap[g4]? = some (.cells #[.bool n.leaf, .slice A3 n3 c3] 56 (0, 0)) by rw [hw4, hg4]; exact blk_new _ _)
  have B14 := Lib.hid (blk_below BX3.out hb4)
  have HB4 := Lib.hid (HB3.out.trans (hb4.mono HB3.out.size))
  have HR4 := Lib.hid (HR3.out.keep hb4)
  clear hw4 hb4 hg4
  have c0 := (blk_cell BX4.out 0).trans rfl
  have c1 := (blk_cell BX4.out 1).trans rfl
  have d0 := (blk_cell B14.out 0).trans rfl
  have d1 := (blk_cell B14.out 1).trans rfl
  have f0 := blk_frozen B14.out 0
  have f1 := blk_frozen B14.out 1
  go_wp2_with fail
  refine bodyPost_ret (results_row_tmp rfl _ _ g1 56 #[.bool n.leaf, .slice A3 n3 c3] (0, 0) _ rfl (heap_set2 B14.out _ _) Try.underlying56 rfl infoN) rfl ?_
  have hrow := HR4.out.base HL3.out
  refine ⟨_, rfl, row_keep hrow (fun k hk => ?_), below_set2 HB4.out (Nat.le_of_eq HG1.out.symm) _ _⟩
  have hne : k ≠ g1 := fun e => own_ne hrow B14.out (by decide) (by rw [hk, e])
  rw [Below.heap_setCell _ _ _ _ (fun e => hne e), Below.heap_setCell _ _ _ _ (fun e => hne e)]
#print axioms load_calls
end Go.Proofs.YtkmbkgjfhjjicaaT
