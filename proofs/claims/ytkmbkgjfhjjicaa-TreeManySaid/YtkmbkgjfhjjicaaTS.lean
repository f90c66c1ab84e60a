/- Tree: sort.Search by the shelf's contract, and place. -/
import Derived.Test.YtkmbkgjfhjjicaaTP
import Derived.Shelf.SlSorted.Search
namespace Go.Proofs.YtkmbkgjfhjjicaaT
open Go.RowKit Go.Maps Go.Proofs Go.Proofs.YtkmbkgjfhjjicaaW.PrintWords Go.Proofs.YtkmbkgjfhjjicaaW.PrintLast Go.Lib Go.Sort

def searchRen : Go.Shelf.Ren := ⟨fun | 16 => 21 | n => n, fun | 3 => 3 | 4 => 4 | 35 => 79 | 38 => 29 | n => n, fun n => n⟩
theorem searchLays : SlLaysO.n16 Try.prog searchRen := {
  mixed := by kernel_rfl
  f16 := by kernel_rfl
  t3 := Try.underlying3
  a3 := Try.isAgg3
  z3 := Try.sizeOf3
  v3 := Try.zeroValue3
  t4 := Try.underlying4
  a4 := Try.isAgg4
  z4 := Try.sizeOf4
  v4 := Try.zeroValue4
  t35 := Try.underlying79
  a35 := Try.isAgg79
  z35 := Try.sizeOf79
  v35 := Try.zeroValue79
  t38 := Try.underlying29
  a38 := Try.isAgg29
  z38 := Try.sizeOf29
  v38 := Try.zeroValue29 }
theorem search_calls (g : Nat) (cb : Array Value) (n : Nat) (p : Nat → Bool) (w : World) (eg : ∀ args w, (callFunc g args).run Try.prog w = .ok (.enter g args) w) (hsz : n < 4611686018427387904)
    (hf : ∀ (m : Nat) (os : Array Obj) (i : Nat), i < n → Calls Try.prog g (#[.int .i64 i] ++ cb) (grow (w.drewN m) os) fun e w' => e = .returned (.bool (p i)) ∧ ∃ q os', w' = grow ((grow (w.drewN m) os).drewN q) os')
    (hmono : ∀ a b, a ≤ b → b < n → p a = true → p b = true) :
    Calls Try.prog 21 #[.int .i64 n, .func (.func g) #[] cb] w fun e w' => e = .returned (.int .i64 ((List.range n).countP (fun i => !p i) : Nat)) ∧ Below w.heap.size w w' := by
  refine (Any.sort_Search searchLays g cb n p w eg hsz hf hmono).mono ?_
  rintro e w' ⟨rfl, q, os, rfl⟩
  exact ⟨rfl, below_grown_sl _ _ _ _ (Nat.le_refl _)⟩
set_option maxHeartbeats 2000000 in
set_option maxRecDepth 100000 in
theorem above_calls (gn gk blk off cap len : Nat) (y key : ByteArray) (i : Nat) (W : World) (hi : i + 1 < len) (hlen : len < 4611686018427387904)
    (hn : W.cell? ⟨gn, 1, none⟩ = some (.slice (some ⟨blk, off, none⟩) len cap)) (hk : W.cell? ⟨gk, 0, none⟩ = some (.string key)) (hc : W.cell? ⟨blk, off + (i + 1) * 3, none⟩ = some (.string y)) :
    Calls Try.prog 22 (#[.int .i64 i] ++ #[.pointer (some ⟨gn, 0, none⟩), .pointer (some ⟨gk, 0, none⟩)]) W fun e w' => e = .returned (.bool (!(lt y key || y.toList == key.toList))) ∧ ∃ q, w' = W.drewN q := by
  have hw1 : IntKind.i64.wrap ((i : Int) + 1) = ((i + 1 : Nat) : Int) := by rw [IntWalk.i64_in _ (by omega)]; rfl
  obtain ⟨j, hj⟩ : ∃ j : Nat, j = i + 1 := ⟨_, rfl⟩
  rw [← hj] at hi hc hw1
  have HJ := Lib.hid hj
  clear hj
  have hiz : (j : Int) < (len : Int) := by omega
  have mixed : Try.prog.follows .mixedOrders = true := by kernel_rfl
  go_enter Try.func22, Try.ntmps22
  go_wp2
  go_region_o
  all_goals go_wp2
  all_goals go_ret
  all_goals exact ⟨by first | rfl | (simp [lt]; done) | simp, 1, rfl⟩
set_option maxHeartbeats 2000000 in
set_option maxRecDepth 100000 in
theorem atleast_calls (gn gk blk off cap len : Nat) (y key : ByteArray) (i : Nat) (W : World) (hi : i < len) (hlen : len < 4611686018427387904)
    (hn : W.cell? ⟨gn, 1, none⟩ = some (.slice (some ⟨blk, off, none⟩) len cap)) (hk : W.cell? ⟨gk, 0, none⟩ = some (.string key)) (hc : W.cell? ⟨blk, off + i * 3, none⟩ = some (.string y)) :
    Calls Try.prog 23 (#[.int .i64 i] ++ #[.pointer (some ⟨gn, 0, none⟩), .pointer (some ⟨gk, 0, none⟩)]) W fun e w' => e = .returned (.bool (!lt y key)) ∧ ∃ q, w' = W.drewN q := by
  have hiz : (i : Int) < (len : Int) := by omega
  have mixed : Try.prog.follows .mixedOrders = true := by kernel_rfl
  go_enter Try.func23, Try.ntmps23
  go_wp2
  go_region_o
  all_goals go_wp2
  all_goals go_ret
  all_goals exact ⟨by first | rfl | (simp [lt]; done) | simp, 1, rfl⟩
#print axioms atleast_calls
end Go.Proofs.YtkmbkgjfhjjicaaT
