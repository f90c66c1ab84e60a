/- Tree: Range; Same of pairs. -/
import Derived.Test.YtkmbkgjfhjjicaaTX
import Derived.BigQuiet
namespace Go.Proofs.YtkmbkgjfhjjicaaT
open Go.RowKit Go.Maps Go.Proofs Go.Proofs.YtkmbkgjfhjjicaaW.PrintWords Go.Proofs.YtkmbkgjfhjjicaaW.PrintLast

set_option maxHeartbeats 4000000 in
set_option maxRecDepth 100000 in
theorem Range_calls {pp mb k : Nat} {w : World} {S : Pg} {root limit : Nat} {l : List Pr} (h : root ≠ 0 ∧ walkF k S root limit [] = some l) (hp : PgAt w pp mb S.nx S.F) (hpk : root < 9000000000) (hl1 : 1 ≤ limit) (hl2 : limit ≤ 1000) :
    Calls Try.prog 7 #[pgv pp, .int .i64 (root : Int), .string ⟨#[]⟩, .string ⟨#[]⟩, .int .i64 (limit : Int)] w fun e w' => ∃ v, e = .returned (.tuple #[v, .nilIface]) ∧ RowP w' w.heap.size v l ∧ Below w.heap.size w w' := by
  have HP := Lib.hid hp
  have HW := Lib.hid h.2
  have h0 : ¬ ((root : Int) = 0) := by have := h.1; omega
  have h1 : ¬ ((limit : Int) < 1) := by omega
  clear h hp
  go_enter Try.func7, Try.ntmps7
  go_wp2_with (first | (go_at_call 14; refine ((walk_calls k).use HW.out HP.out hpk hl2 (RowP.nil w w.heap.size) (Nat.le_refl _) HP.out.lt.1 HP.out.lt.2).mono ?_; rintro e w1 ⟨v1, rfl, hr1, hk1, hb1⟩; have HR1 := Lib.hid hr1; have HB1 := Lib.hid hb1; clear hr1 hk1 hb1) | (go_at_call 10; refine (wrap_calls w1).mono ?_; rintro e w2 ⟨rfl, hb2⟩; have HB2 := Lib.hid hb2; clear hb2))
  go_ret2
  exact ⟨_, rfl, HR1.out.keep HB2.out, HB1.out.trans (HB2.out.mono HB1.out.size)⟩
theorem below_drewN {w : World} {B : Nat} (k : Nat) : Below B w (w.drewN k) := ⟨rfl, rfl, rfl, Nat.le_refl _, fun _ _ => rfl⟩
theorem flatP_at : ∀ {l : List Pr} {i : Nat} {x : Pr}, l[i]? = some x → (flatP l)[i * 2]? = some (.string x.1) ∧ (flatP l)[i * 2 + 1]? = some (.string x.2)
  | [], i, x, h => by simp at h
  | y :: l, 0, x, h => by
    obtain rfl : y = x := by simpa using h
    exact ⟨rfl, rfl⟩
  | y :: l, i + 1, x, h => by
    have h' : l[i]? = some x := by simpa using h
    rw [flatP_cons, show (i + 1) * 2 = i * 2 + 1 + 1 by omega, show i * 2 + 1 + 1 + 1 = (i * 2 + 1) + 1 + 1 by omega, List.getElem?_cons_succ, List.getElem?_cons_succ, List.getElem?_cons_succ, List.getElem?_cons_succ]
    exact flatP_at h'
theorem PrsAt.at {w : World} {blk off : Nat} {l : List Pr} (h : PrsAt w (some ⟨blk, off, none⟩) l) {i : Nat} {x : Pr} (hx : l[i]? = some x) : w.cell? ⟨blk, off + i * 2, none⟩ = some (.string x.1) ∧ w.cell? ⟨blk, off + i * 2 + 1, none⟩ = some (.string x.2) := by
  obtain ⟨ad, h1, _, h2⟩ := h (by rintro rfl; simp at hx)
  cases h1
  obtain ⟨h3, h4⟩ := flatP_at hx
  exact ⟨h2 _ _ h3, by rw [Nat.add_assoc]; exact h2 _ _ h4⟩
theorem PrsAt.some {w : World} {A : Option Addr} {l : List Pr} (h : PrsAt w A l) (h0 : l ≠ []) : ∃ blk off, A = Option.some ⟨blk, off, none⟩ := by
  obtain ⟨⟨b, o, sp⟩, h1, h2, _⟩ := h h0
  cases h2
  exact ⟨b, o, h1⟩
theorem PrsAt.below {w w' : World} {A : Option Addr} {l : List Pr} (h : PrsAt w A l) (hb : Below w.heap.size w w') : PrsAt w' A l := fun h0 => by
  obtain ⟨ad, h1, h2, h3⟩ := h h0
  exact ⟨ad, h1, h2, fun j u hu => by
    have hc := h3 j u hu
    rw [World.cell?_of_block (w := w) (hb.block _ (World.block_lt_of_cell? w _ hc))]
    exact hc⟩
set_option maxHeartbeats 4000000 in
set_option maxRecDepth 100000 in
theorem Same_calls {w : World} {A A2 : Option Addr} {n c c2 : Nat} {l : List Pr} (hA : PrsAt w A l) (hA2 : PrsAt w A2 l) (hn : n = l.length) (hl : n ≤ 1000) :
    Calls Try.prog 9 #[.slice A n c, .slice A2 n c2] w fun e w' => e = .returned (.bool true) ∧ Below w.heap.size w w' := by
  have H1 := Lib.hid hA
  have H2 := Lib.hid hA2
  have HN := Lib.hid hn
  clear hA hA2 hn
  go_enter Try.func9, Try.ntmps9
  go_wp2_with fail
  go_loopw [5] (fun iv wr => ∃ i q : Nat, iv = .int .i64 (i : Int) ∧ i ≤ n ∧ wr = w.drewN q) (fun iv _ => n - (intOf iv).toNat)
  case atStart => exact ⟨0, 0, rfl, Nat.zero_le _, rfl⟩
  case round =>
    obtain ⟨i, q, rfl, hin, rfl⟩ := hrel
    by_cases hi : i < n
    · have hi' : (i : Int) < (n : Int) := by omega
      obtain ⟨x, hx⟩ : ∃ x, l[i]? = some x := ⟨_, List.getElem?_eq_getElem (by rw [← HN.out]; exact hi)⟩
      have hne : l ≠ [] := by rintro rfl; simp at hx
      obtain ⟨b1, o1, rfl⟩ := H1.out.some hne
      obtain ⟨b2, o2, rfl⟩ := H2.out.some hne
      obtain ⟨c1, c1'⟩ := H1.out.at hx
      obtain ⟨c3, c3'⟩ := H2.out.at hx
      clear hx hne
      go_wp2_with fail
      go_quiet (fail)
      go_wp2_with fail
      exact ⟨⟨i + 1, q + nq, rfl, by omega, rfl⟩, by simp only [intOf]; omega⟩
    · have hi' : ¬ (i : Int) < (n : Int) := by omega
      go_wp2_with fail
      go_ret
      exact ⟨rfl, below_drewN _⟩
#print axioms Same_calls
#print axioms Range_calls
end Go.Proofs.YtkmbkgjfhjjicaaT
