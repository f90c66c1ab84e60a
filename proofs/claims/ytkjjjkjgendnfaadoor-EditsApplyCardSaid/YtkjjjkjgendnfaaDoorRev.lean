/- slices.Reverse of a row of steps that the call owns: the same row, turned. -/
import Derived.Test.YtkjjjkjgendnfaaDoorRevP
import Derived.Test.YtkjjjkjgendnfaaDoorProg
import Derived.Laws.OwnMore
import Derived.Deep.LoopGhost
import Derived.RegionTactic
import Derived.Maps.AppendAt
import Derived.BigRegion
import Derived.Outline
import Derived.Lib.Hide
import Derived.Test.YtkjjjkjgendnfaaDoorWMore
import Derived.Test.YtkjjjkjgendnfaaDoorWWords
namespace Go.Proofs.YtkjjjkjgendnfaaDoorR
open Go.RowKit

theorem ne_facts {i j : Nat} (h : i < j) : (¬ (i * 3 = j * 3)) ∧ (¬ (i * 3 = j * 3 + 1)) ∧ (¬ (i * 3 = j * 3 + 2)) ∧ (¬ (i * 3 + 1 = j * 3)) ∧ (¬ (i * 3 + 1 = j * 3 + 1)) ∧ (¬ (i * 3 + 1 = j * 3 + 2)) ∧ (¬ (i * 3 + 2 = j * 3)) ∧ (¬ (i * 3 + 2 = j * 3 + 1)) ∧ (¬ (i * 3 + 2 = j * 3 + 2)) ∧
   (¬ (j * 3 = i * 3)) ∧ (¬ (j * 3 = i * 3 + 1)) ∧ (¬ (j * 3 = i * 3 + 2)) ∧ (¬ (j * 3 + 1 = i * 3)) ∧ (¬ (j * 3 + 1 = i * 3 + 1)) ∧ (¬ (j * 3 + 1 = i * 3 + 2)) ∧ (¬ (j * 3 + 2 = i * 3)) ∧ (¬ (j * 3 + 2 = i * 3 + 1)) ∧ (¬ (j * 3 + 2 = i * 3 + 2)) := by omega

theorem owned_swap {w : World} {base g n cap : Nat} {m : List St} (h : w.ownsRow base 70 3 (.slice (some ⟨g, 0, none⟩) n cap) n (flat m)) (i j : Nat) (x y : St) (hi : i < m.length) (hj : j < m.length) :
    ((((((w.setCell ⟨g, i * 3, none⟩ (.int .i64 x.1)).setCell ⟨g, i * 3 + 1, none⟩ (.int .i64 x.2.1)).setCell ⟨g, i * 3 + 2, none⟩ (.bool x.2.2)).setCell ⟨g, j * 3, none⟩ (.int .i64 y.1)).setCell ⟨g, j * 3 + 1, none⟩ (.int .i64 y.2.1)).setCell ⟨g, j * 3 + 2, none⟩ (.bool y.2.2)).ownsRow base 70 3 (.slice (some ⟨g, 0, none⟩) n cap) n (flat ((m.set i x).set j y)) := by
  have h1 := (((((h.stored (i * 3) (.int .i64 x.1)).1.stored (i * 3 + 1) (.int .i64 x.2.1)).1.stored (i * 3 + 2) (.bool x.2.2)).1.stored (j * 3) (.int .i64 y.1)).1.stored (j * 3 + 1) (.int .i64 y.2.1)).1.stored (j * 3 + 2) (.bool y.2.2)
  rw [flat_set _ _ _ (by simpa using hj), flat_set _ _ _ hi]
  exact h1.1

theorem grown_swap (w : World) (g a b c d e f : Nat) (u1 u2 u3 u4 u5 u6 : Value) :
    w.grownBy ((((((w.setCell ⟨g, a, none⟩ u1).setCell ⟨g, b, none⟩ u2).setCell ⟨g, c, none⟩ u3).setCell ⟨g, d, none⟩ u4).setCell ⟨g, e, none⟩ u5).setCell ⟨g, f, none⟩ u6) (some g) := by
  have s : ∀ (w : World) (a : Nat) (u : Value), w.grownBy (w.setCell ⟨g, a, none⟩ u) (some g) := fun w a u => ⟨rfl, rfl, rfl, by simp, fun k hk hne => Below.heap_setCell w ⟨g, a, none⟩ u k (fun e => hne (by rw [e]))⟩
  exact (((((s _ _ _).trans (s _ _ _)).trans (s _ _ _)).trans (s _ _ _)).trans (s _ _ _)).trans (s _ _ _)

theorem own_drew {w : World} {base e size n : Nat} {v : Value} {xs : List Value} (h : w.ownsRow base e size v n xs) : w.drew.ownsRow base e size v n xs := h
theorem grown_drew {w w' : World} {row : Option Nat} (h : w.grownBy w' row) : w.grownBy w'.drew row := ⟨h.os, h.tape, h.output, h.size, h.block⟩

set_option maxRecDepth 100000 in
theorem reverse_calls (base : Nat) (v : Value) (l : List St) (w : World) (h : w.ownsRow base 70 3 v l.length (flat l)) (hs : l.length ≤ 1000000) :
    Calls Tryd.prog 29 #[v] w fun e w' => e = .returned (.tuple #[]) ∧ w'.ownsRow base 70 3 v l.length (flat l.reverse) ∧ w.grownBy w' v.ownBlock := by
  obtain ⟨A, cap, hv, hg⟩ : ∃ A cap, v = .slice A l.length cap ∧ (0 < l.length → ∃ g, A = some ⟨g, 0, none⟩) := by
    rcases h.2 with ⟨rfl, h0⟩ | ⟨g, cap, cur, rfl, _⟩
    · exact ⟨none, 0, by rw [h0], fun hp => absurd hp (by omega)⟩
    · exact ⟨_, cap, rfl, fun _ => ⟨g, rfl⟩⟩
  subst hv
  have HS := Lib.hid hs
  go_enter Tryd.func29, Tryd.ntmps29
  go_wp2
  go_loopw [2, 3] (fun i j wr => ∃ (k : Nat) (m : List St), Turned l m k ∧ k ≤ l.length ∧ i = .int .i64 k ∧ j = .int .i64 ((l.length : Int) - 1 - k) ∧ wr.ownsRow base 70 3 (.slice A l.length cap) l.length (flat m) ∧ w.grownBy wr (Value.slice A l.length cap).ownBlock)
    (fun i _ _ => l.length - (intOf i).toNat)
  case atStart => exact ⟨0, l, Turned.start l, Nat.zero_le _, rfl, by simp, h, World.grownBy.refl _ _⟩
  case round =>
    obtain ⟨k, m, ht, hk, rfl, rfl, hown, hgr⟩ := hrel
    by_cases c : k + k + 1 < l.length
    · obtain ⟨g, rfl⟩ := hg (by omega)
      have hml := ht.1
      obtain ⟨j, hj⟩ : ∃ j : Nat, j = l.length - 1 - k := ⟨_, rfl⟩
      have hjc : (l.length : Int) - 1 - k = (j : Int) := by omega
      rw [hjc]
      have hkj : k < j := by omega
      have hjl : j < l.length := by omega
      have hkm : k < m.length := by omega
      have hjm : j < m.length := by omega
      have gi := flat_get m k hkm
      have gj := flat_get m j hjm
      have xi0 : wr.cell? ⟨g, k * 3, none⟩ = some (.int .i64 m[k].1) := (hown.cellAt (k * 3) (by omega)).trans gi.1
      have xi1 : wr.cell? ⟨g, k * 3 + 1, none⟩ = some (.int .i64 m[k].2.1) := (hown.cellAt (k * 3 + 1) (by omega)).trans gi.2.1
      have xi2 : wr.cell? ⟨g, k * 3 + 2, none⟩ = some (.bool m[k].2.2) := (hown.cellAt (k * 3 + 2) (by omega)).trans gi.2.2
      have xj0 : wr.cell? ⟨g, j * 3, none⟩ = some (.int .i64 m[j].1) := (hown.cellAt (j * 3) (by omega)).trans gj.1
      have xj1 : wr.cell? ⟨g, j * 3 + 1, none⟩ = some (.int .i64 m[j].2.1) := (hown.cellAt (j * 3 + 1) (by omega)).trans gj.2.1
      have xj2 : wr.cell? ⟨g, j * 3 + 2, none⟩ = some (.bool m[j].2.2) := (hown.cellAt (j * 3 + 2) (by omega)).trans gj.2.2
      have fz : ∀ p, wr.frozen? ⟨g, p, none⟩ = false := fun p => hown.frozenAt p
      have f1 := fz (k * 3)
      have f2 := fz (k * 3 + 1)
      have f3 := fz (k * 3 + 2)
      have f4 := fz (j * 3)
      have f5 := fz (j * 3 + 1)
      have f6 := fz (j * 3 + 2)
      clear fz gi gj
      have HD := Lib.hid hown
      have HT := Lib.hid ht
      have HG := Lib.hid hgr
      have HJ := Lib.hid hj
      have HML := Lib.hid hml
      have hs' := HS.out
      have b1 : (k : Int) < l.length := by omega
      have b2 : (j : Int) < l.length := by omega
      have b3 : (k : Int) < j := by omega
      have b4 : (j : Int) ≤ 1000000 := by omega
      obtain ⟨n1, n2, n3, n4, n5, n6, n7, n8, n9, m1, m2, m3, m4, m5, m6, m7, m8, m9⟩ := ne_facts hkj
      generalize hX : m[k] = X at *
      generalize hY : m[j] = Y at *
      have HX := Lib.hid hX
      have HY := Lib.hid hY
      clear hX hY hown ht hgr hj hml hjc hkj hs'
      go_wp2
      go_region
      go_wp2
      have ht := HT.out
      have hown := HD.out
      have hgr := HG.out
      go_roundw
      case rel =>
        clear xi0 xi1 xi2 xj0 xj1 xj2 f1 f2 f3 f4 f5 f6 n1 n2 n3 n4 n5 n6 n7 n8 n9 m1 m2 m3 m4 m5 m6 m7 m8 m9
        refine ⟨k + 1, (m.set k Y).set j X, ?_, by omega, by go_num, ?_, ?_, ?_⟩
        · have hY : m[j] = Y := HY.out
          have hX : m[k] = X := HX.out
          have st := ht.step c hkm (by have := HJ.out; omega)
          simp only [← HJ.out, hX, hY] at st
          exact st
        · have := HJ.out
          exact congrArg _ (by omega)
        · exact own_drew (owned_swap hown k j Y X hkm hjm)
        · exact grown_drew (hgr.trans (grown_swap _ _ _ _ _ _ _ _ _ _ _ _ _ _))
      case measure => simp [intOf]; omega
    · go_wp2
      go_end0
      exact ⟨rfl, (ht.done (by omega)) ▸ hown, hgr⟩
end Go.Proofs.YtkjjjkjgendnfaaDoorR
