/- Forms: String of a writer's Builder, and terms.Write. -/
import Derived.Test.YtehghdmfdinpjaaDoorFP
import Derived.Shelf.RegionOpenPlain
import Derived.Lib.UnsafeStr
namespace Go.Proofs.YtehghdmfdinpjaaDoorF
open Go.RowKit Go.Proofs Go.Proofs.YtehghdmfdinpjaaDoorW.PrintWords Go.Proofs.YtehghdmfdinpjaaDoorW.PrintLast
open Go.Proofs.YtehghdmfdinpjaaDoor.PAll (S24 k24)

set_option maxHeartbeats 1000000 in
set_option maxRecDepth 100000 in
theorem string_calls {w : World} {B g : Nat} {l : List UInt8} {er : Value} {dp : Bool} (h : Wr w B g l er dp) (h0 : l ≠ []) :
    Calls Tryd.prog 26 #[.pointer (some ⟨g, 0, none⟩)] w fun e w' => e = .returned (.string ⟨l.toArray⟩) ∧ Below B w w' := by
  obtain ⟨p, h⟩ := h.at
  have hB := h.base
  obtain ⟨v, hbk, hown, hne⟩ := h.row
  have hl0 : l.length ≠ 0 := by simpa using h0
  obtain ⟨q, cap, cur, rfl, hbg, hg, hnc, hcm, hcs, htake⟩ : ∃ q cap cur, v = .slice (some ⟨q, 0, none⟩) l.length cap ∧ B ≤ q ∧ w.heap[q]? = some (.cells cur 5 (0, 0)) ∧ l.length ≤ cap ∧ cap ≤ maxLen ∧ cur.size = cap * 1 ∧ cur.toList.take (l.length * 1) = Lib.byteCells l := by
    rcases hown.2 with ⟨_, hz⟩ | ⟨g, cap, cur, hv, r⟩
    · exact absurd hz hl0
    · exact ⟨g, cap, cur, hv, r⟩
  have c1 : w.drew.cell? ⟨g, 1, none⟩ = some (.slice (some ⟨q, 0, none⟩) l.length cap) := by
    have : w.drew.heap[g]? = some (.cells #[p, .slice (some ⟨q, 0, none⟩) l.length cap, er, .bool dp] 58 (0, 0)) := hbk
    rw [Lib.cell_of_heap this]; rfl
  have hSD : (Builtin.unsafeSliceData_ #[54] 78 #[.slice (some ⟨q, 0, none⟩) l.length cap]).run Tryd.prog w.drew = .ok (.pointer (some ⟨q, 0, none⟩)) w.drew :=
    Lib.run_unsafeSliceData_row _ _ _ _ _ _ (by omega)
  have hUS : (Builtin.unsafeString_ #[78, 3] 9 #[.pointer (some ⟨q, 0, none⟩), .int .i64 l.length]).run Tryd.prog w.drew = .ok (.string ⟨l.toArray⟩) (w.drew.freeze ⟨q, 0, none⟩ l.length) := by
    refine Lib.run_unsafeString_row w.drew 78 3 9 5 Tryd.underlying78 cellsByte q cur.size (by have hg' : w.drew.heap[q]? = some (.cells cur 5 (0, 0)) := hg; simp [World.shape?, hg']) l h0 (by omega) (by unfold maxLen at hcm; omega) ?_
    intro j x hx
    have := hown.cells (g := q) rfl j (.int .u8 x.toNat) (by simp [Lib.byteCells, hx])
    exact this
  clear h
  go_enter Tryd.func26, Tryd.ntmps26
  go_wp2
  go_region
  all_goals (go_wp2; go_ret; exact ⟨rfl, Lib.below_freeze (Below.drew (Below.refl B w)) (p := ⟨q, 0, none⟩) hbg _⟩)
theorem fresh_writer {w : World} {B g : Nat} (h : w.heap[g]? = some (.cells #[.pointer none, .slice none 0 0, .nilIface, .bool false] 58 (0, 0))) (hB : B ≤ g) : WsAt w B g ⟨[], false, false⟩ :=
  .inl ⟨hB, _, h, ⟨by simp [Lib.byteCells], .inl ⟨rfl, rfl⟩⟩, by simp [Value.ownBlock]⟩
theorem putF_some (x : S24) : (putF x 0 ⟨[], false, false⟩).er = false → (putF x 0 ⟨[], false, false⟩).bs ≠ [] := by
  obtain ⟨l, t, is⟩ := x
  by_cases hb : ((l && !t.toList.isEmpty) || (!l && decide (0 < is.length))) = true
  · rw [putF_bad hb]
    intro h
    cases h
  · have hq : ((l && !t.toList.isEmpty) || (!l && decide (0 < is.length))) = false := by simpa using hb
    intro _
    cases l with
    | false =>
      have his : is = [] := List.length_eq_zero_iff.1 (by simpa using hq)
      subst his
      rw [putF_text]
      simp [bigF, numT]
    | true =>
      obtain rfl : t = ⟨#[]⟩ := toList_empty (by simpa using hq)
      rw [putF_list]
      simp [bigF, mid4]
/-- What Write gives. -/
def writeF (x : S24) : ByteArray × Option Int :=
  let s := putF x 0 ⟨[], false, false⟩
  if s.er then (⟨#[]⟩, some 1) else if s.dp || decide (65536 < s.bs.length) then (⟨#[]⟩, some 2) else (⟨s.bs.toArray⟩, none)
def errV (o : Option Int) : Value := match o with | none => .nilIface | some c => .iface 61 (.int .i64 c)
set_option maxHeartbeats 4000000 in
set_option maxRecDepth 100000 in
theorem write_calls {w : World} (HT : TabAt w) (x : S24) (A : Option Addr) (c : Nat) (hC : k24.C w A x.f2.length x.f2) (hc : x.f2.length ≤ c) (hwt : wt x ≤ 100000000000) :
    Calls Tryd.prog 10 #[.agg #[.bool x.f0, .string x.f1, .slice A x.f2.length c]] w fun e w' => e = .returned (.tuple #[.string (writeF x).1, errV (writeF x).2]) ∧ Below w.heap.size w w' := by
  obtain ⟨s, hs⟩ : ∃ s, s = putF x 0 ⟨[], false, false⟩ := ⟨_, rfl⟩
  have hne := putF_some x
  rw [← hs] at hne
  obtain ⟨R, hR⟩ : ∃ R, R = writeF x := ⟨_, rfl⟩
  rw [← hR]
  have hR2 : R = if s.er then (⟨#[]⟩, some 1) else if s.dp || decide (65536 < s.bs.length) then (⟨#[]⟩, some 2) else (⟨s.bs.toArray⟩, none) := by rw [hR, writeF, hs]
  have HR := Lib.hid hR2
  have HS := Lib.hid hs
  have HNE := Lib.hid hne
  have HC := Lib.hid hC
  have H0 := Lib.hid HT
  have HB0 := Lib.hid (Below.refl w.heap.size w)
  clear hs hne hR hR2 hC HT
  go_enter Tryd.func10, Tryd.ntmps10
  go_upto_region 2 with (first | ((with_reducible refine gate_dst (N := 1) rfl ?_); refine box_event ?hg (N := 1) ?hd (cs := #[.bool x.f0, .string x.f1, .slice A x.f2.length c]) (t := 24) ?hr ?_; (case hd => rfl); (case hg => rfl); (case hr => first | (go_simp; done) | (go_simp; rfl)); intro gb hg wb hbox hb2; have HB1 := Lib.hid hb2; have BX := Lib.hid hbox; clear hb2 hbox hg) | ((with_reducible refine gate_dst (N := 6) rfl ?_); refine box_event ?hg (N := 6) ?hd (cs := #[.pointer none, .slice none 0 0, .nilIface, .bool false]) (t := 58) ?hr ?_; (case hd => rfl); (case hg => rfl); (case hr => first | (go_simp; done) | (go_simp; rfl)); intro g hg wd hbox hb2; have HB2 := Lib.hid (HB1.out.trans (hb2.mono HB1.out.size)); have BX2 := Lib.hid (blk_below BX.out hb2); have HWR := Lib.hid (fresh_writer (B := w.heap.size) hbox (by rw [hg]; exact HB1.out.size)); clear hb2 hbox hg))
  have b0 := (blk_cell BX2.out 0).trans rfl
  have b1 := (blk_cell BX2.out 1).trans rfl
  have b2 := (blk_cell BX2.out 2).trans rfl
  have HP := put_calls H0.out (wt x) x (Nat.le_refl _) wd ⟨[], false, false⟩ A c 0 HWR.out HB2.out HC.out hc (by show 0 + wt x ≤ _; omega) (by omega)
  rw [← HS.out, show ((0 : Nat) : Int) = 0 from rfl] at HP
  have HPP := Lib.hid HP
  clear HP
  go_upto_region 3 with (first | (go_at_call 24; refine HPP.out.mono ?_; rintro e w5 ⟨rfl, hs5, hb5⟩))
  obtain ⟨p, hp⟩ := hs5.at
  have z2 := hp.cells.2.2.1
  have z3 := hp.cells.2.2.2
  have y2 : w5.drew.cell? ⟨g, 2, none⟩ = some (erV s.er) := z2
  have HW5 := Lib.hid hs5
  have HB5 := Lib.hid hb5
  clear hp hs5 hb5 b0 b1 b2 HPP BX BX2 HWR HB2 HB1
  obtain ⟨bs, er, dp⟩ := s
  simp only at *
  cases er with
  | true =>
    simp only [erV] at z2 y2
    go_wp2_with fail
    go_region
    all_goals
      go_wp2
      go_ret2
      refine ⟨?_, by first | exact HB5.out | exact Below.drew HB5.out⟩
      rw [HR.out]
      rfl
  | false =>
    simp only [erV] at z2 y2
    have hbs := HNE.out rfl
    cases dp with
    | true =>
      go_wp2_with fail
      go_ret2
      refine ⟨?_, HB5.out⟩
      rw [HR.out]
      rfl
    | false =>
      by_cases hl : 65536 < bs.length
      · have h1 : decide ((bs.length : Int) > 65536) = true := decide_eq_true (by omega)
        go_wp2_with (first | (go_at_call 25; refine (len_calls HW5.out).mono ?_; rintro e w1 ⟨rfl, rfl⟩))
        go_ret2
        refine ⟨?_, HB5.out⟩
        rw [HR.out, decide_eq_true hl]
        rfl
      · have h1 : decide ((bs.length : Int) > 65536) = false := decide_eq_false (by omega)
        go_wp2_with (first | (go_at_call 25; refine (len_calls HW5.out).mono ?_; rintro e w1 ⟨rfl, rfl⟩) | (go_at_call 26; refine (string_calls HW5.out hbs).mono ?_; rintro e w6 ⟨rfl, hb6⟩))
        go_ret2
        refine ⟨?_, HB5.out.trans hb6⟩
        rw [HR.out, decide_eq_false hl]
        rfl
#print axioms write_calls
end Go.Proofs.YtehghdmfdinpjaaDoorF
