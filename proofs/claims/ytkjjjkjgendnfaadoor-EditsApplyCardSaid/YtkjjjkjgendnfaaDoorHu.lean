/- edits.hunks: steps made into hunks. -/
import Derived.Test.YtkjjjkjgendnfaaDoorHuP
import Derived.Test.YtkjjjkjgendnfaaDoorCl
import Derived.Deep.DeepCutAuto
import Derived.Deep.QuietTactic
import Derived.BigQuiet
import Derived.Deep.AppendLies
import Derived.Deep.RegionLaw
namespace Go.Proofs.YtkjjjkjgendnfaaDoorR
open Go.RowKit Go.Proofs.YtkjjjkjgendnfaaDoorE Go.Proofs.YtkjjjkjgendnfaaDoorW.PrintWords

theorem infoHunk : (Tryd.prog.info? 26).map (fun i => (i.zero, i.size, i.bytes)) = some (some (.agg #[.int .i64 0, .int .i64 0, .slice none 0 0]), 3, 40) := by kernel_rfl

theorem stepsOk_iff {ahead : Int} {l : List St} {b : List ByteArray} : stepsOk ahead l b = true ↔ l.length ≤ 100000 ∧ 0 ≤ ahead ∧ ahead ≤ 1000000000000000 ∧ ∀ s ∈ l, 0 ≤ s.1 ∧ s.1 ≤ 1000000000000000 ∧ (s.2.2 = true → 0 ≤ s.2.1 ∧ s.2.1 < b.length) := by
  unfold stepsOk
  simp only [Bool.and_eq_true, decide_eq_true_eq, List.all_eq_true, Bool.or_eq_true, Bool.not_eq_true']
  constructor
  · rintro ⟨h1, h2, h3, h4⟩
    refine ⟨h1, h2, h3, fun s hs => ?_⟩
    obtain ⟨x1, x2, x3⟩ := h4 s hs
    refine ⟨x1, x2, fun e => ?_⟩
    rcases x3 with x3 | x3
    · rw [e] at x3; cases x3
    · exact x3
  · rintro ⟨h1, h2, h3, h4⟩
    refine ⟨h1, h2, h3, fun s hs => ?_⟩
    obtain ⟨x1, x2, x3⟩ := h4 s hs
    refine ⟨x1, x2, ?_⟩
    cases e : s.2.2 with
    | false => exact .inl rfl
    | true => exact .inr (x3 e)

set_option maxRecDepth 100000 in
set_option maxHeartbeats 1000000 in
theorem hunks_calls (A0 A1 : Option Addr) (c0 c1 : Nat) (l : List St) (ahead : Int) (b : List ByteArray) (w : World) (hl : ∀ (j : Nat) (s : St), l[j]? = some s → ∃ ad, A0 = some ad ∧ w.cell? (ad.add (j * 3)) = some (.int .i64 s.1) ∧ w.cell? ⟨(ad.add (j * 3)).block, (ad.add (j * 3)).off + 1, none⟩ = some (.int .i64 s.2.1) ∧ w.cell? ⟨(ad.add (j * 3)).block, (ad.add (j * 3)).off + 2, none⟩ = some (.bool s.2.2))
    (hr1 : Kd.C Kd.string w A1 b.length b) (hok : stepsOk ahead l b = true) :
    Calls Tryd.prog 19 #[.slice A0 l.length c0, .int .i64 ahead, .slice A1 b.length c1] w fun e w' => ∃ v' ps, e = .returned v' ∧ HRow w' w.heap.size v' (hunksL ahead l b) ps ∧ Below w.heap.size w w' := by
  obtain ⟨k0, k1, k2, k3⟩ := stepsOk_iff.1 hok
  have HL := Lib.hid hl
  have HR1 := Lib.hid hr1
  have K3 := Lib.hid k3
  clear hl hr1 k3 hok
  go_enter Tryd.func19, Tryd.ntmps19
  go_wp2
  go_loopw [7, 15] (fun v i wr => ∃ (k : Nat) (init : List Hk) (c : Option Hk) (ps : List Value), i = .int .i64 k ∧ k ≤ l.length ∧ Hid (hunksGo ahead b (l.drop k) init c = hunksL ahead l b) ∧ Hid (HRow wr w.heap.size v (init ++ c.toList) ps) ∧ Hid ((init ++ c.toList).length ≤ k) ∧ Hid ((∀ x ∈ c, 0 ≤ x.1 ∧ x.1 ≤ 2000000000000000 ∧ 0 ≤ x.2.1 ∧ x.2.1 ≤ k ∧ x.2.2.length ≤ k) ∧ (c = none → init = [])) ∧ Below w.heap.size w wr)
    (fun _ i _ => l.length - (intOf i).toNat)
  case atStart => exact ⟨0, [], none, [], rfl, Nat.zero_le _, Lib.hid rfl, Lib.hid (HRow.nil _ _), Lib.hid (Nat.le_refl _), Lib.hid ⟨fun x hx => by simp at hx, fun _ => rfl⟩, Below.refl _ _⟩
  case round =>
    obtain ⟨k, init, c, ps, rfl, hk, HG, HH, HI, HC, hbe⟩ := hrel
    obtain ⟨nn, hnn⟩ : ∃ nn, nn = (init ++ c.toList).length := ⟨_, rfl⟩
    obtain ⟨A7, c7, rfl⟩ : ∃ A c', u7 = .slice A nn c' := by rw [hnn]; exact own_slice HH.out.row
    have NN := Lib.hid hnn
    have hnk : (nn : Int) ≤ 100001 := by
      have := HI.out
      omega
    clear hnn
    by_cases hlt : k < l.length
    · obtain ⟨s, hs⟩ : ∃ s, l[k]? = some s := ⟨_, List.getElem?_eq_getElem hlt⟩
      obtain ⟨s1, s2, s3⟩ := K3.out s (List.mem_of_getElem? hs)
      obtain ⟨ad, eA, x0, x1, x2⟩ := HL.out k s hs
      obtain ⟨sx, sy, sp⟩ := s
      dsimp only at s1 s2 s3 x0 x1 x2
      cases eA
      replace x0 := (hbe.cell (World.block_lt_of_cell? w _ x0)).trans x0
      replace x1 := (hbe.cell (World.block_lt_of_cell? w _ x1)).trans x1
      replace x2 := (hbe.cell (World.block_lt_of_cell? w _ x2)).trans x2
      have HS := Lib.hid hs
      have S3 := Lib.hid s3
      have HBE := Lib.hid hbe
      clear hs s3 hbe
      have hik : (init.length : Int) ≤ 100000 := by have := HI.out; rw [List.length_append] at this; omega
      go_upto_region 7 with fail
      go_cut [43] (fun sv wx => sv = .bool (needH (ahead + sx) c) ∧ ∃ q, wx = (wr.alloc (.cells #[.int .i64 sx, .int .i64 sy, .bool sp] 70)).drewN q)
      case first =>
        cases c with
        | none =>
          obtain rfl : init = [] := HC.out.2 rfl
          obtain rfl : nn = 0 := NN.out
          go_quiet (fail)
          go_wp2
          go_meet
          exact ⟨rfl, _, rfl⟩
        | some c =>
          obtain ⟨y0, y1, y2, y3, y4⟩ := HC.out.1 c rfl
          obtain rfl : nn = init.length + 1 := by rw [NN.out]; simp
          obtain ⟨ips, p, rfl⟩ := HH.out.parts
          obtain ⟨g, cap, hv, hg0, hg1, z0, z1, z2, zf⟩ := HH.out.last
          obtain rfl : A7 = some ⟨g, 0, none⟩ := by injection hv
          have hw1 : IntKind.i64.wrap ((init.length : Int) + 1 - 1) = init.length := by rw [IntWalk.i64_in _ (by omega)]; omega
          have hw2 : IntKind.i64.wrap (c.1 + c.2.1) = c.1 + c.2.1 := IntWalk.i64_in _ (by omega)
          have hw3 : ((init.length : Int) + 1 == 0) = false := by simp; omega
          have hw4 : (init.length : Int) < (init.length : Int) + 1 := by omega
          clear hv zf
          go_quiet (fail)
          go_wp2
          go_meet
          exact ⟨rfl, _, rfl⟩
      case rest =>
        obtain ⟨rfl, q, rfl⟩ := hcut
        have hb0 := HBE.out.size
        have HH2 := Lib.hid ((HH.out.alloc (.cells #[.int .i64 sx, .int .i64 sy, .bool sp] 70)).drewN q)
        have HB2 := Lib.hid (pw_below_drewN (below_alloc HBE.out (.cells #[.int .i64 sx, .int .i64 sy, .bool sp] 70)) q)
        have hbx : ((wr.alloc (.cells #[.int .i64 sx, .int .i64 sy, .bool sp] 70)).drewN q).heap[wr.heap.size]? = some (.cells #[.int .i64 sx, .int .i64 sy, .bool sp] 70 (0, 0)) := by
          show (wr.alloc _).heap[wr.heap.size]? = _
          exact heap_alloc_new wr _
        generalize ((wr.alloc (.cells #[.int .i64 sx, .int .i64 sy, .bool sp] 70)).drewN q) = w2 at *
        generalize wr.heap.size = bx at *
        have HBX := Lib.hid hbx
        clear hbx HH HBE
        generalize hnd : needH (ahead + sx) c = nd at *
        have ND := Lib.hid hnd
        clear hnd
        go_upto_if 43 with fail
        go_cut [7] (fun sv wx => ∃ (init' : List Hk) (c' : Hk) (ips : List Value) (p : Value), Hid (openH (ahead + sx) init c = (init', c')) ∧ Hid (HRow wx w.heap.size sv (init' ++ [c']) (ips ++ [p])) ∧ Hid (Below w.heap.size w wx) ∧ Hid (wx.heap[bx]? = some (.cells #[.int .i64 sx, .int .i64 sy, .bool sp] 70 (0, 0))) ∧ Hid (init'.length ≤ k) ∧ Hid (0 ≤ c'.1 ∧ c'.1 ≤ 2000000000000000 ∧ 0 ≤ c'.2.1 ∧ c'.2.1 ≤ k ∧ c'.2.2.length ≤ k))
        case first =>
          cases nd with
          | false =>
            obtain ⟨c0', rfl, ho⟩ := open_false (init := init) ND.out
            obtain ⟨ips, p, rfl⟩ := HH2.out.parts
            have bd := HC.out.1 _ rfl
            go_wp2
            go_meet
            exact ⟨init, c0', ips, p, Lib.hid ho, HH2, HB2, HBX, Lib.hid (by have := HI.out; simp at this; omega), Lib.hid bd⟩
          | true =>
            have ho := open_true (init := init) ND.out
            have hrow := HH2.out.row
            have hbe2 := HB2.out
            go_wp2_with (first | (at_builtin; refine print_append_cells (w0 := w) w.heap.size rfl (.tmp 44) (.tmp 47) 23 26 _ 3 40 rfl Tryd.underlying23 infoHunk rfl (by decide) (by decide) _ (init ++ c.toList).length (hflat (init ++ c.toList) ps) [.int .i64 (ahead + sx), .int .i64 0, .slice none 0 0] rfl rfl rfl (by simp [Value.oneCell']) hrow hbe2 hbe2.size (by have := NN.out; omega) ?_; intro v1 w3 hown3 hbe3 hg3 hat3) | fail)
            have far : some bx ≠ (Value.slice A7 nn c7).ownBlock := by
              intro e
              rcases hrow.2 with ⟨e', _⟩ | ⟨g, cap, cur, e', _, hh, _⟩
              · rw [e'] at e; cases e
              · rw [e'] at e
                injection e with e
                subst e
                have h1 := HBX.out
                rw [h1] at hh
                injection hh with hh
                injection hh with _ hh
                exact absurd hh (by decide)
            go_meet
            refine ⟨init ++ c.toList, (ahead + sx, 0, []), ps, .slice none 0 0, Lib.hid ho, Lib.hid (HH2.out.push (ahead + sx) hg3 hown3), Lib.hid hbe3, Lib.hid ?_, HI, Lib.hid ⟨by omega, by omega, Int.le_refl _, (show (0 : Int) ≤ (k : Int) by omega), by simp⟩⟩
            rw [hg3.block bx ?_ far]
            · exact HBX.out
            · exact (Array.getElem?_eq_some_iff.1 HBX.out).1
        case rest =>
          obtain ⟨init', c', ips, p, HO, HH3, HB3, HBX3, HI3, HC3⟩ := hcut
          obtain ⟨g, cap, hv, hg0, hg1, z0, z1, z2, zf⟩ := HH3.out.last
          obtain ⟨v0, v1, v2, v3, v4⟩ := HC3.out
          have hi3 : (init'.length : Int) ≤ 100000 := by have := HI3.out; omega
          have bx0 : wc.cell? ⟨bx, 0, none⟩ = some (.int .i64 sx) := by rw [cell_of_row wc bx 0 _ _ _ HBX3.out]; rfl
          have bx1 : wc.cell? ⟨bx, 1, none⟩ = some (.int .i64 sy) := by rw [cell_of_row wc bx 1 _ _ _ HBX3.out]; rfl
          have bx2 : wc.cell? ⟨bx, 2, none⟩ = some (.bool sp) := by rw [cell_of_row wc bx 2 _ _ _ HBX3.out]; rfl
          have zf1 := zf (init'.length * 3 + 1)
          have zf2 := zf (init'.length * 3 + 2)
          clear zf
          rw [hv]
          have HV := Lib.hid hv
          clear hv
          have HZ := Lib.hid z2
          cases sp with
          | false =>
            clear z2
            go_wp2
            go_roundw
            case rel =>
              refine ⟨k + 1, init', some (c'.1, c'.2.1 + 1, c'.2.2), ips ++ [p], rfl, by omega, Lib.hid ?_, Lib.hid ?_, Lib.hid ?_, Lib.hid ⟨?_, by simp⟩, ?_⟩
              · rw [← HG.out, hunksGo_step HS.out HO.out]
                rfl
              · have hc := HH3.out.cut HV.out (c'.2.1 + 1)
                rw [HV.out] at hc
                exact hc
              · have := HI3.out; simp; omega
              · intro x hx
                obtain rfl : (c'.1, c'.2.1 + 1, c'.2.2) = x := by simpa using hx
                refine ⟨v0, v1, ?_, ?_, ?_⟩
                · show (0 : Int) ≤ c'.2.1 + 1; omega
                · show c'.2.1 + 1 ≤ ((k + 1 : Nat) : Int); omega
                · show c'.2.2.length ≤ k + 1; omega
              · exact below_set HB3.out hg0
            case measure => simp [intOf]; omega
          | true =>
            obtain ⟨y1, y2⟩ := S3.out rfl
            obtain ⟨ad1, e1, hc1'⟩ := Kd.at_string HR1.out sy y1 y2
            cases e1
            replace hc1' := (HB3.out.cell (World.block_lt_of_cell? w _ hc1')).trans hc1'
            obtain ⟨i0, hi, hz0, hz1, hz2⟩ := info_parts infoStr
            have hpu := HH3.out.puts init'.length c' p (by simp) (by have := HH3.out.len; simp at this; rw [← this]; simp)
            have HP := Lib.hid hpu
            have FAR : Hid (some g ≠ p.ownBlock) := Lib.hid (by
              rcases HH3.out.put_far (i := init'.length) (x := c') (q := p) (by simp) (by have := HH3.out.len; simp at this; rw [← this]; simp) with e | e
              · rw [e]; simp
              · intro e'
                exact e (by rw [← e', HV.out]; rfl))
            have hwz := HB3.out.size
            clear hpu
            go_wp2
            go_region_law (refine step_append_lies _ rfl (.tmp 60) (.tmp 66) 22 rfl w.heap.size 9 i0 (.string ⟨#[]⟩) 1 16 Tryd.underlying22 hi hz0 hz1 hz2 rfl (by decide) p c'.2.2.length (lines c'.2.2) (by simp [Act.eval]) (own_drew (HP.out.alloc _)) ⟨wc.heap.size, 0, none⟩ 1 1 [.string (rdOf ByteArray.empty b sy)] (by simp [Act.eval]) rfl (cell_one_new _ _ _) (by simp [Value.oneCell']) (by decide) (by unfold maxLen; omega) (by omega) (by simp; omega) _ rfl ?_; intro gq capq w4 hown4 hg4 hat4 hlt4; have zq := (far_cell hg4 hg1 FAR.out (init'.length * 3 + 2)).1.trans HZ.out; have fq := (far_cell hg4 hg1 FAR.out (init'.length * 3 + 2)).2.trans zf2)
            all_goals
              go_wp2
              have had := HH3.out.add HV.out (q := .slice (some ⟨gq, 0, none⟩) (c'.2.2.length + 1) capq) (grown_alloc_drew hg4) hown4 (by
                rcases hat4 with e | e
                · exact .inl e.symm
                · exact .inr ⟨gq, rfl, by rw [e]; show wc.heap.size ≤ (wc.alloc _).heap.size; simp⟩)
              have hbe4 : Below w.heap.size w w4 := HB3.out.grown (grown_alloc_drew hg4) HB3.out.size (fun r hr => (HP.out.lt r hr).1)
              rw [HV.out] at had
              go_roundw
              case rel =>
                refine ⟨k + 1, init', some (c'.1, c'.2.1, c'.2.2 ++ [rdOf ByteArray.empty b sy]), ips ++ [.slice (some ⟨gq, 0, none⟩) (c'.2.2.length + 1) capq], rfl, by omega, Lib.hid ?_, Lib.hid ?_, Lib.hid ?_, Lib.hid ⟨?_, by simp⟩, ?_⟩
                · rw [← HG.out, hunksGo_step HS.out HO.out]
                  rfl
                · exact had
                · have := HI3.out; simp; omega
                · intro x hx
                  obtain rfl : (c'.1, c'.2.1, c'.2.2 ++ [rdOf ByteArray.empty b sy]) = x := by simpa using hx
                  refine ⟨v0, v1, v2, ?_, ?_⟩
                  · show c'.2.1 ≤ ((k + 1 : Nat) : Int); omega
                  · show (c'.2.2 ++ [_]).length ≤ k + 1; simp; omega
                · exact below_set hbe4 hg0
              case measure => simp [intOf]; omega
    · go_wp2
      go_ret
      have he : l.drop k = [] := List.drop_eq_nil_of_le (by omega)
      have hg := HG.out
      rw [he] at hg
      refine ⟨_, ps, rfl, ?_, hbe⟩
      rw [← hg]
      exact HH.out
#print axioms hunks_calls
end Go.Proofs.YtkjjjkjgendnfaaDoorR
