/- SectorRuns walked. (Printed by mkSG.py.) -/
import Derived.Test.YtpdnfaggdheneaaDoorSH
import Derived.Test.YtpdnfaggdheneaaDoorSX
import Derived.Deep.CutBlock
namespace Go.Proofs.YtpdnfaggdheneaaDoorS
open Go.RowKit Go.Maps Go.Proofs Go.Proofs.YtpdnfaggdheneaaDoorW.PrintWords Go.Proofs.YtpdnfaggdheneaaDoorW.PrintLast Go.Proofs.YtpdnfaggdheneaaDoorC


set_option maxRecDepth 100000 in
set_option maxHeartbeats 8000000 in
theorem runs_calls {w : World} {A : Option Addr} {c : Nat} (n : Int) (acts : List ActR) (hG : HasEt w) (hA : ActsAt w A acts) (hc : acts.length ≤ c) (n0 : -9223372036854775808 ≤ n) (n1 : n < 9223372036854775808) :
    Calls Tryd.prog 4 #[.int .i64 n, .slice A acts.length c] w fun e w' => e = .returned (.bool true) ∧ Below w.heap.size w w' := by
  have HGE := Lib.hid hG
  have HA := Lib.hid hA
  clear hA hG
  by_cases hn : 1 ≤ n ∧ n ≤ 4096
  · obtain ⟨n2, n3⟩ := hn
    obtain ⟨N, rfl⟩ := Int.eq_ofNat_of_zero_le (show 0 ≤ n by omega)
    go_enter Tryd.func4, Tryd.ntmps4
    go_wp2_with fail
    refine (awake_calls _).mono ?_
    rintro e w1 ⟨rfl, h1⟩
    have H1 := Lib.hid h1
    have GE1 := Lib.hid (HGE.out.below h1); clear h1
    go_wp2_with fail
    refine (a_new (N : Int) _ n2 n3).mono ?_
    rintro e w2 ⟨rfl, h2⟩
    obtain ⟨D, hD⟩ : ∃ D, D = w1.heap.size + 1 := ⟨_, rfl⟩
    obtain ⟨S, hS⟩ : ∃ S, S = w1.heap.size := ⟨_, rfl⟩
    have H2 := Lib.hid (show Aft w1 S D S (fun k => k < w1.heap.size) (newD N) w2 by rw [hD, hS]; exact h2); clear h2
    rw [← hD]
    clear hD hS
    go_wp2_with fail
    refine (q_new (N : Int) _ n2 n3).mono ?_
    rintro e w3 ⟨rfl, h3⟩
    obtain ⟨DR, hD⟩ : ∃ DR, DR = w2.heap.size + 1 := ⟨_, rfl⟩
    obtain ⟨BM, hS⟩ : ∃ BM, BM = w2.heap.size := ⟨_, rfl⟩
    have H3 := Lib.hid (show RAft w2 BM DR BM (fun k => k < w2.heap.size) (newD N) 0 w3 by rw [hD, hS]; exact h3); clear h3
    rw [← hD]
    clear hD hS
    have BB := Lib.hid (Both.start (H2.out.disk.sub (fun k hk => Nat.lt_of_lt_of_le hk H1.out.size)) H3.out (Nat.le_trans H1.out.size H2.out.keep.size))
    have KK := Lib.hid (show Keep w w3 (fun k => k < w.heap.size) from ((Keep.of_below H1.out (Nat.le_refl _)).trans (H2.out.keep.mono (fun k _ hl => Nat.lt_of_lt_of_le hl H1.out.size))).trans (H3.out.keep.mono (fun k _ hl => Nat.lt_of_lt_of_le hl (Nat.le_trans H1.out.size H2.out.keep.size))))
    go_wp2_with fail
    refine (code_any 0 _ (et_keep HGE.out KK.out (et_lt HGE.out))).mono ?_
    rintro e w4 ⟨rfl, h4⟩
    have B4 := Lib.hid (BB.out.more (base' := fun k => k < w.heap.size) (Keep.of_below h4 (Nat.le_refl _)) (fun _ h => .inl h))
    have K4 := Lib.hid (KK.out.trans (Keep.of_below (ok := fun k => k < w.heap.size) h4 (Nat.le_refl _)))
    clear h4 BB KK H1 H2 H3 GE1
    go_wp2_with fail
    go_loopw [91] (fun v wr => ∃ (j : Nat) (d : Dsk), v = .int .i64 j ∧ j ≤ acts.length ∧ j ≤ 100 ∧ Hid (Both wr S D S BM DR BM (fun k => k < w.heap.size) d d j) ∧ Hid (Keep w wr (fun k => k < w.heap.size)) ∧ Hid (d.sure.length = N ∧ d.wait.length ≤ j))
      (fun v _ => acts.length - (intOf v).toNat)
    case atStart => exact ⟨0, newD N, rfl, by omega, by omega, B4, K4, Lib.hid ⟨by simp [newD], by simp [newD]⟩⟩
    case round =>
      clear B4 K4
      obtain ⟨j, d, rfl, hj, hj100, BB, KK, LL⟩ := hrel
      have hlen := HA.out.1
      by_cases hjj : j < acts.length ∧ j ≠ 100
      · obtain ⟨hj1, hj2⟩ := hjj
        have dj : decide ((j : Int) < (acts.length : Int)) = true := decide_eq_true (by omega)
        have d100 : ((j : Int) == 100) = false := by rw [beq_eq_false_iff_ne]; omega
        obtain ⟨ad, rfl, hcs⟩ := HA.out.2.2 j hj1
        obtain ⟨x, hx⟩ : ∃ x, x = acts.getD j ⟨0, 0, ByteArray.empty, none, 0, []⟩ := ⟨_, rfl⟩
        have hxm : ActAt w x := HA.out.2.1 x (by rw [hx, List.getD_eq_getElem?_getD, List.getElem?_eq_getElem hj1]; exact List.getElem_mem _)
        rw [← hx] at hcs
        obtain ⟨what, pos, text, KA, kc, keep⟩ := x
        have hcs' : ∀ q v, (actC ⟨what, pos, text, KA, kc, keep⟩)[q]? = some v → wr.cell? ((ad.add (j * 4)).add q) = some v := fun q v hv => KK.out.cell (hcs q v hv) (World.block_lt_of_cell? w _ (hcs q v hv))
        have HCS := Lib.hid hcs'
        have XM := Lib.hid hxm
        obtain ⟨Z, hZ⟩ : ∃ Z : Array Value, Z = #[.int .i64 0, .int .i64 0, .string ⟨#[]⟩, .slice none 0 0] := ⟨_, rfl⟩
        have hzz : ∀ W : World, (zeroValue 43).run Tryd.prog W = .ok (.agg Z) W := by rw [hZ]; exact (zero_of_info infoAct).1
        have HZZ := Lib.hid hzz
        have HZS := Lib.hid (show Z.size = 4 by rw [hZ]; rfl)
        clear hcs hcs' hx hxm hZ hzz
        go_upto_region 15 with (first | ((with_reducible refine gate_dst (N := 95) rfl ?_); refine wpList_load_any rfl 43 (.tmp 94) rfl (ad.add (j * 4)) rfl (actC ⟨what, pos, text, KA, kc, keep⟩) _ HCS.out Tryd.underlying43 rfl ((zero_of_info infoAct).2) ?_) | ((with_reducible refine gate_dst (N := 12) rfl ?_); refine box_event ?hg (N := 12) ?hd (cs := Z) (t := 43) ?hr ?_; (case hd => rfl); (case hg => rfl); (case hr => have hyz := HZZ.out; first | (go_simp; done) | (go_simp; rfl)); intro gb hg w22 hbox hb; have HBX := Lib.hid hbox; have HB := Lib.hid hb; have HG := Lib.hid hg; clear hbox hb hg) | ((with_reducible refine gate_store (t := 43) (p := 12) rfl ?_); refine store_whole rfl 43 (.tmp 12) (.tmp 95) rfl gb (actC ⟨what, pos, text, KA, kc, keep⟩).toArray rfl rfl 43 Z HBX.out ((zero_of_info infoAct).2) HZS.out (actC_one _) ?_; intro w23 hw23 hk23; have HW := Lib.hid hw23; have HK := Lib.hid ((Keep.of_below (ok := fun k => k < wr.heap.size) HB.out (Nat.le_refl _)).trans (hk23.mono (fun k _ h => by rw [HG.out]; omega))); clear hw23 hk23))
        have c0 : w23.cell? ⟨gb, 0, none⟩ = some (.int .i64 what) := (cell_of_row w23 gb 0 _ _ (0, 0) HW.out).trans rfl
        have BB1 := Lib.hid (BB.out.more (w' := w23) (base' := fun k => k < w.heap.size ∨ k = gb) HK.out (fun k hk => by
          rcases hk with hk | rfl
          · exact .inl hk
          · exact .inr ⟨by rw [HG.out]; exact Nat.le_refl _, (Array.getElem?_eq_some_iff.1 HW.out).1⟩))
        have p0 := XM.out.w0
        have p1 := XM.out.w1
        go_upto_block 2 with fail
        go_cut [13, 14] (fun e r wx => ∃ (d' : Dsk) (cd : Nat), e = errV cd ∧ r = .int .i64 (cd : Int) ∧ Hid (Both wx S D S BM DR BM (fun k => k < w.heap.size ∨ k = gb) d' d' (j + 1)) ∧ Hid (Keep w23 wx (fun k => k < w.heap.size ∨ k = gb)) ∧ Hid (d'.sure.length = N ∧ d'.wait.length ≤ j + 1))
        case first =>
          obtain ⟨okD, hD, hbD, hnD⟩ := BB1.out.disk
          have HD := Lib.hid hD
          have HND := Lib.hid hnD
          have HBD := Lib.hid hbD
          have hl1 := LL.out.2
          clear hD hnD hbD
          have c1 : w23.cell? ⟨gb, 1, none⟩ = some (.int .i64 pos) := (cell_of_row w23 gb 1 _ _ (0, 0) HW.out).trans rfl
          have c2 : w23.cell? ⟨gb, 2, none⟩ = some (.string text) := (cell_of_row w23 gb 2 _ _ (0, 0) HW.out).trans rfl
          have c3 : w23.cell? ⟨gb, 3, none⟩ = some (.slice KA keep.length kc) := (cell_of_row w23 gb 3 _ _ (0, 0) HW.out).trans rfl
          have cells : ∀ wx, Keep w23 wx (fun k => k < w.heap.size ∨ k = gb) → wx.cell? ⟨gb, 1, none⟩ = some (.int .i64 pos) ∧ wx.cell? ⟨gb, 2, none⟩ = some (.string text) ∧ wx.cell? ⟨gb, 3, none⟩ = some (.slice KA keep.length kc) := fun wx hk => by
            have := hk.heap HW.out (.inr rfl)
            exact ⟨(cell_of_row wx gb 1 _ _ (0, 0) this).trans rfl, (cell_of_row wx gb 2 _ _ (0, 0) this).trans rfl, (cell_of_row wx gb 3 _ _ (0, 0) this).trans rfl⟩
          have CELLS := Lib.hid cells
          clear cells
          by_cases e0 : what = 0
          · subst e0
            go_wp2_with fail
            refine (b_write pos text HD.out (by omega)).mono ?_
            rintro e w24 ⟨rfl, h24⟩
            obtain ⟨b2, k2⟩ := HND.out _ _ h24
            obtain ⟨okR, hR, hbR, hnR⟩ := b2.ref
            obtain ⟨g1, g2, g3⟩ := CELLS.out _ k2
            have K2 := Lib.hid k2
            have HR := Lib.hid hR
            have HNR := Lib.hid hnR
            clear h24 b2 k2 hR hbR hnR c0 c1 c2 c3
            go_wp2_with fail
            refine (p_write pos text HR.out (by omega)).mono ?_
            rintro e w25 ⟨rfl, h25⟩
            obtain ⟨b3, k3⟩ := HNR.out _ _ _ h25
            have B3 := Lib.hid b3
            have K3 := Lib.hid (K2.out.trans k3)
            have LW := Lib.hid (wrt_len d pos text)
            clear h25 b3 k3 g1 g2 g3
            go_wp2
            go_meet
            exact ⟨_, _, rfl, rfl, B3, K3, Lib.hid ⟨by rw [LW.out.1]; exact LL.out.1, by have := LW.out.2; have := LL.out.2; omega⟩⟩
          · by_cases e1 : what = 1
            · subst e1
              clear e0
              go_wp2_with fail
              refine (b_flush HD.out).mono ?_
              rintro e w24 ⟨rfl, h24⟩
              obtain ⟨b2, k2⟩ := HND.out _ _ h24
              obtain ⟨okR, hR, hbR, hnR⟩ := b2.ref
              have K2 := Lib.hid k2
              have HR := Lib.hid hR
              have HNR := Lib.hid hnR
              clear h24 b2 k2 hR hbR hnR c0 c1 c2 c3
              go_wp2_with fail
              refine (p_flush HR.out (by omega)).mono ?_
              rintro e w25 ⟨rfl, h25⟩
              obtain ⟨b3, k3⟩ := HNR.out _ _ _ (h25.mono (Nat.le_succ j))
              have B3 := Lib.hid b3
              have K3 := Lib.hid (K2.out.trans k3)
              have LW := Lib.hid (fls_len d)
              clear h25 b3 k3
              go_wp2
              go_meet
              exact ⟨_, _, rfl, rfl, B3, K3, Lib.hid ⟨by rw [LW.out.1]; exact LL.out.1, by have := LW.out.2; have := LL.out.2; omega⟩⟩
            · by_cases e2 : what = 2
              · subst e2
                clear e0 e1
                go_wp2_with fail
                refine (a_fuel pos HD.out (by omega)).mono ?_
                rintro e w24 ⟨rfl, h24⟩
                obtain ⟨b2, k2⟩ := HND.out _ _ h24
                obtain ⟨okR, hR, hbR, hnR⟩ := b2.ref
                obtain ⟨g1, g2, g3⟩ := CELLS.out _ k2
                have K2 := Lib.hid k2
                have HR := Lib.hid hR
                have HNR := Lib.hid hnR
                have r1 : ∃ l, w24.cell? ⟨DR, 1, none⟩ = some (.int .i64 l) ∧ w24.frozen? ⟨DR, 1, none⟩ = false := by
                  obtain ⟨vw, G, cnt, h1, _⟩ := hR.ex
                  exact ⟨_, h1.c1, h1.fr 1⟩
                obtain ⟨l1, r1, r2⟩ := r1
                clear h24 b2 k2 hR hbR hnR c0 c1 c2 c3
                by_cases hm : pos < -1
                · have hmx : max pos (-1) = -1 := by omega
                  have HMX := Lib.hid hmx
                  clear hmx
                  go_wp2
                  all_goals first | (exfalso; omega) | skip
                  go_meet
                  obtain ⟨b3, k3⟩ := HNR.out _ _ _ ((HR.out.fuel pos (by omega)).mono (Nat.le_succ j))
                  rw [HMX.out] at b3 k3
                  exact ⟨d.fueled pos, 0, rfl, rfl, Lib.hid b3, Lib.hid (K2.out.trans k3), Lib.hid ⟨LL.out.1, by have := LL.out.2; show d.wait.length ≤ _; omega⟩⟩
                · have hmx : max pos (-1) = pos := by omega
                  have HMX := Lib.hid hmx
                  clear hmx
                  go_wp2
                  all_goals first | (exfalso; omega) | skip
                  go_meet
                  obtain ⟨b3, k3⟩ := HNR.out _ _ _ ((HR.out.fuel pos (by omega)).mono (Nat.le_succ j))
                  rw [HMX.out] at b3 k3
                  exact ⟨d.fueled pos, 0, rfl, rfl, Lib.hid b3, Lib.hid (K2.out.trans k3), Lib.hid ⟨LL.out.1, by have := LL.out.2; show d.wait.length ≤ _; omega⟩⟩
              · by_cases e3 : what = 3
                · subst e3
                  clear e0 e1 e2
                  have hka : ∀ (Q : Nat) (wx : World), (∀ k, k < w.heap.size → k ≠ Q) → Keep w wx (fun k => k < w.heap.size) → KeepAt wx KA keep Q := fun Q wx hq hk => ⟨XM.out.kl, fun q hq' => by
                    obtain ⟨kd, h1, h2⟩ := XM.out.keep q hq'
                    have hb := World.block_lt_of_cell? w _ h2
                    rw [add_blk] at hb
                    exact ⟨kd, h1, hq _ hb, hk.cell h2 (by show (kd.add q).block < w.heap.size; rw [add_blk]; exact hb)⟩⟩
                  have HKA := Lib.hid hka
                  have K23 := Lib.hid (KK.out.trans (HK.out.mono (ok' := fun k => k < w.heap.size) (fun k hl _ => hl)))
                  have KS := Lib.hid (HKA.out S w23 (fun k hk => by
                    obtain ⟨vw, _, h2⟩ := HD.out.ex
                    exact (h2 k (HBD.out k (.inl hk))).2.2.1) K23.out)
                  clear hka
                  go_wp2_with fail
                  refine (a_fall keep HD.out KS.out).mono ?_
                  rintro e w24 ⟨rfl, h24⟩
                  obtain ⟨b2, k2⟩ := HND.out _ _ h24
                  obtain ⟨okR, hR, hbR, hnR⟩ := b2.ref
                  obtain ⟨g1, g2, g3⟩ := CELLS.out _ k2
                  have K2 := Lib.hid k2
                  have HR := Lib.hid hR
                  have HNR := Lib.hid hnR
                  have KM := Lib.hid (HKA.out BM w24 (fun k hk => by
                    obtain ⟨vw, G, cnt, _, _, _, h2⟩ := hR.ex
                    exact (h2 k (hbR k (.inl hk))).2.2.1) (K23.out.trans (k2.mono (fun k _ h => .inl h))))
                  clear h24 b2 k2 hR hbR hnR c0 c1 c2 c3
                  go_wp2_with fail
                  refine (q_fall keep HR.out KM.out (by omega)).mono ?_
                  rintro e w25 ⟨rfl, h25⟩
                  obtain ⟨b3, k3⟩ := HNR.out _ _ _ (h25.mono (Nat.le_succ j))
                  have B3 := Lib.hid b3
                  have K3 := Lib.hid (K2.out.trans k3)
                  clear h25 b3 k3 g1 g2 g3
                  go_wp2
                  go_meet
                  exact ⟨d.fallen keep, 0, rfl, rfl, B3, K3, Lib.hid ⟨by show (madeL keep false d.wait 0 d.sure).length = N; rw [madeL_length]; exact LL.out.1, by show ([] : List Wr).length ≤ _; simp⟩⟩
                · have f0 : (what == 0) = false := by rw [beq_eq_false_iff_ne]; exact e0
                  have f1 : (what == 1) = false := by rw [beq_eq_false_iff_ne]; exact e1
                  have f2 : (what == 2) = false := by rw [beq_eq_false_iff_ne]; exact e2
                  have f3 : (what == 3) = false := by rw [beq_eq_false_iff_ne]; exact e3
                  go_wp2
                  go_meet
                  obtain ⟨okR, hR, hbR, hnR⟩ := BB1.out.ref
                  exact ⟨d, 0, rfl, rfl, Lib.hid (hnR _ _ _ ⟨hR.mono (Nat.le_succ j), Keep.refl _ _⟩).1, Lib.hid (Keep.refl _ _), Lib.hid ⟨LL.out.1, by have := LL.out.2; omega⟩⟩
        case rest =>
          obtain ⟨d', cd, rfl, rfl, B3, K3, L3⟩ := hcut
          clear BB1 BB c0
          obtain ⟨w5, hw5⟩ : ∃ w5, w5 = wc.drew := ⟨_, rfl⟩
          have kd : Keep wc w5 (fun _ => True) := by rw [hw5]; exact Keep.drew _ _
          have b5 : Both w5 S D S BM DR BM (fun k => k < w.heap.size ∨ k = gb) d' d' (j + 1) := B3.out.more (kd.mono (fun _ _ _ => trivial)) (fun k hk => .inl hk)
          have k5 : Keep w w5 (fun k => k < w.heap.size) := ((KK.out.trans (HK.out.mono (ok' := fun k => k < w.heap.size) (fun k hl _ => hl))).trans (K3.out.mono (fun k _ h => .inl h))).trans (kd.mono (fun _ _ _ => trivial))
          have hb5 : w5.heap[gb]? = some (.cells (actC ⟨what, pos, text, KA, kc, keep⟩).toArray 43 (0, 0)) := (K3.out.trans (kd.mono (fun _ _ _ => trivial))).heap HW.out (.inr rfl)
          obtain ⟨okD, okR, hA1, hR1, hor, hba⟩ := b5.out
          obtain ⟨vwD, hDk, hDo⟩ := hA1.ex
          obtain ⟨vwR, G, cnt, hRk, hRG, hRm, hRo⟩ := hR1.ex
          obtain ⟨RV, rcv, rfl, hrc, _⟩ := hRk.form
          obtain ⟨DV, dcv, rfl⟩ : ∃ DV dcv, vwD = .slice DV d'.wait.length dcv := by
            rcases hDk.row.2 with ⟨rfl, hn⟩ | ⟨g, cap, cur, rfl, _, _, hr⟩
            · have hw0 : d'.wait.length = 0 := by omega
              exact ⟨none, 0, by rw [hw0]⟩
            · exact ⟨_, _, rfl⟩
          have A0 := Lib.hid hRk.c2
          have A1 := Lib.hid hRk.c4
          have A2 := Lib.hid (show w5.cell? ⟨D, 0, none⟩ = some (.slice (some ⟨S, 0, none⟩) N N) by have := hDk.c0; rw [L3.out.1] at this; exact this)
          have A3 := Lib.hid hDk.c1
          have A4 := Lib.hid hDk.c3
          have HE5 := Lib.hid (et_keep HGE.out k5 (et_lt HGE.out))
          have B5 := Lib.hid b5
          have K5 := Lib.hid k5
          have HB5 := Lib.hid hb5
          have HW5 := Lib.hid hw5
          clear kd b5 k5 hb5 hA1 hR1 hor hba hDk hDo hRk hRG hRm hRo hrc hw5 B3 K3 KK HK
          obtain ⟨o, ho⟩ : ∃ o, o = d'.off := ⟨_, rfl⟩
          obtain ⟨wl, hwl⟩ : ∃ wl, wl = d'.wait.length := ⟨_, rfl⟩
          rw [← ho] at A0 A4
          rw [← hwl] at A1 A3
          have HOO := Lib.hid ho
          have HWL := Lib.hid hwl
          clear ho hwl
          go_wp2_with fail
          refine start_ (n := 29) (S := fun w' => w'.cell? ⟨DR, 2, none⟩ = some (.bool o) ∧ w'.cell? ⟨DR, 4, none⟩ = some (.slice RV wl rcv) ∧ w'.cell? ⟨D, 0, none⟩ = some (.slice (some ⟨S, 0, none⟩) N N) ∧ w'.cell? ⟨D, 1, none⟩ = some (.slice DV wl dcv) ∧ w'.cell? ⟨D, 3, none⟩ = some (.bool o)) (ds := []) #[false, false, false, false, false, false, false, false, false, false, false, false, false, false, false, false, false, false, false, false, false, false, false, false, false, false, false, false, false] (by kernel_rfl) rfl rfl ⟨(by rw [← HW5.out]; exact A0.out), (by rw [← HW5.out]; exact A1.out), (by rw [← HW5.out]; exact A2.out), (by rw [← HW5.out]; exact A3.out), (by rw [← HW5.out]; exact A4.out)⟩ (fun hHeld => ?_)
          rw [← HW5.out] at hHeld ⊢
          refine pure_ (i := 0) (N := some 142) (v := ?_) (a' := ?_) #[true, false, false, false, false, false, false, false, false, false, false, false, false, false, false, false, false, false, false, false, false, false, false, false, false, false, false, false, false] rfl rfl (by kernel_rfl) (fun _ _ _ h => h) (Or.inl ⟨by rfl, ?_⟩) ?_ ?_
          rotate_left
          · intro w'
            go_simp
            with_reducible rfl
          rotate_left
          · simp only [Act.put, List.setIfInBounds_toArray, List.set_cons_zero, List.set_cons_succ]
            rfl
          refine pure_ (i := 2) (N := some 144) (v := ?_) (a' := ?_) #[true, false, true, false, false, false, false, false, false, false, false, false, false, false, false, false, false, false, false, false, false, false, false, false, false, false, false, false, false] rfl rfl (by kernel_rfl) (fun _ _ _ h => h) (Or.inl ⟨by rfl, ?_⟩) ?_ ?_
          rotate_left
          · intro w'
            go_simp
            with_reducible rfl
          rotate_left
          · simp only [Act.put, List.setIfInBounds_toArray, List.set_cons_zero, List.set_cons_succ]
            rfl
          refine one_ (i := 1) (N := some 143) #[true, true, true, false, false, false, false, false, false, false, false, false, false, false, false, false, false, false, false, false, false, false, false, false, false, false, false, false, false] rfl rfl (by kernel_rfl) (by decide) (fun K hK => ?_)
          refine goes_ Tryd.func11 (by kernel_rfl) rfl #[errV cd] (by rfl) rfl rfl (by simp only [List.map_toArray, List.map_cons, List.map_nil]; rfl) ?_
          refine (code_any cd _ HE5.out).mono ?_
          rintro e w6 ⟨rfl, hb6⟩
          refine ⟨_, rfl, ?_⟩
          have HB6 := Lib.hid hb6
          clear hb6
          refine hK.out _ _ ⟨pw_cell_below HB6.out A0.out, pw_cell_below HB6.out A1.out, pw_cell_below HB6.out A2.out, pw_cell_below HB6.out A3.out, pw_cell_below HB6.out A4.out⟩ (fun hHeld => ?_)
          clear hK K
          refine norm_ (a' := ?_) ?_ ?_
          rotate_left
          · show Act.put _ (some 143) _ = _
            simp only [Act.put, List.setIfInBounds_toArray, List.set_cons_zero, List.set_cons_succ]
            rfl
          refine pure_ (i := 3) (N := some 145) (v := ?_) (a' := ?_) #[true, true, true, true, false, false, false, false, false, false, false, false, false, false, false, false, false, false, false, false, false, false, false, false, false, false, false, false, false] rfl rfl (by kernel_rfl) (fun _ _ _ h => h) (Or.inl ⟨by rfl, ?_⟩) ?_ ?_
          rotate_left
          · intro w'
            go_simp
            with_reducible rfl
          rotate_left
          · simp only [Act.put, List.setIfInBounds_toArray, List.set_cons_zero, List.set_cons_succ]
            rfl
          refine pure_ (i := 4) (N := some 146) (v := ?_) (a' := ?_) #[true, true, true, true, true, false, false, false, false, false, false, false, false, false, false, false, false, false, false, false, false, false, false, false, false, false, false, false, false] rfl rfl (by kernel_rfl) (fun _ _ _ h => h) (Or.inl ⟨by rfl, ?_⟩) ?_ ?_
          rotate_left
          · intro w'
            go_simp
            with_reducible rfl
          rotate_left
          · simp only [Act.put, List.setIfInBounds_toArray, List.set_cons_zero, List.set_cons_succ]
            rfl
          refine pure_ (i := 5) (N := some 147) (v := ?_) (a' := ?_) #[true, true, true, true, true, true, false, false, false, false, false, false, false, false, false, false, false, false, false, false, false, false, false, false, false, false, false, false, false] rfl rfl (by kernel_rfl) (fun _ _ _ h => h) (Or.inl ⟨by rfl, ?_⟩) ?_ ?_
          rotate_left
          · intro w'
            go_simp
            with_reducible rfl
          rotate_left
          · simp only [Act.put, List.setIfInBounds_toArray, List.set_cons_zero, List.set_cons_succ]
            rfl
          refine pure_ (i := 7) (N := some 149) (v := ?_) (a' := ?_) #[true, true, true, true, true, true, false, true, false, false, false, false, false, false, false, false, false, false, false, false, false, false, false, false, false, false, false, false, false] rfl rfl (by kernel_rfl) (fun _ _ _ h => h) (Or.inl ⟨by rfl, ?_⟩) ?_ ?_
          rotate_left
          · intro w'
            go_simp
            with_reducible rfl
          rotate_left
          · simp only [Act.put, List.setIfInBounds_toArray, List.set_cons_zero, List.set_cons_succ]
            rfl
          refine pure_ (i := 8) (N := some 150) (v := ?_) (a' := ?_) #[true, true, true, true, true, true, false, true, true, false, false, false, false, false, false, false, false, false, false, false, false, false, false, false, false, false, false, false, false] rfl rfl (by kernel_rfl) (fun _ _ _ h => h) (Or.inl ⟨by rfl, ?_⟩) ?_ ?_
          rotate_left
          · intro w'
            go_simp
            with_reducible rfl
          rotate_left
          · simp only [Act.put, List.setIfInBounds_toArray, List.set_cons_zero, List.set_cons_succ]
            rfl
          refine pure_ (i := 9) (N := some 151) (v := ?_) (a' := ?_) #[true, true, true, true, true, true, false, true, true, true, false, false, false, false, false, false, false, false, false, false, false, false, false, false, false, false, false, false, false] rfl rfl (by kernel_rfl) (fun _ _ _ h => h) (Or.inl ⟨by rfl, ?_⟩) ?_ ?_
          rotate_left
          · intro w'
            go_simp
            with_reducible rfl
          rotate_left
          · simp only [Act.put, List.setIfInBounds_toArray, List.set_cons_zero, List.set_cons_succ]
            rfl
          refine take_ (i := 10) (N := some 152) (v := ?_) (a' := ?_) #[true, true, true, true, true, true, false, true, true, true, true, false, false, false, false, false, false, false, false, false, false, false, false, false, false, false, false, false, false] rfl rfl (by kernel_rfl) (fun _ _ _ h => h) (Or.inl ⟨by rfl, ?_⟩) hHeld ?_ ?_
          rotate_left
          · rintro w' ⟨s0, s1, s2, s3, s4⟩
            go_simp
            with_reducible rfl
          rotate_left
          · simp only [Act.put, List.setIfInBounds_toArray, List.set_cons_zero, List.set_cons_succ]
            rfl
          refine one_ (i := 6) (N := some 148) #[true, true, true, true, true, true, true, true, true, true, true, false, false, false, false, false, false, false, false, false, false, false, false, false, false, false, false, false, false] rfl rfl (by kernel_rfl) (by decide) (fun K hK => ?_)
          refine goes_ Tryd.func10 (by kernel_rfl) rfl #[.pointer (some ⟨D, 0, none⟩)] (by rfl) rfl rfl (by simp only [List.map_toArray, List.map_cons, List.map_nil]; rfl) ?_
          refine (off_calls (w := w6) hHeld.2.2.2.2).mono ?_
          rintro e w7 ⟨rfl, hw7⟩
          refine ⟨_, rfl, ?_⟩
          subst hw7
          refine hK.out _ _ ⟨hHeld.1, hHeld.2.1, hHeld.2.2.1, hHeld.2.2.2.1, hHeld.2.2.2.2⟩ (fun hHeld => ?_)
          clear hK K
          refine norm_ (a' := ?_) ?_ ?_
          rotate_left
          · show Act.put _ (some 148) _ = _
            simp only [Act.put, List.setIfInBounds_toArray, List.set_cons_zero, List.set_cons_succ]
            rfl
          refine pure_ (i := 11) (N := some 153) (v := ?_) (a' := ?_) #[true, true, true, true, true, true, true, true, true, true, true, true, false, false, false, false, false, false, false, false, false, false, false, false, false, false, false, false, false] rfl rfl (by kernel_rfl) (fun _ _ _ h => h) (Or.inl ⟨by rfl, ?_⟩) ?_ ?_
          rotate_left
          · intro w'
            go_simp
            with_reducible rfl
          rotate_left
          · simp only [Act.put, List.setIfInBounds_toArray, List.set_cons_zero, List.set_cons_succ]
            rfl
          refine pure_ (i := 12) (N := some 154) (v := ?_) (a' := ?_) #[true, true, true, true, true, true, true, true, true, true, true, true, true, false, false, false, false, false, false, false, false, false, false, false, false, false, false, false, false] rfl rfl (by kernel_rfl) (fun _ _ _ h => h) (Or.inl ⟨by rfl, ?_⟩) ?_ ?_
          rotate_left
          · intro w'
            go_simp
            with_reducible rfl
          rotate_left
          · simp only [Act.put, List.setIfInBounds_toArray, List.set_cons_zero, List.set_cons_succ]
            rfl
          refine pure_ (i := 13) (N := some 155) (v := ?_) (a' := ?_) #[true, true, true, true, true, true, true, true, true, true, true, true, true, true, false, false, false, false, false, false, false, false, false, false, false, false, false, false, false] rfl rfl (by kernel_rfl) (fun _ _ _ h => h) (Or.inl ⟨by rfl, ?_⟩) ?_ ?_
          rotate_left
          · intro w'
            go_simp
            with_reducible rfl
          rotate_left
          · simp only [Act.put, List.setIfInBounds_toArray, List.set_cons_zero, List.set_cons_succ]
            rfl
          refine pure_ (i := 14) (N := some 156) (v := ?_) (a' := ?_) #[true, true, true, true, true, true, true, true, true, true, true, true, true, true, true, false, false, false, false, false, false, false, false, false, false, false, false, false, false] rfl rfl (by kernel_rfl) (fun _ _ _ h => h) (Or.inl ⟨by rfl, ?_⟩) ?_ ?_
          rotate_left
          · intro w'
            go_simp
            with_reducible rfl
          rotate_left
          · simp only [Act.put, List.setIfInBounds_toArray, List.set_cons_zero, List.set_cons_succ]
            rfl
          refine pure_ (i := 16) (N := some 158) (v := ?_) (a' := ?_) #[true, true, true, true, true, true, true, true, true, true, true, true, true, true, true, false, true, false, false, false, false, false, false, false, false, false, false, false, false] rfl rfl (by kernel_rfl) (fun _ _ _ h => h) (Or.inl ⟨by rfl, ?_⟩) ?_ ?_
          rotate_left
          · intro w'
            go_simp
            with_reducible rfl
          rotate_left
          · simp only [Act.put, List.setIfInBounds_toArray, List.set_cons_zero, List.set_cons_succ]
            rfl
          refine pure_ (i := 17) (N := some 159) (v := ?_) (a' := ?_) #[true, true, true, true, true, true, true, true, true, true, true, true, true, true, true, false, true, true, false, false, false, false, false, false, false, false, false, false, false] rfl rfl (by kernel_rfl) (fun _ _ _ h => h) (Or.inl ⟨by rfl, ?_⟩) ?_ ?_
          rotate_left
          · intro w'
            go_simp
            with_reducible rfl
          rotate_left
          · simp only [Act.put, List.setIfInBounds_toArray, List.set_cons_zero, List.set_cons_succ]
            rfl
          refine pure_ (i := 18) (N := some 160) (v := ?_) (a' := ?_) #[true, true, true, true, true, true, true, true, true, true, true, true, true, true, true, false, true, true, true, false, false, false, false, false, false, false, false, false, false] rfl rfl (by kernel_rfl) (fun _ _ _ h => h) (Or.inl ⟨by rfl, ?_⟩) ?_ ?_
          rotate_left
          · intro w'
            go_simp
            with_reducible rfl
          rotate_left
          · simp only [Act.put, List.setIfInBounds_toArray, List.set_cons_zero, List.set_cons_succ]
            rfl
          refine take_ (i := 19) (N := some 161) (v := ?_) (a' := ?_) #[true, true, true, true, true, true, true, true, true, true, true, true, true, true, true, false, true, true, true, true, false, false, false, false, false, false, false, false, false] rfl rfl (by kernel_rfl) (fun _ _ _ h => h) (Or.inl ⟨by rfl, ?_⟩) hHeld ?_ ?_
          rotate_left
          · rintro w' ⟨s0, s1, s2, s3, s4⟩
            go_simp
            with_reducible rfl
          rotate_left
          · simp only [Act.put, List.setIfInBounds_toArray, List.set_cons_zero, List.set_cons_succ]
            rfl
          refine pure_ (i := 20) (N := some 162) (v := ?_) (a' := ?_) #[true, true, true, true, true, true, true, true, true, true, true, true, true, true, true, false, true, true, true, true, true, false, false, false, false, false, false, false, false] rfl rfl (by kernel_rfl) (fun _ _ _ h => h) (Or.inl ⟨by rfl, ?_⟩) ?_ ?_
          rotate_left
          · intro w'
            go_simp
            with_reducible rfl
          rotate_left
          · simp only [Act.put, List.setIfInBounds_toArray, List.set_cons_zero, List.set_cons_succ]
            rfl
          refine one_ (i := 15) (N := some 157) #[true, true, true, true, true, true, true, true, true, true, true, true, true, true, true, true, true, true, true, true, true, false, false, false, false, false, false, false, false] rfl rfl (by kernel_rfl) (by decide) (fun K hK => ?_)
          refine goes_ Tryd.func16 (by kernel_rfl) rfl #[.pointer (some ⟨D, 0, none⟩)] (by rfl) rfl rfl (by simp only [List.map_toArray, List.map_cons, List.map_nil]; rfl) ?_
          refine (pend_calls hHeld.2.2.2.1).mono ?_
          rintro e w8 ⟨rfl, hw8⟩
          refine ⟨_, rfl, ?_⟩
          subst hw8
          refine hK.out _ _ ⟨hHeld.1, hHeld.2.1, hHeld.2.2.1, hHeld.2.2.2.1, hHeld.2.2.2.2⟩ (fun hHeld => ?_)
          clear hK K
          refine norm_ (a' := ?_) ?_ ?_
          rotate_left
          · show Act.put _ (some 157) _ = _
            simp only [Act.put, List.setIfInBounds_toArray, List.set_cons_zero, List.set_cons_succ]
            rfl
          refine pure_ (i := 21) (N := some 163) (v := ?_) (a' := ?_) #[true, true, true, true, true, true, true, true, true, true, true, true, true, true, true, true, true, true, true, true, true, true, false, false, false, false, false, false, false] rfl rfl (by kernel_rfl) (fun _ _ _ h => h) (Or.inl ⟨by rfl, ?_⟩) ?_ ?_
          rotate_left
          · intro w'
            go_simp
            with_reducible rfl
          rotate_left
          · simp only [Act.put, List.setIfInBounds_toArray, List.set_cons_zero, List.set_cons_succ]
            rfl
          refine pure_ (i := 22) (N := some 164) (v := ?_) (a' := ?_) #[true, true, true, true, true, true, true, true, true, true, true, true, true, true, true, true, true, true, true, true, true, true, true, false, false, false, false, false, false] rfl rfl (by kernel_rfl) (fun _ _ _ h => h) (Or.inl ⟨by rfl, ?_⟩) ?_ ?_
          rotate_left
          · intro w'
            go_simp
            with_reducible rfl
          rotate_left
          · simp only [Act.put, List.setIfInBounds_toArray, List.set_cons_zero, List.set_cons_succ]
            rfl
          refine pure_ (i := 23) (N := some 165) (v := ?_) (a' := ?_) #[true, true, true, true, true, true, true, true, true, true, true, true, true, true, true, true, true, true, true, true, true, true, true, true, false, false, false, false, false] rfl rfl (by kernel_rfl) (fun _ _ _ h => h) (Or.inl ⟨by rfl, ?_⟩) ?_ ?_
          rotate_left
          · intro w'
            go_simp
            with_reducible rfl
          rotate_left
          · simp only [Act.put, List.setIfInBounds_toArray, List.set_cons_zero, List.set_cons_succ]
            rfl
          refine pure_ (i := 24) (N := some 166) (v := ?_) (a' := ?_) #[true, true, true, true, true, true, true, true, true, true, true, true, true, true, true, true, true, true, true, true, true, true, true, true, true, false, false, false, false] rfl rfl (by kernel_rfl) (fun _ _ _ h => h) (Or.inl ⟨by rfl, ?_⟩) ?_ ?_
          rotate_left
          · intro w'
            go_simp
            with_reducible rfl
          rotate_left
          · simp only [Act.put, List.setIfInBounds_toArray, List.set_cons_zero, List.set_cons_succ]
            rfl
          refine pure_ (i := 26) (N := some 168) (v := ?_) (a' := ?_) #[true, true, true, true, true, true, true, true, true, true, true, true, true, true, true, true, true, true, true, true, true, true, true, true, true, false, true, false, false] rfl rfl (by kernel_rfl) (fun _ _ _ h => h) (Or.inl ⟨by rfl, ?_⟩) ?_ ?_
          rotate_left
          · intro w'
            go_simp
            with_reducible rfl
          rotate_left
          · simp only [Act.put, List.setIfInBounds_toArray, List.set_cons_zero, List.set_cons_succ]
            rfl
          refine one_ (i := 25) (N := some 167) #[true, true, true, true, true, true, true, true, true, true, true, true, true, true, true, true, true, true, true, true, true, true, true, true, true, true, true, false, false] rfl rfl (by kernel_rfl) (by decide) (fun K hK => ?_)
          refine goes_ Tryd.func15 (by kernel_rfl) rfl #[.pointer (some ⟨D, 0, none⟩)] (by rfl) rfl rfl (by simp only [List.map_toArray, List.map_cons, List.map_nil]; rfl) ?_
          refine (size_calls hHeld.2.2.1).mono ?_
          rintro e w9 ⟨rfl, hw9⟩
          refine ⟨_, rfl, ?_⟩
          subst hw9
          refine hK.out _ _ ⟨hHeld.1, hHeld.2.1, hHeld.2.2.1, hHeld.2.2.2.1, hHeld.2.2.2.2⟩ (fun hHeld => ?_)
          clear hK K
          refine norm_ (a' := ?_) ?_ ?_
          rotate_left
          · show Act.put _ (some 167) _ = _
            simp only [Act.put, List.setIfInBounds_toArray, List.set_cons_zero, List.set_cons_succ]
            rfl
          refine pure_ (i := 27) (N := some 169) (v := ?_) (a' := ?_) #[true, true, true, true, true, true, true, true, true, true, true, true, true, true, true, true, true, true, true, true, true, true, true, true, true, true, true, true, false] rfl rfl (by kernel_rfl) (fun _ _ _ h => h) (Or.inl ⟨by rfl, ?_⟩) ?_ ?_
          rotate_left
          · intro w'
            go_simp
            with_reducible rfl
          rotate_left
          · simp only [Act.put, List.setIfInBounds_toArray, List.set_cons_zero, List.set_cons_succ]
            rfl
          refine pure_ (i := 28) (N := some 170) (v := ?_) (a' := ?_) #[true, true, true, true, true, true, true, true, true, true, true, true, true, true, true, true, true, true, true, true, true, true, true, true, true, true, true, true, true] rfl rfl (by kernel_rfl) (fun _ _ _ h => h) (Or.inl ⟨by rfl, ?_⟩) ?_ ?_
          rotate_left
          · intro w'
            go_simp
            with_reducible rfl
          rotate_left
          · simp only [Act.put, List.setIfInBounds_toArray, List.set_cons_zero, List.set_cons_succ]
            rfl
          refine done_ (by kernel_rfl) ?_

          have B6 := Lib.hid (B5.out.more (w' := w9) (base' := fun k => k < w.heap.size ∨ k = gb) (Keep.of_below HB6.out (Nat.le_refl _)) (fun k hk => .inl hk))
          have K6 := Lib.hid (K5.out.trans (Keep.of_below (ok := fun k => k < w.heap.size) HB6.out (Nat.le_refl _)))
          have g1 : w9.cell? ⟨gb, 1, none⟩ = some (.int .i64 pos) := by
            have := (HB6.out.block gb (Array.getElem?_eq_some_iff.1 HB5.out).1).trans HB5.out
            exact (cell_of_row w9 gb 1 _ _ (0, 0) this).trans rfl
          go_wp2_with fail
          obtain ⟨g3, hg3⟩ : ∃ g3, g3 = w9.heap.size := ⟨_, rfl⟩
          obtain ⟨w10, hw10⟩ : ∃ w10, w10 = w9.alloc (.cells #[.int .i64 (-1), .int .i64 pos, .int .i64 (N : Int)] 3) := ⟨_, rfl⟩
          rw [← hw10, ← hg3]
          have k10 : Keep w9 w10 (fun k => k < w9.heap.size) := by rw [hw10]; exact Keep.of_below (below_alloc (Below.refl _ _) _) (Nat.le_refl _)
          have x10 : w10.heap[g3]? = some (.cells #[.int .i64 (-1), .int .i64 pos, .int .i64 (N : Int)] 3 (0, 0)) := by rw [hw10, hg3]; exact heap_alloc_last w9 _
          have B10 := Lib.hid (B6.out.more (w' := w10) (base' := fun k => k < w.heap.size ∨ k = g3) k10 (fun k hk => by
            rcases hk with hk | rfl
            · exact .inl (.inl hk)
            · exact .inr ⟨by rw [hg3]; exact Nat.le_refl _, (Array.getElem?_eq_some_iff.1 x10).1⟩))
          have K10 := Lib.hid (K6.out.trans (k10.mono (fun k hl _ => hl)))
          have X10 := Lib.hid x10
          clear k10 x10 hw10 hg3 g1
          go_loopw [176] (fun v wr => ∃ (q : Nat), v = .int .i64 q ∧ q ≤ 3 ∧ Hid (Both wr S D S BM DR BM (fun k => k < w.heap.size ∨ k = g3) d' d' (j + 1)) ∧ Hid (Keep w10 wr (fun k => k < w.heap.size ∨ k = g3)))
            (fun v _ => 3 - (intOf v).toNat)
          case atStart => exact ⟨0, rfl, by omega, B10, Lib.hid (Keep.refl _ _)⟩
          case round =>
            obtain ⟨q, rfl, hq, BQ, KQ⟩ := hrel
            by_cases hq3 : q < 3
            · have dq : decide ((q : Int) < 3) = true := decide_eq_true (by omega)
              have hgq := KQ.out.heap X10.out (.inr rfl)
              obtain ⟨kv, hkv⟩ : ∃ kv : Int, wr.cell? ⟨g3, q, none⟩ = some (.int .i64 kv) := by
                have h0 := cell_of_row wr g3 q _ _ (0, 0) hgq
                match q, hq3 with
                | 0, _ => exact ⟨_, h0.trans rfl⟩
                | 1, _ => exact ⟨_, h0.trans rfl⟩
                | 2, _ => exact ⟨_, h0.trans rfl⟩
              clear hgq
              obtain ⟨okD, hD, hbD, hnD⟩ := BQ.out.disk
              have HD := Lib.hid hD
              have HND := Lib.hid hnD
              obtain ⟨r, hr⟩ : ∃ r, r = (d'.rd kv).1 := ⟨_, rfl⟩
              obtain ⟨cr, hcr⟩ : ∃ cr, cr = (d'.rd kv).2 := ⟨_, rfl⟩
              have CB := Lib.hid (b_read kv hD)
              have CP := Lib.hid (fun (wx : World) (B' m : Nat) (okR : Nat → Prop) (h : RAt wx B' DR BM okR d' m) => p_read kv h)
              rw [← hr, ← hcr] at CB
              simp only [← hr, ← hcr] at CP
              clear hD hbD hnD hr hcr
              go_wp2_with fail
              refine CB.out.mono ?_
              rintro e w24 ⟨rfl, h24⟩
              obtain ⟨b2, k2⟩ := HND.out _ _ h24
              obtain ⟨okR, hR, hbR, hnR⟩ := b2.ref
              have KQ2 := Lib.hid (KQ.out.trans k2)
              have HR := Lib.hid hR
              have HNR := Lib.hid hnR
              clear h24 b2 k2 hR hbR hnR 
              go_wp2_with fail
              refine (CP.out _ _ _ _ HR.out).mono ?_
              rintro e w25 ⟨rfl, h25⟩
              obtain ⟨b3, k3⟩ := HNR.out _ _ _ h25
              have B3 := Lib.hid b3
              have KQ3 := Lib.hid (KQ2.out.trans k3)
              clear h25 b3 k3
              go_wp2_with fail
              refine (code_any cr _ (et_keep HGE.out (K10.out.trans (KQ3.out.mono (fun k _ h => .inl h))) (et_lt HGE.out))).mono ?_
              rintro e w26 ⟨rfl, h26⟩
              have B4 := Lib.hid (B3.out.more (w' := w26) (Keep.of_below h26 (Nat.le_refl _)) (fun k hk => .inl hk))
              have KQ4 := Lib.hid (KQ3.out.trans (Keep.of_below h26 (Nat.le_refl _)))
              clear h26
              go_wp2
              go_roundw
              case rel => exact ⟨q + 1, by go_num, by omega, B4, KQ4⟩
              case measure => simp [intOf]; omega
            · have dq : decide ((q : Int) < 3) = false := decide_eq_false (by omega)
              go_wp2
              go_roundw
              case rel =>
                refine ⟨j + 1, d', by go_num, by omega, by omega, Lib.hid ?_, Lib.hid (K10.out.trans (KQ.out.mono (fun k _ h => .inl h))), L3⟩
                exact BQ.out.more (Keep.refl _ _) (fun k hk => .inl (.inl hk))
              case measure => simp [intOf]; omega
      · by_cases hje : j < acts.length
        · have h100 : j = 100 := Classical.byContradiction fun h => hjj ⟨hje, h⟩
          have d100 : ((j : Int) == 100) = true := by rw [beq_iff_eq]; omega
          have hj1 := hje
          clear hjj h100 hje
          have dj : decide ((j : Int) < (acts.length : Int)) = true := decide_eq_true (by omega)
          obtain ⟨ad, rfl, hcs⟩ := HA.out.2.2 j hj1
          obtain ⟨x, hx⟩ : ∃ x, x = acts.getD j ⟨0, 0, ByteArray.empty, none, 0, []⟩ := ⟨_, rfl⟩
          have hxm : ActAt w x := HA.out.2.1 x (by rw [hx, List.getD_eq_getElem?_getD, List.getElem?_eq_getElem hj1]; exact List.getElem_mem _)
          rw [← hx] at hcs
          obtain ⟨what, pos, text, KA, kc, keep⟩ := x
          have hcs' : ∀ q v, (actC ⟨what, pos, text, KA, kc, keep⟩)[q]? = some v → wr.cell? ((ad.add (j * 4)).add q) = some v := fun q v hv => KK.out.cell (hcs q v hv) (World.block_lt_of_cell? w _ (hcs q v hv))
          have HCS := Lib.hid hcs'
          have XM := Lib.hid hxm
          obtain ⟨Z, hZ⟩ : ∃ Z : Array Value, Z = #[.int .i64 0, .int .i64 0, .string ⟨#[]⟩, .slice none 0 0] := ⟨_, rfl⟩
          have hzz : ∀ W : World, (zeroValue 43).run Tryd.prog W = .ok (.agg Z) W := by rw [hZ]; exact (zero_of_info infoAct).1
          have HZZ := Lib.hid hzz
          have HZS := Lib.hid (show Z.size = 4 by rw [hZ]; rfl)
          clear hcs hcs' hx hxm hZ hzz
          obtain ⟨nn, hnn⟩ : ∃ nn : Int, nn = (N : Int) := ⟨_, rfl⟩
          rw [← hnn] at n0 n1 n2 n3 ⊢
          clear hnn
          by_cases h40 : nn ≤ 40
          · go_wp2_with (first | ((with_reducible refine gate_dst (N := 95) rfl ?_); refine wpList_load_any rfl 43 (.tmp 94) rfl (ad.add (j * 4)) rfl (actC ⟨what, pos, text, KA, kc, keep⟩) _ HCS.out Tryd.underlying43 rfl ((zero_of_info infoAct).2) ?_) | ((with_reducible refine gate_dst (N := 12) rfl ?_); refine box_event ?hg (N := 12) ?hd (cs := Z) (t := 43) ?hr ?_; (case hd => rfl); (case hg => rfl); (case hr => have hyz := HZZ.out; first | (go_simp; done) | (go_simp; rfl)); intro gb hg w22 hbox hb; have HBX := Lib.hid hbox; have HB := Lib.hid hb; have HG := Lib.hid hg; clear hbox hb hg) | ((with_reducible refine gate_store (t := 43) (p := 12) rfl ?_); refine store_whole rfl 43 (.tmp 12) (.tmp 95) rfl gb (actC ⟨what, pos, text, KA, kc, keep⟩).toArray rfl rfl 43 Z HBX.out ((zero_of_info infoAct).2) HZS.out (actC_one _) ?_; intro w23 hw23 hk23; have HW := Lib.hid hw23; have HK := Lib.hid ((Keep.of_below (ok := fun k => k < wr.heap.size) HB.out (Nat.le_refl _)).trans (hk23.mono (fun k _ h => by rw [HG.out]; omega))); clear hw23 hk23))
            have BX := Lib.hid (BB.out.more (w' := w23) (base' := fun k => k < w.heap.size) HK.out (fun k hk => .inl hk))
            have KX := Lib.hid (KK.out.trans (HK.out.mono (ok' := fun k => k < w.heap.size) (fun k hl _ => hl)))
            clear BB KK
            go_loopw [205] (fun v wr => ∃ (k : Nat), v = .int .i64 k ∧ (k : Int) ≤ nn ∧ Hid (Both wr S D S BM DR BM (fun k => k < w.heap.size) d d j) ∧ Hid (Keep w wr (fun k => k < w.heap.size)))
              (fun v _ => (nn).toNat - (intOf v).toNat)
            case atStart => exact ⟨0, rfl, by omega, BX, KX⟩
            case round =>
              clear BX KX
              obtain ⟨q, rfl, hq, BQ, KQ⟩ := hrel
              by_cases hq3 : (q : Int) < nn
              · have dq : decide ((q : Int) < nn) = true := decide_eq_true hq3
                obtain ⟨okD, hD, hbD, hnD⟩ := BQ.out.disk
                have HD := Lib.hid hD
                have HND := Lib.hid hnD
                obtain ⟨r, hr⟩ : ∃ r, r = (d.rd (q : Int)).1 := ⟨_, rfl⟩
                obtain ⟨cr, hcr⟩ : ∃ cr, cr = (d.rd (q : Int)).2 := ⟨_, rfl⟩
                have CB := Lib.hid (b_read (q : Int) hD)
                have CP := Lib.hid (fun (wx : World) (B' m : Nat) (okR : Nat → Prop) (h : RAt wx B' DR BM okR d m) => p_read (q : Int) h)
                rw [← hr, ← hcr] at CB
                simp only [← hr, ← hcr] at CP
                clear hD hbD hnD hr hcr
                go_wp2_with fail
                refine CB.out.mono ?_
                rintro e w24 ⟨rfl, h24⟩
                obtain ⟨b2, k2⟩ := HND.out _ _ h24
                obtain ⟨okR, hR, hbR, hnR⟩ := b2.ref
                have KQ2 := Lib.hid (KQ.out.trans k2)
                have HR := Lib.hid hR
                have HNR := Lib.hid hnR
                clear h24 b2 k2 hR hbR hnR 
                go_wp2_with fail
                refine (CP.out _ _ _ _ HR.out).mono ?_
                rintro e w25 ⟨rfl, h25⟩
                obtain ⟨b3, k3⟩ := HNR.out _ _ _ h25
                have B3 := Lib.hid b3
                have KQ3 := Lib.hid (KQ2.out.trans k3)
                clear h25 b3 k3
                go_wp2_with fail
                refine (code_any cr _ (et_keep HGE.out (KQ3.out) (et_lt HGE.out))).mono ?_
                rintro e w26 ⟨rfl, h26⟩
                have B4 := Lib.hid (B3.out.more (w' := w26) (Keep.of_below h26 (Nat.le_refl _)) (fun k hk => .inl hk))
                have KQ4 := Lib.hid (KQ3.out.trans (Keep.of_below h26 (Nat.le_refl _)))
                clear h26
                go_wp2
                go_roundw
                case rel => exact ⟨q + 1, by go_num, by omega, B4, KQ4⟩
                case measure => simp [intOf]; omega
              · have dq : decide ((q : Int) < nn) = false := decide_eq_false hq3
                go_wp2
                go_ret
                exact ⟨rfl, KQ.out.below (Nat.le_refl _) (fun _ h => h)⟩
          · go_wp2_with (first | ((with_reducible refine gate_dst (N := 95) rfl ?_); refine wpList_load_any rfl 43 (.tmp 94) rfl (ad.add (j * 4)) rfl (actC ⟨what, pos, text, KA, kc, keep⟩) _ HCS.out Tryd.underlying43 rfl ((zero_of_info infoAct).2) ?_) | ((with_reducible refine gate_dst (N := 12) rfl ?_); refine box_event ?hg (N := 12) ?hd (cs := Z) (t := 43) ?hr ?_; (case hd => rfl); (case hg => rfl); (case hr => have hyz := HZZ.out; first | (go_simp; done) | (go_simp; rfl)); intro gb hg w22 hbox hb; have HBX := Lib.hid hbox; have HB := Lib.hid hb; have HG := Lib.hid hg; clear hbox hb hg) | ((with_reducible refine gate_store (t := 43) (p := 12) rfl ?_); refine store_whole rfl 43 (.tmp 12) (.tmp 95) rfl gb (actC ⟨what, pos, text, KA, kc, keep⟩).toArray rfl rfl 43 Z HBX.out ((zero_of_info infoAct).2) HZS.out (actC_one _) ?_; intro w23 hw23 hk23; have HW := Lib.hid hw23; have HK := Lib.hid ((Keep.of_below (ok := fun k => k < wr.heap.size) HB.out (Nat.le_refl _)).trans (hk23.mono (fun k _ h => by rw [HG.out]; omega))); clear hw23 hk23))
            have BX := Lib.hid (BB.out.more (w' := w23) (base' := fun k => k < w.heap.size) HK.out (fun k hk => .inl hk))
            have KX := Lib.hid (KK.out.trans (HK.out.mono (ok' := fun k => k < w.heap.size) (fun k hl _ => hl)))
            clear BB KK
            go_loopw [205] (fun v wr => ∃ (k : Nat), v = .int .i64 k ∧ (k : Int) ≤ (40 : Int) ∧ Hid (Both wr S D S BM DR BM (fun k => k < w.heap.size) d d j) ∧ Hid (Keep w wr (fun k => k < w.heap.size)))
              (fun v _ => ((40 : Int)).toNat - (intOf v).toNat)
            case atStart => exact ⟨0, rfl, by omega, BX, KX⟩
            case round =>
              clear BX KX
              obtain ⟨q, rfl, hq, BQ, KQ⟩ := hrel
              by_cases hq3 : (q : Int) < (40 : Int)
              · have dq : decide ((q : Int) < (40 : Int)) = true := decide_eq_true hq3
                obtain ⟨okD, hD, hbD, hnD⟩ := BQ.out.disk
                have HD := Lib.hid hD
                have HND := Lib.hid hnD
                obtain ⟨r, hr⟩ : ∃ r, r = (d.rd (q : Int)).1 := ⟨_, rfl⟩
                obtain ⟨cr, hcr⟩ : ∃ cr, cr = (d.rd (q : Int)).2 := ⟨_, rfl⟩
                have CB := Lib.hid (b_read (q : Int) hD)
                have CP := Lib.hid (fun (wx : World) (B' m : Nat) (okR : Nat → Prop) (h : RAt wx B' DR BM okR d m) => p_read (q : Int) h)
                rw [← hr, ← hcr] at CB
                simp only [← hr, ← hcr] at CP
                clear hD hbD hnD hr hcr
                go_wp2_with fail
                refine CB.out.mono ?_
                rintro e w24 ⟨rfl, h24⟩
                obtain ⟨b2, k2⟩ := HND.out _ _ h24
                obtain ⟨okR, hR, hbR, hnR⟩ := b2.ref
                have KQ2 := Lib.hid (KQ.out.trans k2)
                have HR := Lib.hid hR
                have HNR := Lib.hid hnR
                clear h24 b2 k2 hR hbR hnR 
                go_wp2_with fail
                refine (CP.out _ _ _ _ HR.out).mono ?_
                rintro e w25 ⟨rfl, h25⟩
                obtain ⟨b3, k3⟩ := HNR.out _ _ _ h25
                have B3 := Lib.hid b3
                have KQ3 := Lib.hid (KQ2.out.trans k3)
                clear h25 b3 k3
                go_wp2_with fail
                refine (code_any cr _ (et_keep HGE.out (KQ3.out) (et_lt HGE.out))).mono ?_
                rintro e w26 ⟨rfl, h26⟩
                have B4 := Lib.hid (B3.out.more (w' := w26) (Keep.of_below h26 (Nat.le_refl _)) (fun k hk => .inl hk))
                have KQ4 := Lib.hid (KQ3.out.trans (Keep.of_below h26 (Nat.le_refl _)))
                clear h26
                go_wp2
                go_roundw
                case rel => exact ⟨q + 1, by go_num, by omega, B4, KQ4⟩
                case measure => simp [intOf]; omega
              · have dq : decide ((q : Int) < (40 : Int)) = false := decide_eq_false hq3
                go_wp2
                go_ret
                exact ⟨rfl, KQ.out.below (Nat.le_refl _) (fun _ h => h)⟩
        · have dj : decide ((j : Int) < (acts.length : Int)) = false := decide_eq_false (by omega)
          clear hjj
          have BX := BB
          have KX := KK
          clear BB KK
          obtain ⟨nn, hnn⟩ : ∃ nn : Int, nn = (N : Int) := ⟨_, rfl⟩
          rw [← hnn] at n0 n1 n2 n3 ⊢
          clear hnn
          by_cases h40 : nn ≤ 40
          · go_wp2_with fail
            go_loopw [205] (fun v wr => ∃ (k : Nat), v = .int .i64 k ∧ (k : Int) ≤ nn ∧ Hid (Both wr S D S BM DR BM (fun k => k < w.heap.size) d d j) ∧ Hid (Keep w wr (fun k => k < w.heap.size)))
              (fun v _ => (nn).toNat - (intOf v).toNat)
            case atStart => exact ⟨0, rfl, by omega, BX, KX⟩
            case round =>
              clear BX KX
              obtain ⟨q, rfl, hq, BQ, KQ⟩ := hrel
              by_cases hq3 : (q : Int) < nn
              · have dq : decide ((q : Int) < nn) = true := decide_eq_true hq3
                obtain ⟨okD, hD, hbD, hnD⟩ := BQ.out.disk
                have HD := Lib.hid hD
                have HND := Lib.hid hnD
                obtain ⟨r, hr⟩ : ∃ r, r = (d.rd (q : Int)).1 := ⟨_, rfl⟩
                obtain ⟨cr, hcr⟩ : ∃ cr, cr = (d.rd (q : Int)).2 := ⟨_, rfl⟩
                have CB := Lib.hid (b_read (q : Int) hD)
                have CP := Lib.hid (fun (wx : World) (B' m : Nat) (okR : Nat → Prop) (h : RAt wx B' DR BM okR d m) => p_read (q : Int) h)
                rw [← hr, ← hcr] at CB
                simp only [← hr, ← hcr] at CP
                clear hD hbD hnD hr hcr
                go_wp2_with fail
                refine CB.out.mono ?_
                rintro e w24 ⟨rfl, h24⟩
                obtain ⟨b2, k2⟩ := HND.out _ _ h24
                obtain ⟨okR, hR, hbR, hnR⟩ := b2.ref
                have KQ2 := Lib.hid (KQ.out.trans k2)
                have HR := Lib.hid hR
                have HNR := Lib.hid hnR
                clear h24 b2 k2 hR hbR hnR 
                go_wp2_with fail
                refine (CP.out _ _ _ _ HR.out).mono ?_
                rintro e w25 ⟨rfl, h25⟩
                obtain ⟨b3, k3⟩ := HNR.out _ _ _ h25
                have B3 := Lib.hid b3
                have KQ3 := Lib.hid (KQ2.out.trans k3)
                clear h25 b3 k3
                go_wp2_with fail
                refine (code_any cr _ (et_keep HGE.out (KQ3.out) (et_lt HGE.out))).mono ?_
                rintro e w26 ⟨rfl, h26⟩
                have B4 := Lib.hid (B3.out.more (w' := w26) (Keep.of_below h26 (Nat.le_refl _)) (fun k hk => .inl hk))
                have KQ4 := Lib.hid (KQ3.out.trans (Keep.of_below h26 (Nat.le_refl _)))
                clear h26
                go_wp2
                go_roundw
                case rel => exact ⟨q + 1, by go_num, by omega, B4, KQ4⟩
                case measure => simp [intOf]; omega
              · have dq : decide ((q : Int) < nn) = false := decide_eq_false hq3
                go_wp2
                go_ret
                exact ⟨rfl, KQ.out.below (Nat.le_refl _) (fun _ h => h)⟩
          · go_wp2_with fail
            go_loopw [205] (fun v wr => ∃ (k : Nat), v = .int .i64 k ∧ (k : Int) ≤ (40 : Int) ∧ Hid (Both wr S D S BM DR BM (fun k => k < w.heap.size) d d j) ∧ Hid (Keep w wr (fun k => k < w.heap.size)))
              (fun v _ => ((40 : Int)).toNat - (intOf v).toNat)
            case atStart => exact ⟨0, rfl, by omega, BX, KX⟩
            case round =>
              clear BX KX
              obtain ⟨q, rfl, hq, BQ, KQ⟩ := hrel
              by_cases hq3 : (q : Int) < (40 : Int)
              · have dq : decide ((q : Int) < (40 : Int)) = true := decide_eq_true hq3
                obtain ⟨okD, hD, hbD, hnD⟩ := BQ.out.disk
                have HD := Lib.hid hD
                have HND := Lib.hid hnD
                obtain ⟨r, hr⟩ : ∃ r, r = (d.rd (q : Int)).1 := ⟨_, rfl⟩
                obtain ⟨cr, hcr⟩ : ∃ cr, cr = (d.rd (q : Int)).2 := ⟨_, rfl⟩
                have CB := Lib.hid (b_read (q : Int) hD)
                have CP := Lib.hid (fun (wx : World) (B' m : Nat) (okR : Nat → Prop) (h : RAt wx B' DR BM okR d m) => p_read (q : Int) h)
                rw [← hr, ← hcr] at CB
                simp only [← hr, ← hcr] at CP
                clear hD hbD hnD hr hcr
                go_wp2_with fail
                refine CB.out.mono ?_
                rintro e w24 ⟨rfl, h24⟩
                obtain ⟨b2, k2⟩ := HND.out _ _ h24
                obtain ⟨okR, hR, hbR, hnR⟩ := b2.ref
                have KQ2 := Lib.hid (KQ.out.trans k2)
                have HR := Lib.hid hR
                have HNR := Lib.hid hnR
                clear h24 b2 k2 hR hbR hnR 
                go_wp2_with fail
                refine (CP.out _ _ _ _ HR.out).mono ?_
                rintro e w25 ⟨rfl, h25⟩
                obtain ⟨b3, k3⟩ := HNR.out _ _ _ h25
                have B3 := Lib.hid b3
                have KQ3 := Lib.hid (KQ2.out.trans k3)
                clear h25 b3 k3
                go_wp2_with fail
                refine (code_any cr _ (et_keep HGE.out (KQ3.out) (et_lt HGE.out))).mono ?_
                rintro e w26 ⟨rfl, h26⟩
                have B4 := Lib.hid (B3.out.more (w' := w26) (Keep.of_below h26 (Nat.le_refl _)) (fun k hk => .inl hk))
                have KQ4 := Lib.hid (KQ3.out.trans (Keep.of_below h26 (Nat.le_refl _)))
                clear h26
                go_wp2
                go_roundw
                case rel => exact ⟨q + 1, by go_num, by omega, B4, KQ4⟩
                case measure => simp [intOf]; omega
              · have dq : decide ((q : Int) < (40 : Int)) = false := decide_eq_false hq3
                go_wp2
                go_ret
                exact ⟨rfl, KQ.out.below (Nat.le_refl _) (fun _ h => h)⟩
  · have errs : ∀ b1 b2 : Bool, True := fun _ _ => trivial
    clear errs
    go_enter Tryd.func4, Tryd.ntmps4
    go_wp2_with fail
    refine (awake_calls _).mono ?_
    rintro e w1 ⟨rfl, h1⟩
    have H1 := Lib.hid h1
    have GE1 := Lib.hid (HGE.out.below h1); clear h1
    go_wp2_with fail
    refine (new_bad n _ hn).mono ?_
    rintro e w2 ⟨rfl, hw2⟩
    subst hw2
    go_wp2_with fail
    refine (rnew_bad n _ hn).mono ?_
    rintro e w3 ⟨rfl, hw3⟩
    subst hw3
    clear hn
    go_wp2_with fail
    refine (code_err 1 _ GE1.out).mono ?_
    rintro e w4 ⟨rfl, h4⟩
    have H4 := Lib.hid (H1.out.trans (h4.mono H1.out.size))
    have GE4 := Lib.hid (GE1.out.below h4); clear h4
    go_wp2_with fail
    refine (read_nil 0 _).mono ?_
    rintro e w5 ⟨rfl, hw5⟩
    subst hw5
    go_wp2_with fail
    refine (code_err 20 _ GE4.out).mono ?_
    rintro e w6 ⟨rfl, h6⟩
    have H6 := Lib.hid (H4.out.trans (h6.mono H4.out.size))
    have GE6 := Lib.hid (GE4.out.below h6); clear h6
    go_wp2_with fail
    refine (write_nil 0 _ _).mono ?_
    rintro e w7 ⟨rfl, hw7⟩
    subst hw7
    go_wp2_with fail
    refine (code_err 20 _ GE6.out).mono ?_
    rintro e w8 ⟨rfl, h8⟩
    have H8 := Lib.hid (H6.out.trans (h8.mono H6.out.size))
    have GE8 := Lib.hid (GE6.out.below h8); clear h8
    go_wp2_with fail
    refine (flush_nil _).mono ?_
    rintro e w9 ⟨rfl, hw9⟩
    subst hw9
    go_wp2_with fail
    refine (code_err 20 _ GE8.out).mono ?_
    rintro e w10 ⟨rfl, h10⟩
    have H10 := Lib.hid (H8.out.trans (h10.mono H8.out.size))
    clear h10
    go_wp2_with fail
    refine (off_nil _).mono ?_
    rintro e w11 ⟨rfl, hw11⟩
    subst hw11
    go_wp2_with fail
    refine (size_nil _).mono ?_
    rintro e w12 ⟨rfl, hw12⟩
    subst hw12
    go_wp2_with fail
    refine (pend_nil _).mono ?_
    rintro e w13 ⟨rfl, hw13⟩
    subst hw13
    go_wp2
    go_ret
    exact ⟨rfl, H10.out⟩
#print axioms runs_calls
end Go.Proofs.YtpdnfaggdheneaaDoorS
