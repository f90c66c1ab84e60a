/- SectorSure walked. -/
import Derived.Test.YtpdnfaggdheneaaSE
namespace Go.Proofs.YtpdnfaggdheneaaS
open Go.RowKit Go.Proofs Go.Proofs.YtpdnfaggdheneaaW.PrintWords

theorem get_new {n : Nat} {k : Int} (h0 : 0 ≤ k) (h1 : k < n) : (newD n).get k = sec0 := by
  show readL [] k ((List.replicate n sec0).getD k.toNat ByteArray.empty) = sec0
  rw [List.getD_eq_getElem?_getD, List.getElem?_replicate, if_pos (by omega)]
  rfl
theorem start_St {w0 w1 w2 : World} {B D S : Nat} {d : Dsk} (h : At w1 B D S (fun k => k < w0.heap.size) d) (hk : Keep w0 w1 (fun k => k < w0.heap.size)) {e1 e2 : List ByteArray}
    (h2 : w2 = ((w1.alloc (.cells (pw_strs e1).toArray 29)).alloc (.cells (pw_strs e2).toArray 29)).alloc (.map #[] 0)) (ev : Nat → ByteArray → Bool) :
    St w0 w2 B D S w1.heap.size (w1.heap.size + 1) (w1.heap.size + 1 + 1) (fun _ => 0) 0 d e1 e2 ev 1 ∧ Apart w0.heap.size w1.heap.size (w1.heap.size + 1) (w1.heap.size + 1 + 1) (fun _ => 0) 0 := by
  have hs := hk.size
  have z1 : (w1.alloc (.cells (pw_strs e1).toArray 29)).heap.size = w1.heap.size + 1 := by simp
  have z2 : ((w1.alloc (.cells (pw_strs e1).toArray 29)).alloc (.cells (pw_strs e2).toArray 29)).heap.size = w1.heap.size + 1 + 1 := by simp
  have z3 : w2.heap.size = w1.heap.size + 1 + 1 + 1 := by rw [h2]; simp
  have kk : Keep w1 w2 (fun k => k < w1.heap.size) := by
    rw [h2]
    exact (Keep.of_below (below_alloc (below_alloc (below_alloc (Below.refl _ _) _) _) _) (Nat.le_refl _))
  refine ⟨⟨h.grow (ok' := okB w0.heap.size w1.heap.size (w1.heap.size + 1) (w1.heap.size + 1 + 1) (fun _ => 0) 0) (kk.mono (fun k hl _ => hl)) (fun k ho => ?_), ?_, ?_, ⟨fun _ => none, ?_, fun k hk => by omega⟩, fun k hk => by omega, hk.trans (kk.mono (fun k hl _ => hl))⟩, ?_⟩
  · rcases ho with ho | ho | ho | ho | ⟨j, hj, rfl⟩
    · exact .inl ho
    · exact .inr (by omega)
    · exact .inr (by omega)
    · exact .inr (by omega)
    · omega
  · rw [h2, Below.heap_alloc _ _ _ (by simp; omega), Below.heap_alloc _ _ _ (by simp)]
    exact heap_alloc_last w1 _
  · rw [h2, Below.heap_alloc _ _ _ (by simp)]
    have := heap_alloc_last (w1.alloc (.cells (pw_strs e1).toArray 29)) (.cells (pw_strs e2).toArray 29)
    rw [z1] at this
    exact this
  · rw [h2]
    have := TabF.made ((w1.alloc (.cells (pw_strs e1).toArray 29)).alloc (.cells (pw_strs e2).toArray 29))
    rw [z2] at this
    exact this
  · exact ⟨by omega, by omega, by omega, fun k hk => by omega, by omega, by omega, by omega, fun k hk => by omega, fun k hk => by omega, fun k hk => by omega, fun k j hk => by omega⟩
theorem zero9 : #[Value.string { data := #[] }, Value.string { data := #[] }, Value.string { data := #[] }, Value.string { data := #[] }, Value.string { data := #[] }, Value.string { data := #[] }, Value.string { data := #[] }, Value.string { data := #[] }, Value.string { data := #[] }] = (pw_strs (List.replicate 9 ByteArray.empty)).toArray := rfl
theorem infoAct : (Try.prog.info? 36).map (fun i => (i.zero, i.size)) = some (some (.agg #[.int .i64 0, .int .i64 0, .string ⟨#[]⟩, .slice none 0 0]), 4) := by kernel_rfl
theorem actC_one (x : ActR) : (actC x).toArray.all (·.oneCell') = true := by
  rw [List.all_toArray]
  rfl
theorem wpList_load_any {P : Program} {ops : Array Oper} {rest : List Oper} {op : Oper} {a : Act} {w : World} {Q : Exit → Act → World → Prop} (hgd : op.guard = none) (ty : TypeId) (x : Operand) (ho : op.op = .load ty x)
    (p : Addr) (hx : a.eval x = .pointer (some p)) (cs : List Value) (d : TypeDesc) (hc : ∀ j v, cs[j]? = some v → w.cell? (p.add j) = some v)
    (hu : P.underlying ty = some d) (hd : d.isRow = true) (hi : (P.info? ty).map (·.size) = some cs.length)
    (h : wpList P ops Q rest (a.put op.dst (.agg cs.toArray)) w) : wpList P ops Q (op :: rest) a w := by
  have hl : (loadCells p cs.length).run P w = .ok cs.toArray w := run_loadCells_list (P := P) w p cs hc
  have hr : (loadVar ty p).run P w = .ok (.agg cs.toArray) w := by
    cases hq : P.info? ty with
    | none => simp [hq] at hi
    | some i =>
      have hs : i.size = cs.length := by simpa [hq] using hi
      have hagg : (isAgg ty).run P w = .ok true w := by
        unfold isAgg
        rw [Sem.run_bind, run_underlying hu w]
        cases d <;> simp_all
      simp [loadVar, Sem.run_bind, hagg, sizeOf, typeInfo, hq, hs, hl]
  refine wpList_plain hgd fun _ hK => ?_
  unfold Oper.wp execOp
  simp only [ho, hx, Instr.loadAt, Instr.sureAddr, Sem.run_bind, Sem.run_pure, Result.andThen_ok, hr]
  exact hK _ _ h
theorem infoNine : (Try.prog.info? 29).map (·.size) = some 9 := by kernel_rfl
theorem strs_one (l : List ByteArray) : (pw_strs l).toArray.all (·.oneCell') = true := by
  rw [List.all_toArray, List.all_eq_true]
  intro v hv
  obtain ⟨b, _, rfl⟩ := List.mem_map.1 hv
  rfl
theorem Keep.drewN (w : World) (n : Nat) (ok : Nat → Prop) : Keep w (w.drewN n) ok := ⟨rfl, rfl, rfl, Nat.le_refl _, fun _ _ _ => rfl⟩
theorem inv_new {ev : Nat → ByteArray → Bool} (h : ∀ j, j < 9 → ev j sec0 = true) : Inv (newD 9) ev 0 := by
  refine ⟨by simp [newD], fun s hs => ?_, (fun x hx => by cases hx), (fun x hx => by cases hx), fun k hk => ?_, (fun x hx => by cases hx), Nat.le_refl _⟩
  · rw [(List.mem_replicate.1 hs).2, sec0_size]
  · rw [show (newD 9).sure.getD k ByteArray.empty = sec0 from get_new (n := 9) (k := (k : Int)) (by omega) (by omega)]
    exact h k hk
set_option maxRecDepth 100000 in
set_option maxHeartbeats 4000000 in
theorem sure_calls {w : World} {A : Option Addr} {c : Nat} (acts : List ActR) (hA : ActsAt w A acts) (hc : acts.length ≤ c) :
    Calls Try.prog 3 #[.slice A acts.length c] w fun e w' => e = .returned (.bool true) ∧ Below w.heap.size w w' := by
  have HA := Lib.hid hA
  clear hA
  have hmm := @run_makeMap Try.prog
  go_enter Try.func3, Try.ntmps3
  go_wp2_with fail
  refine (awake_calls _).mono ?_
  rintro e w1 ⟨rfl, h1⟩
  have H1 := Lib.hid h1; clear h1
  go_wp2_with fail
  refine (a_new 9 _ (by omega) (by omega)).mono ?_
  rintro e w2 ⟨rfl, h2⟩
  have H2 := Lib.hid (show Aft w1 w1.heap.size (w1.heap.size + 1) w1.heap.size (fun k => k < w1.heap.size) (newD 9) w2 from h2); clear h2
  go_wp2_with fail
  obtain ⟨w3, hw3⟩ : ∃ w3, w3 = ((w2.alloc (.cells (pw_strs (List.replicate 9 ByteArray.empty)).toArray 29)).alloc (.cells (pw_strs (List.replicate 9 ByteArray.empty)).toArray 29)).alloc (.map #[] 0) := ⟨_, rfl⟩
  obtain ⟨st, ap⟩ := start_St (w0 := w) (H2.out.disk.sub (fun k hk => Nat.lt_of_lt_of_le hk H1.out.size)) ((Keep.of_below H1.out (Nat.le_refl _)).trans (H2.out.keep.mono (fun k _ hl => Nat.lt_of_lt_of_le hl H1.out.size))) hw3 (fun _ _ => false)
  rw [zero9, ← hw3]
  clear hw3
  obtain ⟨gs, hgs⟩ : ∃ gs, gs = w2.heap.size := ⟨_, rfl⟩
  rw [← hgs] at st ap ⊢
  obtain ⟨gl, hgl⟩ : ∃ gl, gl = gs + 1 := ⟨_, rfl⟩
  rw [← hgl] at st ap ⊢
  obtain ⟨go, hgo⟩ : ∃ go, go = gl + 1 := ⟨_, rfl⟩
  rw [← hgo] at st ap ⊢
  obtain ⟨D, hD⟩ : ∃ D, D = w1.heap.size + 1 := ⟨_, rfl⟩
  rw [← hD] at st ⊢
  obtain ⟨S, hS⟩ : ∃ S, S = w1.heap.size := ⟨_, rfl⟩
  rw [← hS] at st
  have ST := Lib.hid st
  have AP := Lib.hid ap
  clear hD hS hgs hgl hgo st ap H1 H2
  go_loopw [32] (fun v wr => ∃ (k : Nat) (bl : Nat → Nat) (su la : List ByteArray) (ev : Nat → ByteArray → Bool), v = .int .i64 k ∧ k ≤ 9 ∧ Hid (St w wr S D S gs gl go bl k (newD 9) su la ev 1) ∧ Hid (Apart w.heap.size gs gl go bl k) ∧ Hid (su.length = 9 ∧ la.length = 9 ∧ (∀ j, j < k → su.getD j ByteArray.empty = sec0) ∧ (∀ j, j < k → la.getD j ByteArray.empty = sec0) ∧ ∀ j, j < k → ev j sec0 = true))
    (fun v _ => 9 - (intOf v).toNat)
  case atStart => exact ⟨0, _, _, _, _, rfl, by omega, ST, AP, Lib.hid ⟨by simp, by simp, fun j hj => by omega, fun j hj => by omega, fun j hj => by omega⟩⟩
  case round =>
    clear ST AP
    obtain ⟨k, bl, su, la, ev, rfl, hk, ST, AP, LL⟩ := hrel
    by_cases hk9 : k < 9
    · have dk : decide ((k : Int) < 9) = true := decide_eq_true (by omega)
      go_wp2_with fail
      refine (a_read k ST.out.disk rfl (here_new (by omega) (by omega))).mono ?_
      rw [get_new (n := 9) (by omega) (by omega)]
      rintro e w4 ⟨rfl, h4⟩
      have ST4 := Lib.hid (ST.out.aft h4 (fun _ h => h)); clear h4
      have cs := strs_cell ST4.out.csu (k := k) (by rw [LL.out.1]; exact hk9)
      have cl := strs_cell ST4.out.cla (k := k) (by rw [LL.out.2.1]; exact hk9)
      have hne := AP.out.sl
      obtain ⟨cs1, cs2⟩ := cs
      obtain ⟨cl1, cl2⟩ := cl
      go_upto_region 13 with fail
      obtain ⟨w5, hw5⟩ : ∃ w5, w5 = (w4.setCell ⟨gs, k, none⟩ (.string sec0)).setCell ⟨gl, k, none⟩ (.string sec0) := ⟨_, rfl⟩
      rw [← hw5]
      have ST5 := (ST4.out.setS AP.out k sec0).setL AP.out k sec0
      rw [← hw5] at ST5
      obtain ⟨G, tG, hG⟩ := ST5.tab
      have ST5 := Lib.hid ST5
      have HM := Lib.hid (SetF.made w5)
      have lo := tG.lt
      have HT := Lib.hid (tG.heap (Below.heap_alloc w5 (.map #[] 0) _ lo))
      have HG := Lib.hid hG
      have wk : (Lit.int .i64 (k : Int)).wf = true := WalkArith.wf_i64 (by omega)
      have z0 : sec0.size ≤ maxLen := by rw [sec0_size]; unfold maxLen; decide
      have HLO := Lib.hid lo
      clear hw5 cs1 cs2 cl1 cl2 hne tG hG ST4 lo
      go_wp2_with (first | (refine wpList_add _ rfl (.tmp 49) (.tmp 50) (.const (.bool true)) (.inr rfl) w5.heap.size 0 (fun _ => false) rfl HM.out (by unfold maxLen; decide) sec0 rfl rfl z0 ?_; intro w6 hs6 hg6; have HS6 := Lib.hid hs6; have HG6 := Lib.hid hg6; have HT6 := Lib.hid (HT.out.heap (hg6.block go (by have := HT.out.lt; exact this) (by intro e; injection e with e; have := HLO.out; omega))); clear hs6 hg6) | (at_mapUpdate; refine wpList_put _ rfl (.tmp 47) (.tmp 48) (.tmp 51) rfl go k G rfl HT6.out (by unfold maxLen; omega) (k : Int) w5.heap.size rfl rfl wk ?_; intro w7 ht7 hg7; have HT7 := Lib.hid ht7; have HG7 := Lib.hid hg7; clear ht7 hg7))
      go_roundw
      case rel =>
        have g7 : w7.heap[w5.heap.size]? = w6.heap[w5.heap.size]? := HG7.out.block _ HS6.out.lt (by intro e; injection e with e; have := HLO.out; omega)
        have k5 : Keep w5 w7 (fun j => j < w5.heap.size ∧ j ≠ go) := ((Keep.of_below (below_alloc (Below.refl _ _) (.map #[] 0)) (Nat.le_refl _)).trans ((Keep.of_grown HG6.out).mono (fun j _ h e => by injection e with e; omega))).trans ((Keep.of_grown HG7.out).mono (fun j _ h e => h.2 (by injection e with e; exact e.symm)))
        obtain ⟨n1, n2⟩ := ST5.out.next AP.out rfl HG.out (HS6.out.heap g7) HT7.out (k5.mono (fun j hj h => ⟨hj, h⟩))
        refine ⟨k + 1, _, _, _, _, by go_num, by omega, Lib.hid n1, Lib.hid n2, Lib.hid ⟨by rw [List.length_set]; exact LL.out.1, by rw [List.length_set]; exact LL.out.2.1, fun j hj => ?_, fun j hj => ?_, fun j hj => ?_⟩⟩
        · by_cases e : k = j
          · subst e; exact getD_set_eq (by rw [LL.out.1]; exact hk9) _
          · rw [getD_set_ne e]; exact LL.out.2.2.1 j (by omega)
        · by_cases e : k = j
          · subst e; exact getD_set_eq (by rw [LL.out.2.1]; exact hk9) _
          · rw [getD_set_ne e]; exact LL.out.2.2.2.1 j (by omega)
        · by_cases e : j = k
          · simp only [if_pos e]; simp [addS]
          · simp only [if_neg e]; exact LL.out.2.2.2.2 j (by omega)
      case measure => simp [intOf]; omega
    · have dk : decide ((k : Int) < 9) = false := decide_eq_false (by omega)
      obtain rfl : k = 9 := by omega
      have hsu : su = (newD 9).sure := list_ext9 LL.out.1 (by simp [newD]) (fun j hj => by rw [LL.out.2.2.1 j hj]; exact (get_new (n := 9) (k := (j : Int)) (by omega) (by omega)).symm)
      have hla : la = lastL (newD 9) := list_ext9 LL.out.2.1 (lastL_length _) (fun j hj => by rw [LL.out.2.2.2.1 j hj, lastL_get _ hj, get_new (by omega) (by omega)])
      have hev : ∀ j, j < 9 → ev j sec0 = true := LL.out.2.2.2.2
      subst hsu hla
      have IV := Lib.hid (inv_new hev)
      have ST0 := ST
      have BSD := Lib.hid (show True from trivial)
      clear LL hev ST
      go_wp2_with fail
      rw [show ((9 : Nat) : Int) = 9 from rfl]
      go_loopw [55] (fun v wr => ∃ (j : Nat) (d : Dsk) (ev : Nat → ByteArray → Bool), v = .int .i64 j ∧ j ≤ acts.length ∧ j ≤ 80 ∧ Hid (St w wr S D S gs gl go bl 9 d d.sure (lastL d) ev (1 + j)) ∧ Hid (Inv d ev j))
        (fun v _ => acts.length - (intOf v).toNat)
      case atStart => exact ⟨0, newD 9, ev, rfl, by omega, by omega, ST0, IV⟩
      case round =>
        clear ST0 IV
        obtain ⟨j, d, ev, rfl, hj, hj80, ST, IV⟩ := hrel
        have hlen := HA.out.1
        by_cases hjj : j < acts.length ∧ j ≠ 80
        · obtain ⟨hj1, hj2⟩ := hjj
          have dj : decide ((j : Int) < (acts.length : Int)) = true := decide_eq_true (by omega)
          have d80 : ((j : Int) == 80) = false := by rw [beq_eq_false_iff_ne]; omega
          obtain ⟨ad, rfl, hcs⟩ := HA.out.2.2 j hj1
          obtain ⟨x, hx⟩ : ∃ x, x = acts.getD j ⟨0, 0, ByteArray.empty, none, 0, []⟩ := ⟨_, rfl⟩
          have hxm : ActAt w x := HA.out.2.1 x (by rw [hx, List.getD_eq_getElem?_getD, List.getElem?_eq_getElem hj1]; exact List.getElem_mem _)
          rw [← hx] at hcs
          obtain ⟨what, pos, text, KA, kc, keep⟩ := x
          have hcs' : ∀ q v, (actC ⟨what, pos, text, KA, kc, keep⟩)[q]? = some v → wr.cell? ((ad.add (j * 4)).add q) = some v := fun q v hv => ST.out.keep.cell (hcs q v hv) (World.block_lt_of_cell? w _ (hcs q v hv))
          have HCS := Lib.hid hcs'
          have XM := Lib.hid hxm
          obtain ⟨Z, hZ⟩ : ∃ Z : Array Value, Z = #[.int .i64 0, .int .i64 0, .string ⟨#[]⟩, .slice none 0 0] := ⟨_, rfl⟩
          have hzz : ∀ W : World, (zeroValue 36).run Try.prog W = .ok (.agg Z) W := by rw [hZ]; exact (zero_of_info infoAct).1
          have HZZ := Lib.hid hzz
          have HZS := Lib.hid (show Z.size = 4 by rw [hZ]; rfl)
          clear hcs hcs' hx hxm hZ hzz
          go_upto_region 19 with (first | ((with_reducible refine gate_dst (N := 59) rfl ?_); refine wpList_load_any rfl 36 (.tmp 58) rfl (ad.add (j * 4)) rfl (actC ⟨what, pos, text, KA, kc, keep⟩) _ HCS.out Try.underlying36 rfl ((zero_of_info infoAct).2) ?_) | ((with_reducible refine gate_dst (N := 12) rfl ?_); refine box_event ?hg (N := 12) ?hd (cs := Z) (t := 36) ?hr ?_; (case hd => rfl); (case hg => rfl); (case hr => have hyz := HZZ.out; first | (go_simp; done) | (go_simp; rfl)); intro gb hg w22 hbox hb; have HBX := Lib.hid hbox; have HB := Lib.hid hb; have HG := Lib.hid hg; clear hbox hb hg) | ((with_reducible refine gate_store (t := 36) (p := 12) rfl ?_); refine store_whole rfl 36 (.tmp 12) (.tmp 59) rfl gb (actC ⟨what, pos, text, KA, kc, keep⟩).toArray rfl rfl 36 Z HBX.out ((zero_of_info infoAct).2) HZS.out (actC_one _) ?_; intro w23 hw23 hk23; have HW := Lib.hid hw23; have HK := Lib.hid ((Keep.of_below (ok := fun k => k < wr.heap.size) HB.out (Nat.le_refl _)).trans (hk23.mono (fun k _ h => by rw [HG.out]; omega))); clear hw23 hk23))
          have c0 : w23.cell? ⟨gb, 0, none⟩ = some (.int .i64 what) := (cell_of_row w23 gb 0 _ _ (0, 0) HW.out).trans rfl
          have c1 : w23.cell? ⟨gb, 1, none⟩ = some (.int .i64 pos) := (cell_of_row w23 gb 1 _ _ (0, 0) HW.out).trans rfl
          have c2 : w23.cell? ⟨gb, 2, none⟩ = some (.string text) := (cell_of_row w23 gb 2 _ _ (0, 0) HW.out).trans rfl
          have c3 : w23.cell? ⟨gb, 3, none⟩ = some (.slice KA keep.length kc) := (cell_of_row w23 gb 3 _ _ (0, 0) HW.out).trans rfl
          have S3 := Lib.hid (ST.out.more HK.out)
          have AD : Hid (At w23 S D S (fun k => okB w.heap.size gs gl go bl 9 k ∨ k = gb) d) := Lib.hid (ST.out.disk.grow (HK.out.mono (fun k hl _ => hl)) (fun k ho => by
            rcases ho with ho | rfl
            · exact .inl ho
            · exact .inr ⟨by rw [HG.out]; exact Nat.le_refl _, (Array.getElem?_eq_some_iff.1 HW.out).1⟩))
          have p0 := XM.out.w0
          have p1 := XM.out.w1
          have hd9 := Lib.hid IV.out.nine
          by_cases e0 : what = 0
          · subst e0
            by_cases hcan : d.can = true ∧ d.here pos ∧ text.size ≤ 512
            · obtain ⟨hcn, hin, hsz⟩ := hcan
              have q0 : 0 ≤ pos := hin.1
              have q9 : pos < 9 := by have := hin.2; rw [hd9.out] at this; exact this
              obtain ⟨r, hr⟩ : ∃ r, r = full text := ⟨_, rfl⟩
              have HR := Lib.hid hr
              have hrs : r.size = 512 := by rw [hr]; exact full_size hsz
              have HRS := Lib.hid hrs
              have hgr : (d.wrote pos text).get pos = r := by rw [get_wrote, if_pos rfl, hr]
              have HGR := Lib.hid hgr
              have hoff2 : (d.wrote pos text).off = false := by
                have := can_iff.1 hcn
                show stepOff d.left d.off = false
                rw [this.1]
                simp [stepOff, this.2]
              have HO2 := Lib.hid hoff2
              have HIN := Lib.hid hin
              have HCN := Lib.hid hcn
              clear hr hrs hgr hoff2 hin hcn
              go_wp2_with fail
              refine (a_write pos text AD.out HCN.out HIN.out hsz (by have := IV.out.few; omega)).mono ?_
              rintro e w24 ⟨rfl, h24⟩
              have S4 := Lib.hid (S3.out.aft h24 (fun k hk => .inl hk))
              have A4 := Lib.hid h24.disk
              have hw24 := h24.keep.heap HW.out (.inr rfl)
              have HW4 := Lib.hid hw24
              have d1 : w24.cell? ⟨gb, 1, none⟩ = some (.int .i64 pos) := (cell_of_row w24 gb 1 _ _ (0, 0) hw24).trans rfl
              clear h24 hw24
              go_wp2_with fail
              refine (a_read pos A4.out HO2.out HIN.out).mono ?_
              rw [HGR.out]
              rintro e w25 ⟨rfl, h25⟩
              have S5 := Lib.hid (S4.out.aft h25 (fun k hk => .inl hk))
              have hw25 := h25.keep.heap HW4.out (.inr rfl)
              have HW5 := Lib.hid hw25
              have f1 : w25.cell? ⟨gb, 1, none⟩ = some (.int .i64 pos) := (cell_of_row w25 gb 1 _ _ (0, 0) hw25).trans rfl
              have cl := strs_cell S5.out.cla (k := pos.toNat) (by rw [lastL_length]; omega)
              obtain ⟨cl1, cl2⟩ := cl
              clear h25 hw25 d1 c0 c1 c2 c3
              go_upto_region 25 with fail
              obtain ⟨w26, hw26⟩ : ∃ w26, w26 = w25.setCell ⟨gl, pos.toNat, none⟩ (.string r) := ⟨_, rfl⟩
              rw [← hw26]
              have S6 := S5.out.setL AP.out pos.toNat r
              rw [← hw26] at S6
              have ngl : gb ≠ gl := by have := okB_lt ST.out (k := gl) (.inr (.inr (.inl rfl))); rw [HG.out]; omega
              have hw6 : w26.heap[gb]? = some (.cells (actC ⟨0, pos, text, KA, kc, keep⟩).toArray 36 (0, 0)) := by
                rw [hw26, Below.heap_setCell _ _ _ _ ngl]
                exact HW5.out
              have g1 : w26.cell? ⟨gb, 1, none⟩ = some (.int .i64 pos) := (cell_of_row w26 gb 1 _ _ (0, 0) hw6).trans rfl
              obtain ⟨G, tG, hG⟩ := S6.tab
              have hlk := tG.get pos (WalkArith.wf_i64 (by omega))
              rw [show G pos = some (bl pos.toNat) by have := hG pos.toNat (by omega); rw [Int.toNat_of_nonneg q0] at this; exact this] at hlk
              have HW6 := Lib.hid hw6
              have S6' := Lib.hid S6
              have HS6 := Lib.hid (S6.sets pos.toNat (by omega))
              have NB := Lib.hid (show gb ≠ bl pos.toNat by have := okB_lt ST.out (k := bl pos.toNat) (.inr (.inr (.inr (.inr ⟨pos.toNat, by omega, rfl⟩)))); rw [HG.out]; omega)
              clear hw26 S6 tG hG hw6 ngl cl1 cl2 f1
              go_upto_region 26 with (refine wpList_add _ rfl (.tmp 88) (.tmp 89) (.const (.bool true)) (.inl rfl) (bl pos.toNat) (1 + j) (ev pos.toNat) rfl HS6.out (by unfold maxLen; omega) r rfl rfl (by rw [HRS.out]; unfold maxLen; decide) ?_; intro w27 hs7 hg7; have HS7 := Lib.hid hs7; have HG7 := Lib.hid hg7; clear hs7 hg7)
              have S7 := Lib.hid (S6'.out.add AP.out (k := pos.toNat) (by omega) HS7.out HG7.out)
              have hw7 : w27.heap[gb]? = some (.cells (actC ⟨0, pos, text, KA, kc, keep⟩).toArray 36 (0, 0)) := (HG7.out.block gb (Array.getElem?_eq_some_iff.1 HW6.out).1 (by intro e; injection e with e; exact NB.out e)).trans HW6.out
              have g2 : w27.cell? ⟨gb, 2, none⟩ = some (.string text) := (cell_of_row w27 gb 2 _ _ (0, 0) hw7).trans rfl
              have n512 : ((r.size : Int) != 512) = false := by rw [HRS.out]; rfl
              have l512 : text.size ≤ r.size := by rw [HRS.out]; exact hsz
              have hpre : r.extract 0 text.size = text := by rw [HR.out]; exact full_prefix hsz
              clear hlk g1 hw7
              go_quiet (fail)
              go_wp2
              go_roundw
              case rel =>
                have i2 := IV.out.wrote q0 q9 hsz
                have s8 := S7.out.more (Keep.drewN w27 nq _)
                rw [HR.out, ← lastL_wrote d q0 q9] at s8
                exact ⟨j + 1, d.wrote pos text, addE ev pos.toNat (full text), by go_num, by omega, by omega, Lib.hid (s8.mono (by omega)), Lib.hid i2⟩
              case measure => simp [intOf]; omega
            · by_cases hoff : d.off = true
              · go_wp2_with fail
                refine (a_write_off pos text AD.out hoff).mono ?_
                rintro e w24 ⟨rfl, rfl⟩
                go_wp2
                go_roundw
                case rel => exact ⟨j + 1, d, ev, by go_num, by omega, by omega, Lib.hid (S3.out.mono (by omega)), Lib.hid (IV.out.mono (by omega))⟩
                case measure => simp [intOf]; omega
              · have hoff' : d.off = false := by simpa using hoff
                by_cases hin : d.here pos ∧ text.size ≤ 512
                · have hleft : d.left = 0 := Classical.byContradiction fun hn => hcan ⟨can_iff.2 ⟨hoff', hn⟩, hin⟩
                  clear hcan hoff
                  go_wp2_with fail
                  refine (a_write_dry pos text AD.out hoff' hleft hin.1 hin.2).mono ?_
                  rintro e w24 ⟨rfl, h24⟩
                  have S4 := Lib.hid (S3.out.aft h24 (fun k hk => .inl hk)); clear h24
                  go_wp2
                  go_roundw
                  case rel => exact ⟨j + 1, d.stepped, ev, by go_num, by omega, by omega, Lib.hid (S4.out.mono (by omega)), Lib.hid ((IV.out.same (d' := d.stepped) rfl rfl).mono (by omega))⟩
                  case measure => simp [intOf]; omega
                · clear hcan hoff
                  go_wp2_with fail
                  refine (a_write_out pos text AD.out hoff' hin).mono ?_
                  rintro e w24 ⟨rfl, rfl⟩
                  go_wp2
                  go_roundw
                  case rel => exact ⟨j + 1, d, ev, by go_num, by omega, by omega, Lib.hid (S3.out.mono (by omega)), Lib.hid (IV.out.mono (by omega))⟩
                  case measure => simp [intOf]; omega
          · by_cases e1 : what = 1
            · subst e1
              clear e0
              cases hcan : d.can with
              | false =>
                go_wp2_with fail
                refine (a_flush_dry AD.out hcan).mono ?_
                rintro e w24 ⟨rfl, h24⟩
                have S4 := Lib.hid (S3.out.aft h24 (fun k hk => .inl hk)); clear h24
                go_wp2
                go_roundw
                case rel => exact ⟨j + 1, d.stepped, ev, by go_num, by omega, by omega, Lib.hid (S4.out.mono (by omega)), Lib.hid ((IV.out.same (d' := d.stepped) rfl rfl).mono (by omega))⟩
                case measure => simp [intOf]; omega
              | true =>
                go_wp2_with fail
                refine (a_flush AD.out hcan).mono ?_
                rintro e w24 ⟨rfl, h24⟩
                have S4 := Lib.hid (S3.out.aft h24 (fun k hk => .inl hk)); clear h24
                have RA := Lib.hid (range_heap S4.out.cla)
                have RL := Lib.hid (show (pw_strs (lastL d)).length = 9 by simp [pw_strs, lastL_length])
                have RS := Lib.hid (show (pw_strs d.sure).length = 9 by simp [pw_strs, hd9.out])
                go_wp2_with (first | ((with_reducible refine gate_dst (N := 109) rfl ?_); refine wpList_load_mid rfl 29 (.tmp 6) rfl gl 0 rfl (pw_strs (lastL d)) _ RA.out Try.underlying29 rfl (by rw [RL.out]; exact infoNine) ?_) | ((with_reducible refine gate_store (t := 29) (p := 5) rfl ?_); refine store_whole rfl 29 (.tmp 5) (.tmp 109) rfl gs (pw_strs (lastL d)).toArray rfl rfl 29 _ S4.out.csu (by simp only [List.size_toArray]; rw [RL.out]; exact infoNine) (by simp only [List.size_toArray]; rw [RL.out, RS.out]) (strs_one _) ?_; intro w25 hw25 hk25; have S5 := Lib.hid (S4.out.copy AP.out hw25 hk25); clear hw25 hk25))
                go_roundw
                case rel =>
                  have s8 := S5.out
                  rw [← lastL_flushed IV.out] at s8
                  exact ⟨j + 1, d.flushed, ev, by go_num, by omega, by omega, Lib.hid (by have e := IV.out.flushed_sure; rw [← lastL_flushed IV.out] at e; rw [e]; exact s8.mono (by omega)), Lib.hid (IV.out.flushed.mono (by omega))⟩
                case measure => simp [intOf]; omega
            · by_cases e2 : what = 2
              · subst e2
                clear e0 e1
                go_wp2_with fail
                refine (a_fuel pos AD.out p1).mono ?_
                rintro e w24 ⟨rfl, h24⟩
                have S4 := Lib.hid (S3.out.aft h24 (fun k hk => .inl hk)); clear h24
                go_wp2
                go_roundw
                case rel => exact ⟨j + 1, d.fueled pos, ev, by go_num, by omega, by omega, Lib.hid (S4.out.mono (by omega)), Lib.hid ((IV.out.same (d' := d.fueled pos) rfl rfl).mono (by omega))⟩
                case measure => simp [intOf]; omega
              · by_cases e3 : what = 3
                · subst e3
                  clear e0 e1 e2
                  have hka : KeepAt w23 KA keep S := ⟨XM.out.kl, fun q hq => by
                    obtain ⟨kd, h1, h2⟩ := XM.out.keep q hq
                    have hb := World.block_lt_of_cell? w _ h2
                    rw [add_blk] at hb
                    refine ⟨kd, h1, ?_, S3.out.keep.cell h2 (by show (kd.add q).block < w.heap.size; rw [add_blk]; exact hb)⟩
                    obtain ⟨vw, hdk, hok⟩ := AD.out.ex
                    exact fun e => (hok kd.block (.inl (.inl hb))).2.2.1 e⟩
                  have KA' := Lib.hid hka
                  clear hka
                  go_wp2_with fail
                  refine (a_fall keep AD.out KA'.out).mono ?_
                  rintro e w24 ⟨rfl, h24⟩
                  have S4 := Lib.hid (S3.out.aft h24 (fun k hk => .inl hk)); clear h24
                  have IF := Lib.hid (IV.out.fallen keep)
                  have LF := Lib.hid (lastL_fallen IV.out keep)
                  clear c0 c1 c2 c3
                  go_wp2_with fail
                  go_loopw [122] (fun v wr => ∃ (k : Nat) (su la : List ByteArray), v = .int .i64 k ∧ k ≤ 9 ∧ Hid (St w wr S D S gs gl go bl 9 (d.fallen keep) su la ev (1 + j)) ∧ Hid (su.length = 9 ∧ la.length = 9 ∧ ∀ q, q < k → su.getD q ByteArray.empty = (d.fallen keep).get (q : Int) ∧ la.getD q ByteArray.empty = (d.fallen keep).get (q : Int)))
                    (fun v _ => 9 - (intOf v).toNat)
                  case atStart => exact ⟨0, d.sure, lastL d, rfl, by omega, S4, Lib.hid ⟨hd9.out, lastL_length _, fun q hq => by omega⟩⟩
                  case round =>
                    clear S4
                    obtain ⟨k, su, la, rfl, hk, S4, LL⟩ := hrel
                    by_cases hk9 : k < 9
                    · have dk : decide ((k : Int) < 9) = true := decide_eq_true (by omega)
                      obtain ⟨r, hr⟩ : ∃ r, r = (d.fallen keep).get (k : Int) := ⟨_, rfl⟩
                      have hrs : r.size ≤ maxLen := by rw [hr, IF.out.gsize (by omega) (by omega)]; unfold maxLen; decide
                      have her : ev k r = true := by
                        have e := LF.out
                        rw [hr, ← lastL_get _ hk9, e]
                        exact IF.out.evs k hk9
                      have HER := Lib.hid her
                      have HRS := Lib.hid hrs
                      have HR := Lib.hid hr.symm
                      have HH := Lib.hid (show (d.fallen keep).here (k : Int) from ⟨by omega, by rw [IF.out.nine]; omega⟩)
                      clear hr hrs her
                      go_wp2_with fail
                      refine (a_read (k : Int) S4.out.disk rfl HH.out).mono ?_
                      rw [HR.out]
                      rintro e w25 ⟨rfl, h25⟩
                      have S5 := Lib.hid (S4.out.aft h25 (fun _ h => h)); clear h25
                      obtain ⟨G, tG, hG⟩ := S5.out.tab
                      have hlk := tG.get (k : Int) (WalkArith.wf_i64 (by omega))
                      rw [hG k hk9] at hlk
                      have hls := (S5.out.sets k hk9).has (s := r) HRS.out
                      rw [HER.out] at hls
                      obtain ⟨cs1, cs2⟩ := strs_cell S5.out.csu (k := k) (by rw [LL.out.1]; exact hk9)
                      obtain ⟨cl1, cl2⟩ := strs_cell S5.out.cla (k := k) (by rw [LL.out.2.1]; exact hk9)
                      have hne := AP.out.sl
                      clear tG hG
                      go_wp2
                      go_roundw
                      case rel =>
                        refine ⟨k + 1, su.set k r, la.set k r, by go_num, by omega, Lib.hid ((S5.out.setS AP.out k r).setL AP.out k r), Lib.hid ⟨by rw [List.length_set]; exact LL.out.1, by rw [List.length_set]; exact LL.out.2.1, fun q hq => ?_⟩⟩
                        by_cases e : k = q
                        · subst e
                          rw [getD_set_eq (by rw [LL.out.1]; exact hk9), getD_set_eq (by rw [LL.out.2.1]; exact hk9), HR.out]
                          exact ⟨rfl, rfl⟩
                        · rw [getD_set_ne e, getD_set_ne e]
                          exact LL.out.2.2 q (by omega)
                      case measure => simp [intOf]; omega
                    · have dk : decide ((k : Int) < 9) = false := decide_eq_false (by omega)
                      obtain rfl : k = 9 := by omega
                      have hla : la = lastL (d.fallen keep) := list_ext9 LL.out.2.1 (lastL_length _) (fun q hq => by rw [(LL.out.2.2 q hq).2, lastL_get _ hq])
                      have hsu : su = (d.fallen keep).sure := by
                        rw [← LF.out]
                        exact list_ext9 LL.out.1 (lastL_length _) (fun q hq => by rw [(LL.out.2.2 q hq).1, lastL_get _ hq])
                      rw [hla, hsu] at S4
                      clear hla hsu LL
                      go_wp2
                      go_roundw
                      case rel => exact ⟨j + 1, d.fallen keep, ev, by go_num, by omega, by omega, Lib.hid (S4.out.mono (by omega)), Lib.hid (IF.out.mono (by omega))⟩
                      case measure => simp [intOf]; omega
                · have f0 : (what == 0) = false := by rw [beq_eq_false_iff_ne]; exact e0
                  have f1 : (what == 1) = false := by rw [beq_eq_false_iff_ne]; exact e1
                  have f2 : (what == 2) = false := by rw [beq_eq_false_iff_ne]; exact e2
                  have f3 : (what == 3) = false := by rw [beq_eq_false_iff_ne]; exact e3
                  go_wp2
                  go_roundw
                  case rel => exact ⟨j + 1, d, ev, by go_num, by omega, by omega, Lib.hid (S3.out.mono (by omega)), Lib.hid (IV.out.mono (by omega))⟩
                  case measure => simp [intOf]; omega
        · have hd9 := IV.out.nine
          by_cases hje : j < acts.length
          · have h80 : j = 80 := Classical.byContradiction fun h => hjj ⟨hje, h⟩
            have d80 : ((j : Int) == 80) = true := by rw [beq_iff_eq]; omega
            have H80 := Lib.hid h80
            have hj1 := hje
            clear hjj h80 hje
            have dj : decide ((j : Int) < (acts.length : Int)) = true := decide_eq_true (by omega)
            obtain ⟨ad, rfl, hcs⟩ := HA.out.2.2 j hj1
            obtain ⟨x, hx⟩ : ∃ x, x = acts.getD j ⟨0, 0, ByteArray.empty, none, 0, []⟩ := ⟨_, rfl⟩
            have hxm : ActAt w x := HA.out.2.1 x (by rw [hx, List.getD_eq_getElem?_getD, List.getElem?_eq_getElem hj1]; exact List.getElem_mem _)
            rw [← hx] at hcs
            obtain ⟨what, pos, text, KA, kc, keep⟩ := x
            have hcs' : ∀ q v, (actC ⟨what, pos, text, KA, kc, keep⟩)[q]? = some v → wr.cell? ((ad.add (j * 4)).add q) = some v := fun q v hv => ST.out.keep.cell (hcs q v hv) (World.block_lt_of_cell? w _ (hcs q v hv))
            have HCS := Lib.hid hcs'
            have XM := Lib.hid hxm
            obtain ⟨Z, hZ⟩ : ∃ Z : Array Value, Z = #[.int .i64 0, .int .i64 0, .string ⟨#[]⟩, .slice none 0 0] := ⟨_, rfl⟩
            have hzz : ∀ W : World, (zeroValue 36).run Try.prog W = .ok (.agg Z) W := by rw [hZ]; exact (zero_of_info infoAct).1
            have HZZ := Lib.hid hzz
            have HZS := Lib.hid (show Z.size = 4 by rw [hZ]; rfl)
            clear hcs hcs' hx hxm hZ hzz
            go_wp2_with (first | ((with_reducible refine gate_dst (N := 59) rfl ?_); refine wpList_load_any rfl 36 (.tmp 58) rfl (ad.add (j * 4)) rfl (actC ⟨what, pos, text, KA, kc, keep⟩) _ HCS.out Try.underlying36 rfl ((zero_of_info infoAct).2) ?_) | ((with_reducible refine gate_dst (N := 12) rfl ?_); refine box_event ?hg (N := 12) ?hd (cs := Z) (t := 36) ?hr ?_; (case hd => rfl); (case hg => rfl); (case hr => have hyz := HZZ.out; first | (go_simp; done) | (go_simp; rfl)); intro gb hg w22 hbox hb; have HBX := Lib.hid hbox; have HB := Lib.hid hb; have HG := Lib.hid hg; clear hbox hb hg) | ((with_reducible refine gate_store (t := 36) (p := 12) rfl ?_); refine store_whole rfl 36 (.tmp 12) (.tmp 59) rfl gb (actC ⟨what, pos, text, KA, kc, keep⟩).toArray rfl rfl 36 Z HBX.out ((zero_of_info infoAct).2) HZS.out (actC_one _) ?_; intro w23 hw23 hk23; have HW := Lib.hid hw23; have HK := Lib.hid ((Keep.of_below (ok := fun k => k < wr.heap.size) HB.out (Nat.le_refl _)).trans (hk23.mono (fun k _ h => by rw [HG.out]; omega))); clear hw23 hk23))
            have SX := Lib.hid (ST.out.more HK.out)
            clear ST
            refine (a_fall (A := none) (c := 0) [] SX.out.disk (keepAt_nil _ _)).mono ?_
            rintro e w30 ⟨rfl, h30⟩
            have S30 := Lib.hid (SX.out.aft h30 (fun _ h => h)); clear h30
            have IF := Lib.hid (IV.out.fallen [])
            have LF := Lib.hid ((lastL_fallen IV.out []).trans (fallen_nil d))
            go_wp2_with fail
            go_loopw [151] (fun v wr => ∃ (k : Nat), v = .int .i64 k ∧ k ≤ 9 ∧ Hid (St w wr S D S gs gl go bl 9 (d.fallen []) d.sure (lastL d) ev (1 + j)))
              (fun v _ => 9 - (intOf v).toNat)
            case atStart => exact ⟨0, rfl, by omega, S30⟩
            case round =>
              clear S30
              obtain ⟨k, rfl, hk, S4⟩ := hrel
              by_cases hk9 : k < 9
              · have dk : decide ((k : Int) < 9) = true := decide_eq_true (by omega)
                obtain ⟨r, hr⟩ : ∃ r, r = (d.fallen []).get (k : Int) := ⟨_, rfl⟩
                have her : d.sure.getD k ByteArray.empty = r := by
                  have e := LF.out
                  rw [hr, ← lastL_get _ hk9, e]
                have HER := Lib.hid her
                have HR := Lib.hid hr.symm
                have HH := Lib.hid (show (d.fallen []).here (k : Int) from ⟨by omega, by rw [IF.out.nine]; omega⟩)
                clear hr her
                go_wp2_with fail
                refine (a_read (k : Int) S4.out.disk rfl HH.out).mono ?_
                rw [HR.out]
                rintro e w35 ⟨rfl, h35⟩
                have S5 := Lib.hid (S4.out.aft h35 (fun _ h => h)); clear h35
                obtain ⟨cs1, cs2⟩ := strs_cell S5.out.csu (k := k) (by rw [hd9]; exact hk9)
                rw [HER.out] at cs1
                go_wp2
                go_roundw
                case rel => exact ⟨k + 1, by go_num, by omega, S5⟩
                case measure => simp [intOf]; omega
              · have dk : decide ((k : Int) < 9) = false := decide_eq_false (by omega)
                go_wp2
                go_ret
                exact ⟨rfl, S4.out.keep.below (Nat.le_refl _) (fun _ h => h)⟩
          · have dj : decide ((j : Int) < (acts.length : Int)) = false := decide_eq_false (by omega)
            have SX := ST
            clear hjj ST
            go_wp2_with fail
            refine (a_fall (A := none) (c := 0) [] SX.out.disk (keepAt_nil _ _)).mono ?_
            rintro e w30 ⟨rfl, h30⟩
            have S30 := Lib.hid (SX.out.aft h30 (fun _ h => h)); clear h30
            have IF := Lib.hid (IV.out.fallen [])
            have LF := Lib.hid ((lastL_fallen IV.out []).trans (fallen_nil d))
            go_wp2_with fail
            go_loopw [151] (fun v wr => ∃ (k : Nat), v = .int .i64 k ∧ k ≤ 9 ∧ Hid (St w wr S D S gs gl go bl 9 (d.fallen []) d.sure (lastL d) ev (1 + j)))
              (fun v _ => 9 - (intOf v).toNat)
            case atStart => exact ⟨0, rfl, by omega, S30⟩
            case round =>
              clear S30
              obtain ⟨k, rfl, hk, S4⟩ := hrel
              by_cases hk9 : k < 9
              · have dk : decide ((k : Int) < 9) = true := decide_eq_true (by omega)
                obtain ⟨r, hr⟩ : ∃ r, r = (d.fallen []).get (k : Int) := ⟨_, rfl⟩
                have her : d.sure.getD k ByteArray.empty = r := by
                  have e := LF.out
                  rw [hr, ← lastL_get _ hk9, e]
                have HER := Lib.hid her
                have HR := Lib.hid hr.symm
                have HH := Lib.hid (show (d.fallen []).here (k : Int) from ⟨by omega, by rw [IF.out.nine]; omega⟩)
                clear hr her
                go_wp2_with fail
                refine (a_read (k : Int) S4.out.disk rfl HH.out).mono ?_
                rw [HR.out]
                rintro e w35 ⟨rfl, h35⟩
                have S5 := Lib.hid (S4.out.aft h35 (fun _ h => h)); clear h35
                obtain ⟨cs1, cs2⟩ := strs_cell S5.out.csu (k := k) (by rw [hd9]; exact hk9)
                rw [HER.out] at cs1
                go_wp2
                go_roundw
                case rel => exact ⟨k + 1, by go_num, by omega, S5⟩
                case measure => simp [intOf]; omega
              · have dk : decide ((k : Int) < 9) = false := decide_eq_false (by omega)
                go_wp2
                go_ret
                exact ⟨rfl, S4.out.keep.below (Nat.le_refl _) (fun _ h => h)⟩
#print axioms sure_calls
end Go.Proofs.YtpdnfaggdheneaaS
