/- knots.Knots walked. (Printed by mkKK.py.) -/
import Derived.Test.YtgbeigippahbaaaKW
import Derived.Deep.CutBlock
import Derived.Deep.DeepCutAuto
import Derived.Deep.LoopGhost
namespace Go.Proofs.YtgbeigippahbaaaK
open Go.RowKit Go.Proofs Go.Proofs.YtgbeigippahbaaaW.PrintWords Go.Proofs.YtgbeigippahbaaaW.PrintLast

/-! ### Operations -/
theorem infoBool : (Try.prog.info? 4).map (fun i => (i.zero, i.size, i.bytes)) = some (some (.bool false), 1, 1) := by kernel_rfl
theorem infoFrame : (Try.prog.info? 43).map (fun i => (i.zero, i.size, i.bytes)) = some (some (.agg #[.int .i64 0, .int .i64 0]), 2, 16) := by kernel_rfl
theorem cells_zero (z : Value) (hz : z.cells = #[z]) (n : Nat) : madeCells z.cells (n * 1) = ((List.range n).map (fun _ => z)).toArray := by
  rw [hz]
  apply Array.ext
  · rw [size_madeCells]; simp
  · intro k hk hk'
    simp [madeCells, Nat.mod_one]
theorem make_ints (n : Nat) (hn : n ≤ 100000) (W : World) : (Instr.makeSlice 24 (.int .i64 (n : Int)) (.int .i64 (n : Int))).run Try.prog W = .ok (.slice (some ⟨W.heap.size, 0, none⟩) n n) (W.alloc (.cells (numsC n fun _ => 0).toArray 3)) := by
  obtain ⟨i, hi, hi'⟩ := Option.map_eq_some_iff.1 infoInt
  injection hi' with hz hi'
  injection hi' with hs hb
  have hmk := run_make (P := Try.prog) W 24 3 i _ Try.underlying24 hi hz .i64 .i64 (n : Int) (n : Int) (by omega) (Int.le_refl _) (by rw [hb]; omega) (by omega)
  rw [hs, Int.toNat_natCast, cells_zero _ rfl] at hmk
  exact hmk
theorem make_bools (n : Nat) (hn : n ≤ 100000) (W : World) : (Instr.makeSlice 40 (.int .i64 (n : Int)) (.int .i64 (n : Int))).run Try.prog W = .ok (.slice (some ⟨W.heap.size, 0, none⟩) n n) (W.alloc (.cells (boolsC n fun _ => false).toArray 4)) := by
  obtain ⟨i, hi, hi'⟩ := Option.map_eq_some_iff.1 infoBool
  injection hi' with hz hi'
  injection hi' with hs hb
  have hmk := run_make (P := Try.prog) W 40 4 i _ Try.underlying40 hi hz .i64 .i64 (n : Int) (n : Int) (by omega) (Int.le_refl _) (by rw [hb]; omega) (by omega)
  rw [hs, Int.toNat_natCast, cells_zero _ rfl] at hmk
  exact hmk
theorem foldl_zip : ∀ (l : List Value) (k : Nat) (cs : Array Value), (∀ j, j < l.length → k + j < cs.size) → ((l.zipIdx k).foldl (fun cs x => cs.setIfInBounds x.2 x.1) cs).toList = cs.toList.take k ++ l ++ cs.toList.drop (k + l.length)
  | [], k, cs, _ => by simp
  | v :: l, k, cs, h => by
    have h0 : k < cs.size := h 0 (by simp)
    rw [List.zipIdx_cons, List.foldl_cons, foldl_zip l (k + 1) _ (fun j hj => by have := h (j + 1) (by simp; omega); simp; omega)]
    apply List.ext_getElem
    · simp; omega
    · intro j h1 h2
      simp only [Array.toList_setIfInBounds, List.length_cons]
      by_cases a : j < k
      · rw [List.getElem_append_left (by simp; omega), List.getElem_append_left (by simp; omega), List.getElem_append_left (by simp; omega), List.getElem_append_left (by simp; omega)]
        simp [List.getElem_take, List.getElem_set]
        omega
      · by_cases b : j = k
        · subst b
          rw [List.getElem_append_left (by simp; omega), List.getElem_append_left (by simp; omega), List.getElem_append_left (by simp; omega), List.getElem_append_right (by simp; omega)]
          have e0 : j - min j cs.size = 0 := by omega
          simp [List.getElem_take, e0]
        · by_cases c : j < k + 1 + l.length
          · rw [List.getElem_append_left (by simp; omega), List.getElem_append_right (by simp; omega), List.getElem_append_left (by simp; omega), List.getElem_append_right (by simp; omega)]
            simp only [List.length_take, List.length_set, Array.length_toList]
            rw [List.getElem_cons]
            rw [dif_neg (by omega)]
            congr 1
            omega
          · rw [List.getElem_append_right (by simp; omega), List.getElem_append_right (by simp; omega)]
            simp only [List.getElem_drop, List.length_append, List.length_take, List.length_set, Array.length_toList, List.length_cons]
            rw [List.getElem_set_ne (by omega)]
            congr 1
            omega
set_option maxRecDepth 100000 in
theorem fill_one (n : Nat) (Z : Array Value) (X : List Value) (hZ : Z.size = n) (hX : X.length = n) : Instr.fill (fun i => some (i * n, n)) Z [(0, .agg X.toArray)] = some X.toArray := by
  simp only [Instr.fill, Value.cells, List.size_toArray, Nat.zero_mul, Nat.zero_add]
  rw [if_neg (by simp [hX, hZ])]
  congr 1
  have := foldl_zip X 0 Z (fun j hj => by omega)
  apply Array.ext'
  rw [← Array.foldl_toList]
  simp only [Array.toList_zipIdx]
  rw [this]
  simp [hX, ← hZ]
theorem slice_frame (x y : Nat) (W : World) : (Instr.buildSlice 44 1 #[(0, .agg #[iv x, iv y])]).run Try.prog W = .ok (.slice (some ⟨W.heap.size, 0, none⟩) 1 1) (W.alloc (.cells [iv x, iv y].toArray 43)) := by
  obtain ⟨i0, hi, hz⟩ := Option.map_eq_some_iff.1 infoFrame
  injection hz with hz0 hz
  injection hz with hz1 hz2
  refine run_buildSlice W 44 43 1 _ [iv x, iv y].toArray i0 _ Try.underlying44 hi hz0 (by rw [hz1]; omega) (by rw [hz1]; omega) ?_
  rw [hz1]
  exact fill_one 2 _ [iv x, iv y] (by rw [Array.size_map, Array.size_range]) rfl
/-- Three rows, made in whatever order. -/
structure Three (W W' : World) (n gs gl ge : Nat) : Prop where
  s : W'.heap[gs]? = some (.cells (numsC n fun _ => 0).toArray 3 (0, 0))
  l : W'.heap[gl]? = some (.cells (numsC n fun _ => 0).toArray 3 (0, 0))
  e : W'.heap[ge]? = some (.cells (numsC n fun _ => 0).toArray 3 (0, 0))
  d : gs ≠ gl ∧ gs ≠ ge ∧ gl ≠ ge
  b : W.heap.size ≤ gs ∧ W.heap.size ≤ gl ∧ W.heap.size ≤ ge
  k : Below W.heap.size W W'
theorem three_gen (W : World) (n x y z : Nat) (hx : x = W.heap.size ∨ x = W.heap.size + 1 ∨ x = W.heap.size + 1 + 1) (hy : y = W.heap.size ∨ y = W.heap.size + 1 ∨ y = W.heap.size + 1 + 1) (hz : z = W.heap.size ∨ z = W.heap.size + 1 ∨ z = W.heap.size + 1 + 1) (hd : x ≠ y ∧ x ≠ z ∧ y ≠ z) :
    Three W ((((W.alloc (.cells (numsC n fun _ => 0).toArray 3)).alloc (.cells (numsC n fun _ => 0).toArray 3)).alloc (.cells (numsC n fun _ => 0).toArray 3)).drew) n x y z := by
  obtain ⟨o, ho⟩ : ∃ o, o = Obj.cells (numsC n fun _ => 0).toArray 3 := ⟨_, rfl⟩
  rw [← ho]
  have h1 : ∀ k, k = W.heap.size ∨ k = W.heap.size + 1 ∨ k = W.heap.size + 1 + 1 → ((((W.alloc o).alloc o).alloc o).drew).heap[k]? = some o := fun k hk => by
    have e1 : (W.alloc o).heap.size = W.heap.size + 1 := by simp only [World.alloc, Array.size_push]
    have e2 : ((W.alloc o).alloc o).heap.size = W.heap.size + 1 + 1 := by simp only [World.alloc, Array.size_push]
    show (((W.alloc o).alloc o).alloc o).heap[k]? = some o
    rcases hk with rfl | rfl | rfl
    · rw [Below.heap_alloc _ _ _ (by omega), Below.heap_alloc _ _ _ (by omega)]
      exact heap_alloc_last W o
    · rw [Below.heap_alloc _ _ _ (by omega), ← e1]
      exact heap_alloc_last _ o
    · rw [← e2]
      exact heap_alloc_last _ o
  refine ⟨(h1 x hx).trans (by rw [ho]), (h1 y hy).trans (by rw [ho]), (h1 z hz).trans (by rw [ho]), hd, by omega, ?_⟩
  have hb := below_alloc (below_alloc (below_alloc (Below.refl W.heap.size W) o) o) o
  exact ⟨hb.os, hb.tape, hb.output, hb.size, hb.block⟩
def KnotsEnd (w : World) (n : Nat) (es : List Edge) (e : Ending) (w' : World) : Prop :=
  Below w.heap.size w w' ∧ ∃ g least, e = .returned (.slice (some ⟨g, 0, none⟩) n n) ∧ w'.heap[g]? = some (.cells (numsC n least).toArray 3 (0, 0)) ∧ LeastOK (adjE n es) n least
set_option maxRecDepth 100000 in
set_option maxHeartbeats 4000000 in
theorem knots_calls {w : World} {A : Option Addr} {c : Nat} (n : Nat) (es : List Edge) (hE : EdgesAt w A es) (hn : 1 ≤ n) (hn' : n ≤ 100000) (he : es.length ≤ 1000000) :
    Calls Try.prog 11 #[.int .i64 (n : Int), .slice A es.length c] w (KnotsEnd w n es) := by
  have d0 : decide ((n : Int) < 1) = false := decide_eq_false (by omega)
  have HE := Lib.hid hE
  have HMI := Lib.hid (make_ints n hn')
  have HMB := Lib.hid (make_bools n hn')
  clear hE
  go_enter Try.func11, Try.ntmps11
  go_upto_region 4 with (go_at_call 14; refine (next_calls n es HE.out hn hn' he).mono ?_; rintro e w1 ⟨g0, rfl, ho, hb⟩; have HO1 := Lib.hid ho; have HB1 := Lib.hid hb; clear ho hb)
  go_cut [6, 7, 8] (fun s l e wx => ∃ gs gl ge, s = .slice (some ⟨gs, 0, none⟩) n n ∧ l = .slice (some ⟨gl, 0, none⟩) n n ∧ e = .slice (some ⟨ge, 0, none⟩) n n ∧ Hid (Three w1 wx n gs gl ge))
  case first =>
    have hmi := HMI.out
    go_region
    all_goals
      go_wp2_with fail
      go_meet
      case rel => exact ⟨_, _, _, rfl, rfl, rfl, Lib.hid (three_gen w1 n _ _ _ (by omega) (by omega) (by omega) (by omega))⟩
  case rest =>
    obtain ⟨gs, gl, ge, rfl, rfl, rfl, H3⟩ := hcut
    have hmb := HMB.out
    go_wp2_with fail
    obtain ⟨adj, hadj⟩ : ∃ adj, adj = adjE n es := ⟨_, rfl⟩
    have HADJ := Lib.hid hadj
    have hal : ∀ v u, v < n → u ∈ adj v → u < n := fun v u _ hu => by rw [hadj] at hu; exact adjE_lt hu
    have hlen : ∀ v, (adj v).length ≤ 1000000 := fun v => by rw [hadj]; exact Nat.le_trans (adjE_len n es v) he
    have AL := Lib.hid hal
    have ALEN := Lib.hid hlen
    obtain ⟨gp, hgp⟩ : ∃ gp, gp = wc.heap.size := ⟨_, rfl⟩
    have kw0 : KW (wc.alloc (.cells (boolsC n fun _ => false).toArray 4)) (⟨w1.heap.size, g0, gs, gl, ge, gp⟩ : Bl) n adj t0 (.slice none 0 0) (.slice none 0 0) := by
      have h3 := H3.out
      have l1 := (Array.getElem?_eq_some_iff.1 h3.s).1
      have l2 := (Array.getElem?_eq_some_iff.1 h3.l).1
      have l3 := (Array.getElem?_eq_some_iff.1 h3.e).1
      have hk : Keep wc (wc.alloc (.cells (boolsC n fun _ => false).toArray 4)) (fun k => k < wc.heap.size) := Keep.of_below (below_alloc (Below.refl _ _) _) (Nat.le_refl _)
      refine ⟨⟨h3.d.1, h3.d.2.1, ?_, h3.d.2.2, ?_, ?_, h3.b.1, h3.b.2.1, h3.b.2.2, ?_⟩, ?_, Nat.le_trans h3.k.size hk.size, hk.heap h3.s l1, hk.heap h3.l l2, hk.heap h3.e l3, ?_, World.ownsRow_nil _ _ _ _, World.ownsRow_nil _ _ _ _, fun k e => (by cases e), fun k e => (by cases e), fun k e => (by cases e)⟩
      · show gs ≠ gp; omega
      · show gl ≠ gp; omega
      · show ge ≠ gp; omega
      · show w1.heap.size ≤ gp; rw [hgp]; exact h3.k.size
      · rw [hadj]
        exact (HO1.out.below h3.k).keep hk (fun k hlt => Nat.lt_of_lt_of_le hlt h3.k.size)
      · show (wc.alloc _).heap[gp]? = _
        rw [hgp]
        exact heap_alloc_last wc _
    have KW0 := Lib.hid kw0
    have BE0 := Lib.hid (show Below w.heap.size w (wc.alloc (.cells (boolsC n fun _ => false).toArray 4)) from below_alloc ((HB1.out.trans (H3.out.k.mono HB1.out.size))) _)
    have HLT := Lib.hid (show w.heap.size ≤ w1.heap.size from HB1.out.size)
    rw [← hgp]
    clear hgp kw0 hadj hal hlen hmb H3 HO1 HB1
    go_loopw [10, 11, 38] (fun vs cnt v wr => ∃ (r : Nat) (t : T), v = .int .i64 (r : Int) ∧ cnt = .int .i64 (t.count : Int) ∧ r ≤ n ∧ Hid (KW wr (⟨w1.heap.size, g0, gs, gl, ge, gp⟩ : Bl) n adj t vs (.slice none 0 0)) ∧ Hid (Core adj n t [] none ∧ Side n t ∧ t.work = [] ∧ ∀ u, u < r → 0 < t.seen u) ∧ Hid (Below w.heap.size w wr))
      (fun _ _ v _ => n - (intOf v).toNat)
    case atStart => exact ⟨0, t0, rfl, rfl, by omega, KW0, Lib.hid ⟨core0, side0, rfl, fun u hu => by omega⟩, BE0⟩
    case round =>
      obtain ⟨r, t, rfl, rfl, hr, K0, P0, B0⟩ := hrel
      by_cases hrn : r < n
      · have dr : decide ((r : Int) < (n : Int)) = true := decide_eq_true (by omega)
        have hwr : IntKind.i64.wrap ((r : Int) + 1) = ((r + 1 : Nat) : Int) := by rw [IntWalk.i64_in _ (by omega)]; rfl
        by_cases hs : t.seen r = 0
        · have cs : wr.cell? ⟨gs, r, none⟩ = some (.int .i64 0) := by have := numsC_at K0.out.seen hrn; rw [hs] at this; exact this
          go_wp2_with fail
          have kw1 : KW (wr.alloc (.cells #[.int .i64 (r : Int), .int .i64 0] 43)) (⟨w1.heap.size, g0, gs, gl, ge, gp⟩ : Bl) n adj { t with work := [(r, 0)] } u10 (.slice (some ⟨wr.heap.size, 0, none⟩) 1 1) := by
            refine (K0.out.more (Keep.of_below (below_alloc (Below.refl wr.heap.size wr) (.cells #[.int .i64 (r : Int), .int .i64 0] 43)) (Nat.le_refl _))).newW ?_ (K0.out.fresh (Nat.le_refl _)) (fun e => ?_)
            · exact World.ownsRow_lit (size := 2) wr #[iv r, iv 0] 1 K0.out.sz (by decide) rfl
            · exact Nat.lt_irrefl _ (own_lt' K0.out.stk e)
          have P1 := root_start P0.out.1 P0.out.2.1 hrn hs
          have MM := Lib.hid (show ∀ u, u < r → 0 < t.seen u from P0.out.2.2.2)
          have KW1 := Lib.hid kw1
          have PA1 := Lib.hid P1.1
          have PS1 := Lib.hid P1.2
          have BE1 := Lib.hid (show Below w.heap.size w (wr.alloc (.cells #[.int .i64 (r : Int), .int .i64 0] 43)) from below_alloc B0.out _)
          clear kw1 P1 K0 P0 B0 hs cs
          go_loopg [10, 11, 13] (mu adj n { t with work := [(r, 0)] }) (fun kq vs cnt vw wr => ∃ t : T, cnt = .int .i64 (t.count : Int) ∧ Aside0 (kq = mu adj n t) ∧ Hid (KW wr (⟨w1.heap.size, g0, gs, gl, ge, gp⟩ : Bl) n adj t vs vw) ∧ Hid (PhA adj n t) ∧ Hid (Side n t) ∧ Hid (∀ u, u < r → 0 < t.seen u) ∧ Hid (0 < t.seen r ∨ t.work = [(r, 0)]) ∧ Hid (Below w.heap.size w wr))
          case atStart => exact ⟨{ t with work := [(r, 0)] }, rfl, ⟨rfl⟩, KW1, PA1, PS1, MM, Lib.hid (.inr rfl), BE1⟩
          case round =>
            clear KW1 PA1 PS1 MM BE1
            obtain ⟨t, rfl, GK, K1, A1, S1, M1, R1, B1⟩ := hrel
            by_cases hwk : t.work = []
            · as_aux_lemma =>
              obtain ⟨A0, c0, rfl⟩ : ∃ A0 c0, u13 = .slice A0 0 c0 := by
                have hl : t.work.length = 0 := by rw [hwk]; rfl
                rcases K1.out.wrk.2 with ⟨e, _⟩ | ⟨g', cap', cur, hv, _⟩
                · exact ⟨_, _, e⟩
                · exact ⟨_, _, by rw [hv, hl]⟩
              have hA := A1.out
              unfold PhA at hA
              rw [hwk] at hA
              have hR := R1.out
              rw [hwk] at hR
              have HK := Lib.hid (show KW wr (⟨w1.heap.size, g0, gs, gl, ge, gp⟩ : Bl) n adj t u10 (.slice none 0 0) by
                have h1 := K1.out.noW
                have e : ({ t with work := [] } : T) = t := by rw [← hwk]
                rw [e] at h1
                exact h1)
              have HP := Lib.hid (show Core adj n t [] none ∧ Side n t ∧ t.work = [] ∧ ∀ u, u < r + 1 → 0 < t.seen u from ⟨hA, S1.out, hwk, fun u hu => by
                rcases Nat.lt_succ_iff_lt_or_eq.1 hu with h | rfl
                · exact M1.out u h
                · rcases hR with h | h
                  · exact h
                  · cases h⟩)
              clear hA hR hwk K1 A1 S1 M1 R1 GK
              go_wp2_with fail
              go_roundw
              case rel => exact ⟨r + 1, t, (by first | trivial | go_num), (by trivial), by omega, HK, HP, B1⟩
              case measure => simp [intOf]; omega
            · obtain ⟨⟨v, i⟩, W, hw⟩ : ∃ x W, t.work = x :: W := by
                cases h : t.work with
                | nil => exact absurd h hwk
                | cons x W => exact ⟨x, W, rfl⟩
              obtain ⟨g, cw, L, m, hL, hm, rfl, c0, c1, hof, hgN, hvs, hfr⟩ := K1.out.top' hw
              obtain ⟨hvn, hil, hi0, hi1⟩ := A1.out.top hw
              have hm1 : m ≤ 100001 := by
                have h1 := S1.out.wk
                have h2 := S1.out.count_le
                rw [hw] at h1
                simp only [List.length_cons] at h1
                omega
              have m0 : 0 < m := by omega
              have Lm : L < m := by omega
              have hmw : IntKind.i64.wrap ((m : Int) - 1) = (L : Int) := by rw [IntWalk.i64_in _ (by omega)]; omega
              have HL := Lib.hid hL
              have HM := Lib.hid hm
              have HV := Lib.hid hvn
              have HI := Lib.hid hil
              have HI0 := Lib.hid hi0
              have HI1 := Lib.hid hi1
              have HOF := Lib.hid hof
              have HW := Lib.hid hw
              have HVS := Lib.hid hvs
              have HFR := Lib.hid hfr
              clear hL hm hil hi0 hi1 hof hvs hfr hwk hw hgN
              go_upto_if 65 with fail
              go_cut [10, 11] (fun vs cnt wx => cnt = .int .i64 ((enter adj v i t).count : Int) ∧ Hid (KW wx (⟨w1.heap.size, g0, gs, gl, ge, gp⟩ : Bl) n adj (enter adj v i t) vs (.slice (some ⟨g, 0, none⟩) m cw)) ∧ Hid (Below w.heap.size w wx))
              case first =>
                by_cases hi : i = 0
                · as_aux_lemma =>
                  subst hi
                  obtain ⟨k, hk⟩ : ∃ k, k = t.count + 1 := ⟨_, rfl⟩
                  have hkn : t.count ≤ n := S1.out.count_le
                  have hwc : IntKind.i64.wrap ((t.count : Int) + 1) = (k : Int) := by rw [IntWalk.i64_in _ (by omega)]; omega
                  have ca := numsC_at K1.out.seen hvn
                  have cb := numsC_at K1.out.low hvn
                  have fa := frozen_at (v := v) K1.out.seen
                  have fb := frozen_at (v := v) K1.out.low
                  have nsl : gs ≠ gl := K1.out.bl.sl
                  have hst : t.stack.length ≤ 100000 := Nat.le_trans S1.out.stk (Nat.le_trans hkn hn')
                  obtain ⟨x, hx⟩ : ∃ x, x = t.seen v := ⟨_, rfl⟩
                  obtain ⟨y, hy⟩ : ∃ y, y = t.low v := ⟨_, rfl⟩
                  rw [← hx] at ca
                  rw [← hy] at cb
                  have ca' : wr.cell? ⟨gs, v, none⟩ = some (.int .i64 (x : Int)) := ca
                  have cb' : wr.cell? ⟨gl, v, none⟩ = some (.int .i64 (y : Int)) := cb
                  have fa' : wr.frozen? ⟨gs, v, none⟩ = false := fa
                  have fb' : wr.frozen? ⟨gl, v, none⟩ = false := fb
                  have K2 := Lib.hid ((K1.out.setSeen v k).setLow v k)
                  have B2 := Lib.hid (show Below w.heap.size w ((wr.setCell ⟨gs, v, none⟩ (iv k)).setCell ⟨gl, v, none⟩ (iv k)) from bput (bput B1.out (Nat.le_trans HLT.out K1.out.bl.bs)) (Nat.le_trans HLT.out K1.out.bl.bl))
                  have SZ2 := Lib.hid (show wr.heap.size = ((wr.setCell ⟨gs, v, none⟩ (iv k)).setCell ⟨gl, v, none⟩ (iv k)).heap.size by simp [World.setCell])
                  have HK := Lib.hid hk
                  have HST := Lib.hid hst
                  clear ca cb fa fb hx hy hk hst hkn
                  go_wp2_with (first | ((with_reducible refine gate_dst (N := 79) rfl ?_); refine print_append_cells (w0 := (wr.setCell ⟨gs, v, none⟩ (iv k)).setCell ⟨gl, v, none⟩ (iv k)) (W := (wr.setCell ⟨gs, v, none⟩ (iv k)).setCell ⟨gl, v, none⟩ (iv k)) w1.heap.size rfl (.tmp 76) (.tmp 78) 24 3 _ 1 8 rfl Try.underlying24 infoInt rfl (by decide) (by decide) u10 t.stack.length (t.stack.map iv) [iv v] rfl (congrArg (fun q => Value.slice (some ⟨q, 0, none⟩) 1 1) SZ2.out) rfl (by simp [Value.oneCell']) K2.out.stk (Below.refl _ _) K2.out.sz (by have := HST.out; omega) ?_; intro v1 w6 hown hbe hg hat; have K3 := Lib.hid (K2.out.push (v := v) hown hg hat); have B3 := Lib.hid (bgrown B2.out hg (fun k e => Nat.le_trans HLT.out (own_base K2.out.stk k e))); have cp := boolsC_at K3.out.opn hvn; have fp := frozen_at (v := v) K3.out.opn; obtain ⟨bo, hbo⟩ : ∃ bo, bo = t.opn v := ⟨_, rfl⟩; replace cp : w6.cell? ⟨gp, v, none⟩ = some (.bool bo) := (by rw [hbo]; exact cp); replace fp : w6.frozen? ⟨gp, v, none⟩ = false := fp; clear hown hbe hg hat hbo))
                  go_meet
                  case rel =>
                    refine ⟨by rw [HK.out]; rfl, Lib.hid ?_, Lib.hid (bput B3.out (Nat.le_trans HLT.out K1.out.bl.bp))⟩
                    show KW _ _ n adj (visit v t) _ _
                    have h := (K3.out.setOpen v true).cnt k
                    rw [HK.out] at h
                    exact h
                · as_aux_lemma =>
                  obtain ⟨q, hq⟩ : ∃ q, i = q + 1 := ⟨i - 1, by omega⟩
                  have i0 : 0 < i := by omega
                  obtain ⟨Ad, ca, hrow, hcap, hel⟩ := K1.out.out.row v hvn
                  have hql : q < (adj v).length := by have := HI.out; omega
                  obtain ⟨ga, rfl, hgaN, hcu⟩ := hel q hql
                  obtain ⟨u, hu⟩ : ∃ u, u = (adj v).getD q 0 := ⟨_, rfl⟩
                  have hun : u < n := by rw [hu]; exact AL.out v _ hvn (getD_mem hql)
                  have hEN : enter adj v i t = account v u t := by rw [enter, if_neg hi, show i - 1 = q by omega, ← hu]
                  rw [← hu] at hcu
                  have hlm := ALEN.out v
                  obtain ⟨ln, hln⟩ : ∃ ln, ln = (adj v).length := ⟨_, rfl⟩
                  rw [← hln] at hrow hql hlm
                  have hqw : IntKind.i64.wrap ((i : Int) - 1) = (q : Int) := by rw [IntWalk.i64_in _ (by omega)]; omega
                  have HEN := Lib.hid hEN
                  have HROW := Lib.hid (show wr.cell? ⟨g0, v, none⟩ = some (.slice (some ⟨ga, 0, none⟩) ln ca) from hrow)
                  have HCU := Lib.hid (show wr.cell? ⟨ga, q, none⟩ = some (.int .i64 (u : Int)) from hcu)
                  clear hi hq hcap hel hgaN hu hEN hlm hln hrow hcu
                  go_upto_region 21 with fail
                  obtain ⟨w5, hw5⟩ : ∃ w5, w5 = wr.drew := ⟨_, rfl⟩
                  have A0 := Lib.hid (show w5.cell? ⟨g0, v, none⟩ = some (.slice (some ⟨ga, 0, none⟩) ln ca) by rw [hw5]; exact HROW.out)
                  have A1 := Lib.hid (show w5.cell? ⟨g, L * 2 + 1, none⟩ = some (.int .i64 (i : Int)) by rw [hw5]; exact c1)
                  have A2 := Lib.hid (show w5.cell? ⟨ga, q, none⟩ = some (.int .i64 (u : Int)) by rw [hw5]; exact HCU.out)
                  have K5 := Lib.hid (show KW w5 (⟨w1.heap.size, g0, gs, gl, ge, gp⟩ : Bl) n adj t u10 (.slice (some ⟨g, 0, none⟩) m cw) by rw [hw5]; exact K1.out.drew)
                  have B5 := Lib.hid (show Below w.heap.size w w5 by rw [hw5]; exact bdrew B1.out)
                  have HW5 := Lib.hid hw5
                  clear hw5
                  refine start_ (n := 12) (S := fun w' => w'.cell? ⟨g0, v, none⟩ = some (.slice (some ⟨ga, 0, none⟩) ln ca) ∧ w'.cell? ⟨g, L * 2 + 1, none⟩ = some (.int .i64 (i : Int)) ∧ w'.cell? ⟨ga, q, none⟩ = some (.int .i64 (u : Int))) (ds := []) #[false, false, false, false, false, false, false, false, false, false, false, false] (by kernel_rfl) rfl rfl ⟨(by rw [← HW5.out]; exact A0.out), (by rw [← HW5.out]; exact A1.out), (by rw [← HW5.out]; exact A2.out)⟩ (fun hHeld => ?_)
                  rw [← HW5.out] at hHeld ⊢
                  refine pure_ (i := 0) (N := some 83) (v := ?_) (a' := ?_) #[true, false, false, false, false, false, false, false, false, false, false, false] rfl rfl (by kernel_rfl) (fun _ _ _ h => h) (Or.inl ⟨by rfl, ?_⟩) ?_ ?_
                  rotate_left
                  · intro w'
                    go_simp
                    with_reducible rfl
                  rotate_left
                  · simp only [Act.put, List.setIfInBounds_toArray, List.set_cons_zero, List.set_cons_succ]
                    rfl
                  refine pure_ (i := 1) (N := some 84) (v := ?_) (a' := ?_) #[true, true, false, false, false, false, false, false, false, false, false, false] rfl rfl (by kernel_rfl) (fun _ _ _ h => h) (Or.inl ⟨by rfl, ?_⟩) ?_ ?_
                  rotate_left
                  · intro w'
                    go_simp
                    with_reducible rfl
                  rotate_left
                  · simp only [Act.put, List.setIfInBounds_toArray, List.set_cons_zero, List.set_cons_succ]
                    rfl
                  refine pure_ (i := 2) (N := some 85) (v := ?_) (a' := ?_) #[true, true, true, false, false, false, false, false, false, false, false, false] rfl rfl (by kernel_rfl) (fun _ _ _ h => h) (Or.inl ⟨by rfl, ?_⟩) ?_ ?_
                  rotate_left
                  · intro w'
                    go_simp
                    with_reducible rfl
                  rotate_left
                  · simp only [Act.put, List.setIfInBounds_toArray, List.set_cons_zero, List.set_cons_succ]
                    rfl
                  refine pure_ (i := 4) (N := some 87) (v := ?_) (a' := ?_) #[true, true, true, false, true, false, false, false, false, false, false, false] rfl rfl (by kernel_rfl) (fun _ _ _ h => h) (Or.inl ⟨by rfl, ?_⟩) ?_ ?_
                  rotate_left
                  · intro w'
                    go_simp
                    with_reducible rfl
                  rotate_left
                  · simp only [Act.put, List.setIfInBounds_toArray, List.set_cons_zero, List.set_cons_succ]
                    rfl
                  refine pure_ (i := 5) (N := some 88) (v := ?_) (a' := ?_) #[true, true, true, false, true, true, false, false, false, false, false, false] rfl rfl (by kernel_rfl) (fun _ _ _ h => h) (Or.inl ⟨by rfl, ?_⟩) ?_ ?_
                  rotate_left
                  · intro w'
                    go_simp
                    with_reducible rfl
                  rotate_left
                  · simp only [Act.put, List.setIfInBounds_toArray, List.set_cons_zero, List.set_cons_succ]
                    rfl
                  refine pure_ (i := 6) (N := some 89) (v := ?_) (a' := ?_) #[true, true, true, false, true, true, true, false, false, false, false, false] rfl rfl (by kernel_rfl) (fun _ _ _ h => h) (Or.inl ⟨by rfl, ?_⟩) ?_ ?_
                  rotate_left
                  · intro w'
                    go_simp
                    with_reducible rfl
                  rotate_left
                  · simp only [Act.put, List.setIfInBounds_toArray, List.set_cons_zero, List.set_cons_succ]
                    rfl
                  refine take_ (i := 3) (N := some 86) (v := ?_) (a' := ?_) #[true, true, true, true, true, true, true, false, false, false, false, false] rfl rfl (by kernel_rfl) (fun _ _ _ h => h) (Or.inl ⟨by rfl, ?_⟩) hHeld ?_ ?_
                  rotate_left
                  · rintro w' ⟨s0, s1, s2⟩
                    go_simp
                    with_reducible rfl
                  rotate_left
                  · simp only [Act.put, List.setIfInBounds_toArray, List.set_cons_zero, List.set_cons_succ]
                    rfl
                  refine take_ (i := 7) (N := some 90) (v := ?_) (a' := ?_) #[true, true, true, true, true, true, true, true, false, false, false, false] rfl rfl (by kernel_rfl) (fun _ _ _ h => h) (Or.inl ⟨by rfl, ?_⟩) hHeld ?_ ?_
                  rotate_left
                  · rintro w' ⟨s0, s1, s2⟩
                    go_simp
                    with_reducible rfl
                  rotate_left
                  · simp only [Act.put, List.setIfInBounds_toArray, List.set_cons_zero, List.set_cons_succ]
                    rfl
                  refine pure_ (i := 8) (N := some 91) (v := ?_) (a' := ?_) #[true, true, true, true, true, true, true, true, true, false, false, false] rfl rfl (by kernel_rfl) (fun _ _ _ h => h) (Or.inl ⟨by rfl, ?_⟩) ?_ ?_
                  rotate_left
                  · intro w'
                    go_simp
                    with_reducible rfl
                  rotate_left
                  · simp only [Act.put, List.setIfInBounds_toArray, List.set_cons_zero, List.set_cons_succ]
                    rfl
                  refine pure_ (i := 9) (N := some 92) (v := ?_) (a' := ?_) #[true, true, true, true, true, true, true, true, true, true, false, false] rfl rfl (by kernel_rfl) (fun _ _ _ h => h) (Or.inl ⟨by rfl, ?_⟩) ?_ ?_
                  rotate_left
                  · intro w'
                    go_simp
                    with_reducible rfl
                  rotate_left
                  · simp only [Act.put, List.setIfInBounds_toArray, List.set_cons_zero, List.set_cons_succ]
                    rfl
                  refine take_ (i := 10) (N := some 93) (v := ?_) (a' := ?_) #[true, true, true, true, true, true, true, true, true, true, true, false] rfl rfl (by kernel_rfl) (fun _ _ _ h => h) (Or.inl ⟨by rfl, ?_⟩) hHeld ?_ ?_
                  rotate_left
                  · rintro w' ⟨s0, s1, s2⟩
                    go_simp
                    with_reducible rfl
                  rotate_left
                  · simp only [Act.put, List.setIfInBounds_toArray, List.set_cons_zero, List.set_cons_succ]
                    rfl
                  refine pure_ (i := 11) (N := some 16) (v := ?_) (a' := ?_) #[true, true, true, true, true, true, true, true, true, true, true, true] rfl rfl (by kernel_rfl) (fun _ _ _ h => h) (Or.inl ⟨by rfl, ?_⟩) ?_ ?_
                  rotate_left
                  · intro w'
                    go_simp
                    with_reducible rfl
                  rotate_left
                  · simp only [Act.put, List.setIfInBounds_toArray, List.set_cons_zero, List.set_cons_succ]
                    rfl
                  refine done_ (by kernel_rfl) ?_

                  by_cases ho : t.opn u = true
                  · have cO : w5.cell? ⟨gp, u, none⟩ = some (.bool true) := by have := boolsC_at K5.out.opn hun; rw [ho] at this; exact this
                    have HO := Lib.hid ho
                    clear ho
                    go_upto_region 23 with fail
                    clear cO
                    obtain ⟨w7, hw7⟩ : ∃ w7, w7 = w5.drew := ⟨_, rfl⟩
                    obtain ⟨lx, hlx⟩ : ∃ lx : Int, lx = (t.low v : Int) := ⟨_, rfl⟩
                    obtain ⟨ly, hly⟩ : ∃ ly : Int, ly = (t.low u : Int) := ⟨_, rfl⟩
                    have K7 := Lib.hid (show KW w7 (⟨w1.heap.size, g0, gs, gl, ge, gp⟩ : Bl) n adj t u10 (.slice (some ⟨g, 0, none⟩) m cw) by rw [hw7]; exact K5.out.drew)
                    have B7 := Lib.hid (show Below w.heap.size w w7 by rw [hw7]; exact bdrew B5.out)
                    have D0 := Lib.hid (show w7.cell? ⟨gl, v, none⟩ = some (.int .i64 lx) by rw [hlx]; exact numsC_at K7.out.low hvn)
                    have D1 := Lib.hid (show w7.cell? ⟨gl, u, none⟩ = some (.int .i64 ly) by rw [hly]; exact numsC_at K7.out.low hun)
                    have f7 : w7.frozen? ⟨gl, v, none⟩ = false := frozen_at K7.out.low
                    have HLX := Lib.hid hlx
                    have HLY := Lib.hid hly
                    have HW7 := Lib.hid hw7
                    clear hw7 hlx hly
                    refine start_ (n := 13) (S := fun w' => w'.cell? ⟨gl, v, none⟩ = some (.int .i64 lx) ∧ w'.cell? ⟨gl, u, none⟩ = some (.int .i64 ly)) (ds := [12]) #[false, false, false, false, false, false, false, false, false, false, false, false, false] (by kernel_rfl) rfl rfl ⟨(by rw [← HW7.out]; exact D0.out), (by rw [← HW7.out]; exact D1.out)⟩ (fun hHeld => ?_)
                    rw [← HW7.out] at hHeld ⊢
                    refine pure_ (i := 0) (N := some 98) (v := ?_) (a' := ?_) #[true, false, false, false, false, false, false, false, false, false, false, false, false] rfl rfl (by kernel_rfl) (fun _ _ _ h => h) (Or.inl ⟨by rfl, ?_⟩) ?_ ?_
                    rotate_left
                    · intro w'
                      go_simp
                      with_reducible rfl
                    rotate_left
                    · simp only [Act.put, List.setIfInBounds_toArray, List.set_cons_zero, List.set_cons_succ]
                      rfl
                    refine pure_ (i := 1) (N := some 99) (v := ?_) (a' := ?_) #[true, true, false, false, false, false, false, false, false, false, false, false, false] rfl rfl (by kernel_rfl) (fun _ _ _ h => h) (Or.inl ⟨by rfl, ?_⟩) ?_ ?_
                    rotate_left
                    · intro w'
                      go_simp
                      with_reducible rfl
                    rotate_left
                    · simp only [Act.put, List.setIfInBounds_toArray, List.set_cons_zero, List.set_cons_succ]
                      rfl
                    refine pure_ (i := 2) (N := some 100) (v := ?_) (a' := ?_) #[true, true, true, false, false, false, false, false, false, false, false, false, false] rfl rfl (by kernel_rfl) (fun _ _ _ h => h) (Or.inl ⟨by rfl, ?_⟩) ?_ ?_
                    rotate_left
                    · intro w'
                      go_simp
                      with_reducible rfl
                    rotate_left
                    · simp only [Act.put, List.setIfInBounds_toArray, List.set_cons_zero, List.set_cons_succ]
                      rfl
                    refine pure_ (i := 3) (N := some 101) (v := ?_) (a' := ?_) #[true, true, true, true, false, false, false, false, false, false, false, false, false] rfl rfl (by kernel_rfl) (fun _ _ _ h => h) (Or.inl ⟨by rfl, ?_⟩) ?_ ?_
                    rotate_left
                    · intro w'
                      go_simp
                      with_reducible rfl
                    rotate_left
                    · simp only [Act.put, List.setIfInBounds_toArray, List.set_cons_zero, List.set_cons_succ]
                      rfl
                    refine pure_ (i := 4) (N := some 102) (v := ?_) (a' := ?_) #[true, true, true, true, true, false, false, false, false, false, false, false, false] rfl rfl (by kernel_rfl) (fun _ _ _ h => h) (Or.inl ⟨by rfl, ?_⟩) ?_ ?_
                    rotate_left
                    · intro w'
                      go_simp
                      with_reducible rfl
                    rotate_left
                    · simp only [Act.put, List.setIfInBounds_toArray, List.set_cons_zero, List.set_cons_succ]
                      rfl
                    refine pure_ (i := 6) (N := some 104) (v := ?_) (a' := ?_) #[true, true, true, true, true, false, true, false, false, false, false, false, false] rfl rfl (by kernel_rfl) (fun _ _ _ h => h) (Or.inl ⟨by rfl, ?_⟩) ?_ ?_
                    rotate_left
                    · intro w'
                      go_simp
                      with_reducible rfl
                    rotate_left
                    · simp only [Act.put, List.setIfInBounds_toArray, List.set_cons_zero, List.set_cons_succ]
                      rfl
                    refine pure_ (i := 7) (N := some 105) (v := ?_) (a' := ?_) #[true, true, true, true, true, false, true, true, false, false, false, false, false] rfl rfl (by kernel_rfl) (fun _ _ _ h => h) (Or.inl ⟨by rfl, ?_⟩) ?_ ?_
                    rotate_left
                    · intro w'
                      go_simp
                      with_reducible rfl
                    rotate_left
                    · simp only [Act.put, List.setIfInBounds_toArray, List.set_cons_zero, List.set_cons_succ]
                      rfl
                    refine pure_ (i := 8) (N := some 106) (v := ?_) (a' := ?_) #[true, true, true, true, true, false, true, true, true, false, false, false, false] rfl rfl (by kernel_rfl) (fun _ _ _ h => h) (Or.inl ⟨by rfl, ?_⟩) ?_ ?_
                    rotate_left
                    · intro w'
                      go_simp
                      with_reducible rfl
                    rotate_left
                    · simp only [Act.put, List.setIfInBounds_toArray, List.set_cons_zero, List.set_cons_succ]
                      rfl
                    refine take_ (i := 5) (N := some 103) (v := ?_) (a' := ?_) #[true, true, true, true, true, true, true, true, true, false, false, false, false] rfl rfl (by kernel_rfl) (fun _ _ _ h => h) (Or.inl ⟨by rfl, ?_⟩) hHeld ?_ ?_
                    rotate_left
                    · rintro w' ⟨s0, s1⟩
                      go_simp
                      with_reducible rfl
                    rotate_left
                    · simp only [Act.put, List.setIfInBounds_toArray, List.set_cons_zero, List.set_cons_succ]
                      rfl
                    refine take_ (i := 9) (N := some 107) (v := ?_) (a' := ?_) #[true, true, true, true, true, true, true, true, true, true, false, false, false] rfl rfl (by kernel_rfl) (fun _ _ _ h => h) (Or.inl ⟨by rfl, ?_⟩) hHeld ?_ ?_
                    rotate_left
                    · rintro w' ⟨s0, s1⟩
                      go_simp
                      with_reducible rfl
                    rotate_left
                    · simp only [Act.put, List.setIfInBounds_toArray, List.set_cons_zero, List.set_cons_succ]
                      rfl
                    refine pure_ (i := 10) (N := some 108) (v := ?_) (a' := ?_) #[true, true, true, true, true, true, true, true, true, true, true, false, false] rfl rfl (by kernel_rfl) (fun _ _ _ h => h) (Or.inl ⟨by rfl, ?_⟩) ?_ ?_
                    rotate_left
                    · intro w'
                      go_simp
                      with_reducible rfl
                    rotate_left
                    · simp only [Act.put, List.setIfInBounds_toArray, List.set_cons_zero, List.set_cons_succ]
                      rfl
                    refine pure_ (i := 11) (N := some 109) (v := ?_) (a' := ?_) #[true, true, true, true, true, true, true, true, true, true, true, true, false] rfl rfl (by kernel_rfl) (fun _ _ _ h => h) (Or.inl ⟨by rfl, ?_⟩) ?_ ?_
                    rotate_left
                    · intro w'
                      go_simp
                      with_reducible rfl
                    rotate_left
                    · simp only [Act.put, List.setIfInBounds_toArray, List.set_cons_zero, List.set_cons_succ]
                      rfl
                    refine last_ (i := 12) (N := none) #[true, true, true, true, true, true, true, true, true, true, true, true, true] rfl rfl (by kernel_rfl) (by decide) (fun K hK => ?_)
                    refine skip_ (w1 := ?_) (by rfl) rfl ?_ ?_
                    rotate_left
                    · go_simp
                      rfl
                    refine hK.out _ _ ?_
                    clear hK K
                    refine done_ (by kernel_rfl) ?_

                    have HE1 := Lib.hid (show enter adj v i t = { t with low := upd t.low v (min (t.low v) (t.low u)) } by rw [HEN.out, account, if_pos HO.out])
                    go_wp2_with fail
                    · go_meet
                      case rel =>
                        have e1 : min (t.low v) (t.low u) = t.low u := by have := HLX.out; have := HLY.out; omega
                        rw [HE1.out, e1, HLY.out]
                        exact ⟨rfl, Lib.hid (K7.out.setLow v (t.low u)), Lib.hid (bput B7.out (Nat.le_trans HLT.out K1.out.bl.bl))⟩
                    · go_meet
                      case rel =>
                        have e1 : min (t.low v) (t.low u) = t.low v := by have := HLX.out; have := HLY.out; omega
                        rw [HE1.out, e1, HLX.out]
                        exact ⟨rfl, Lib.hid (K7.out.setLow v (t.low v)), Lib.hid (bput B7.out (Nat.le_trans HLT.out K1.out.bl.bl))⟩
                  · have cO : w5.cell? ⟨gp, u, none⟩ = some (.bool false) := by
                      have h := boolsC_at K5.out.opn hun
                      rw [show t.opn u = false by simpa using ho] at h
                      exact h
                    have HO := Lib.hid ho
                    clear ho
                    go_wp2_with fail
                    go_meet
                    case rel =>
                      have e : enter adj v i t = t := by rw [HEN.out, account, if_neg HO.out]
                      rw [e]
                      exact ⟨rfl, K5, B5⟩
              case rest =>
                obtain ⟨rfl, KE, BE⟩ := hcut
                have SF := Lib.hid (step_keeps (adj := adj) AL.out A1.out S1.out HW.out M1.out R1.out)
                obtain ⟨t1, ht1⟩ : ∃ t1, t1 = enter adj v i t := ⟨_, rfl⟩
                have hst : Go.Proofs.YtgbeigippahbaaaK.step adj t = if i < (adj v).length then (if t1.seen ((adj v).getD i 0) = 0 then { t1 with work := ((adj v).getD i 0, 0) :: (v, i + 1) :: W } else { t1 with work := (v, i + 1) :: W }) else (if t1.low v < t1.seen v then { t1 with work := W } else closeV v { t1 with work := W }) := by
                  rw [ht1, Go.Proofs.YtgbeigippahbaaaK.step]
                  simp only [HW.out]
                have hwk1 : t1.work = (v, i) :: W := by rw [ht1, enter_work]; exact HW.out
                rw [← ht1] at KE
                obtain ⟨k, hk⟩ : ∃ k, k = t1.count := ⟨_, rfl⟩
                have HCT := Lib.hid (show k = (enter adj v i t).count by rw [hk, ht1])
                rw [show (enter adj v i t).count = k from HCT.out.symm]
                have HST := Lib.hid hst
                have HW1 := Lib.hid hwk1
                have HT1 := Lib.hid ht1
                clear hst hk ht1 K1 c0 c1 HFR B1
                obtain ⟨g', cw', hvw, d0', d1', hof', hgN', hvs', cur', hcur'⟩ := KE.out.top hwk1
                injection hvw with e1 e2 e3
                injection e1 with e1
                injection e1 with e1 _ _
                subst e1
                subst e3
                clear e2
                rw [← HL.out] at d0' d1'
                have c0 : wc.cell? ⟨g, L * 2, none⟩ = some (.int .i64 (v : Int)) := d0'
                have c1 : wc.cell? ⟨g, L * 2 + 1, none⟩ = some (.int .i64 (i : Int)) := d1'
                have HF1 := Lib.hid (show ∀ wq : World, wq.heap[g]? = wc.heap[g]? → wq.frozen? ⟨g, L * 2 + 1, none⟩ = false from fun wq hq => frozen_at (hq.trans hcur'))
                have HOG := Lib.hid hof'
                have HGN := Lib.hid hgN'
                obtain ⟨Ad, ca, hrow, hcap, hel⟩ := KE.out.out.row v hvn
                have hlm := ALEN.out v
                obtain ⟨ln, hln⟩ : ∃ ln, ln = (adj v).length := ⟨_, rfl⟩
                rw [← hln] at hrow hcap hel hlm
                have HEL := Lib.hid hel
                have HLN := Lib.hid hln
                clear hwk1 d0' d1' hof' hgN' hvs' hcur' hel hln hcap
                go_upto_region 24 with fail
                obtain ⟨w5, hw5⟩ : ∃ w5, w5 = wc.drew := ⟨_, rfl⟩
                have E0 := Lib.hid (show w5.cell? ⟨g, L * 2 + 1, none⟩ = some (.int .i64 (i : Int)) by rw [hw5]; exact c1)
                have E1 := Lib.hid (show w5.cell? ⟨g0, v, none⟩ = some (.slice Ad ln ca) by rw [hw5]; exact hrow)
                have K5 := Lib.hid (show KW w5 (⟨w1.heap.size, g0, gs, gl, ge, gp⟩ : Bl) n adj t1 u10 (.slice (some ⟨g, 0, none⟩) m cw) by rw [hw5]; exact KE.out.drew)
                have B5 := Lib.hid (show Below w.heap.size w w5 by rw [hw5]; exact bdrew BE.out)
                have HF5 := Lib.hid (show ∀ wq : World, wq.heap[g]? = w5.heap[g]? → wq.frozen? ⟨g, L * 2 + 1, none⟩ = false by rw [hw5]; exact HF1.out)
                have HW5 := Lib.hid hw5
                clear hw5 hrow c0 c1 KE BE HF1
                refine start_ (n := 10) (S := fun w' => w'.cell? ⟨g, L * 2 + 1, none⟩ = some (.int .i64 (i : Int)) ∧ w'.cell? ⟨g0, v, none⟩ = some (.slice Ad ln ca)) (ds := []) #[false, false, false, false, false, false, false, false, false, false] (by kernel_rfl) rfl rfl ⟨(by rw [← HW5.out]; exact E0.out), (by rw [← HW5.out]; exact E1.out)⟩ (fun hHeld => ?_)
                rw [← HW5.out] at hHeld ⊢
                refine pure_ (i := 0) (N := some 110) (v := ?_) (a' := ?_) #[true, false, false, false, false, false, false, false, false, false] rfl rfl (by kernel_rfl) (fun _ _ _ h => h) (Or.inl ⟨by rfl, ?_⟩) ?_ ?_
                rotate_left
                · intro w'
                  go_simp
                  with_reducible rfl
                rotate_left
                · simp only [Act.put, List.setIfInBounds_toArray, List.set_cons_zero, List.set_cons_succ]
                  rfl
                refine pure_ (i := 1) (N := some 111) (v := ?_) (a' := ?_) #[true, true, false, false, false, false, false, false, false, false] rfl rfl (by kernel_rfl) (fun _ _ _ h => h) (Or.inl ⟨by rfl, ?_⟩) ?_ ?_
                rotate_left
                · intro w'
                  go_simp
                  with_reducible rfl
                rotate_left
                · simp only [Act.put, List.setIfInBounds_toArray, List.set_cons_zero, List.set_cons_succ]
                  rfl
                refine pure_ (i := 2) (N := some 112) (v := ?_) (a' := ?_) #[true, true, true, false, false, false, false, false, false, false] rfl rfl (by kernel_rfl) (fun _ _ _ h => h) (Or.inl ⟨by rfl, ?_⟩) ?_ ?_
                rotate_left
                · intro w'
                  go_simp
                  with_reducible rfl
                rotate_left
                · simp only [Act.put, List.setIfInBounds_toArray, List.set_cons_zero, List.set_cons_succ]
                  rfl
                refine pure_ (i := 4) (N := some 114) (v := ?_) (a' := ?_) #[true, true, true, false, true, false, false, false, false, false] rfl rfl (by kernel_rfl) (fun _ _ _ h => h) (Or.inl ⟨by rfl, ?_⟩) ?_ ?_
                rotate_left
                · intro w'
                  go_simp
                  with_reducible rfl
                rotate_left
                · simp only [Act.put, List.setIfInBounds_toArray, List.set_cons_zero, List.set_cons_succ]
                  rfl
                refine pure_ (i := 5) (N := some 115) (v := ?_) (a' := ?_) #[true, true, true, false, true, true, false, false, false, false] rfl rfl (by kernel_rfl) (fun _ _ _ h => h) (Or.inl ⟨by rfl, ?_⟩) ?_ ?_
                rotate_left
                · intro w'
                  go_simp
                  with_reducible rfl
                rotate_left
                · simp only [Act.put, List.setIfInBounds_toArray, List.set_cons_zero, List.set_cons_succ]
                  rfl
                refine pure_ (i := 6) (N := some 116) (v := ?_) (a' := ?_) #[true, true, true, false, true, true, true, false, false, false] rfl rfl (by kernel_rfl) (fun _ _ _ h => h) (Or.inl ⟨by rfl, ?_⟩) ?_ ?_
                rotate_left
                · intro w'
                  go_simp
                  with_reducible rfl
                rotate_left
                · simp only [Act.put, List.setIfInBounds_toArray, List.set_cons_zero, List.set_cons_succ]
                  rfl
                refine take_ (i := 3) (N := some 113) (v := ?_) (a' := ?_) #[true, true, true, true, true, true, true, false, false, false] rfl rfl (by kernel_rfl) (fun _ _ _ h => h) (Or.inl ⟨by rfl, ?_⟩) hHeld ?_ ?_
                rotate_left
                · rintro w' ⟨s0, s1⟩
                  go_simp
                  with_reducible rfl
                rotate_left
                · simp only [Act.put, List.setIfInBounds_toArray, List.set_cons_zero, List.set_cons_succ]
                  rfl
                refine take_ (i := 7) (N := some 117) (v := ?_) (a' := ?_) #[true, true, true, true, true, true, true, true, false, false] rfl rfl (by kernel_rfl) (fun _ _ _ h => h) (Or.inl ⟨by rfl, ?_⟩) hHeld ?_ ?_
                rotate_left
                · rintro w' ⟨s0, s1⟩
                  go_simp
                  with_reducible rfl
                rotate_left
                · simp only [Act.put, List.setIfInBounds_toArray, List.set_cons_zero, List.set_cons_succ]
                  rfl
                refine pure_ (i := 8) (N := some 118) (v := ?_) (a' := ?_) #[true, true, true, true, true, true, true, true, true, false] rfl rfl (by kernel_rfl) (fun _ _ _ h => h) (Or.inl ⟨by rfl, ?_⟩) ?_ ?_
                rotate_left
                · intro w'
                  go_simp
                  with_reducible rfl
                rotate_left
                · simp only [Act.put, List.setIfInBounds_toArray, List.set_cons_zero, List.set_cons_succ]
                  rfl
                refine pure_ (i := 9) (N := some 119) (v := ?_) (a' := ?_) #[true, true, true, true, true, true, true, true, true, true] rfl rfl (by kernel_rfl) (fun _ _ _ h => h) (Or.inl ⟨by rfl, ?_⟩) ?_ ?_
                rotate_left
                · intro w'
                  go_simp
                  with_reducible rfl
                rotate_left
                · simp only [Act.put, List.setIfInBounds_toArray, List.set_cons_zero, List.set_cons_succ]
                  rfl
                refine done_ (by kernel_rfl) ?_

                by_cases hil : i < ln
                · as_aux_lemma =>
                  obtain ⟨ga, hAd, hgaN, hcu⟩ := HEL.out i hil
                  subst hAd
                  obtain ⟨u, hu⟩ : ∃ u, u = (adj v).getD i 0 := ⟨_, rfl⟩
                  have hun : u < n := by rw [hu]; exact AL.out v _ hvn (getD_mem (by rw [← HLN.out]; exact hil))
                  rw [← hu] at hcu
                  have HCU := Lib.hid (show w5.cell? ⟨ga, i, none⟩ = some (.int .i64 (u : Int)) by rw [HW5.out]; exact hcu)
                  have HU := Lib.hid hu
                  clear hu hgaN hcu
                  go_upto_region 25 with fail
                  obtain ⟨w6, hw6⟩ : ∃ w6, w6 = w5.drew := ⟨_, rfl⟩
                  have E2 := Lib.hid (show w6.cell? ⟨g0, v, none⟩ = some (.slice (some ⟨ga, 0, none⟩) ln ca) by rw [hw6]; exact E1.out)
                  have E3 := Lib.hid (show w6.cell? ⟨g, L * 2 + 1, none⟩ = some (.int .i64 (i : Int)) by rw [hw6]; exact E0.out)
                  have E4 := Lib.hid (show w6.cell? ⟨ga, i, none⟩ = some (.int .i64 (u : Int)) by rw [hw6]; exact HCU.out)
                  have K6 := Lib.hid (show KW w6 (⟨w1.heap.size, g0, gs, gl, ge, gp⟩ : Bl) n adj t1 u10 (.slice (some ⟨g, 0, none⟩) m cw) by rw [hw6]; exact K5.out.drew)
                  have B6 := Lib.hid (show Below w.heap.size w w6 by rw [hw6]; exact bdrew B5.out)
                  have HF6 := Lib.hid (show w6.frozen? ⟨g, L * 2 + 1, none⟩ = false by rw [hw6]; exact HF5.out w5.drew rfl)
                  have HW6 := Lib.hid hw6
                  clear hw6
                  refine start_ (n := 11) (S := fun w' => w'.cell? ⟨g0, v, none⟩ = some (.slice (some ⟨ga, 0, none⟩) ln ca) ∧ w'.cell? ⟨g, L * 2 + 1, none⟩ = some (.int .i64 (i : Int)) ∧ w'.cell? ⟨ga, i, none⟩ = some (.int .i64 (u : Int))) (ds := []) #[false, false, false, false, false, false, false, false, false, false, false] (by kernel_rfl) rfl rfl ⟨(by rw [← HW6.out]; exact E2.out), (by rw [← HW6.out]; exact E3.out), (by rw [← HW6.out]; exact E4.out)⟩ (fun hHeld => ?_)
                  rw [← HW6.out] at hHeld ⊢
                  refine pure_ (i := 0) (N := some 120) (v := ?_) (a' := ?_) #[true, false, false, false, false, false, false, false, false, false, false] rfl rfl (by kernel_rfl) (fun _ _ _ h => h) (Or.inl ⟨by rfl, ?_⟩) ?_ ?_
                  rotate_left
                  · intro w'
                    go_simp
                    with_reducible rfl
                  rotate_left
                  · simp only [Act.put, List.setIfInBounds_toArray, List.set_cons_zero, List.set_cons_succ]
                    rfl
                  refine pure_ (i := 1) (N := some 121) (v := ?_) (a' := ?_) #[true, true, false, false, false, false, false, false, false, false, false] rfl rfl (by kernel_rfl) (fun _ _ _ h => h) (Or.inl ⟨by rfl, ?_⟩) ?_ ?_
                  rotate_left
                  · intro w'
                    go_simp
                    with_reducible rfl
                  rotate_left
                  · simp only [Act.put, List.setIfInBounds_toArray, List.set_cons_zero, List.set_cons_succ]
                    rfl
                  refine pure_ (i := 2) (N := some 122) (v := ?_) (a' := ?_) #[true, true, true, false, false, false, false, false, false, false, false] rfl rfl (by kernel_rfl) (fun _ _ _ h => h) (Or.inl ⟨by rfl, ?_⟩) ?_ ?_
                  rotate_left
                  · intro w'
                    go_simp
                    with_reducible rfl
                  rotate_left
                  · simp only [Act.put, List.setIfInBounds_toArray, List.set_cons_zero, List.set_cons_succ]
                    rfl
                  refine pure_ (i := 4) (N := some 124) (v := ?_) (a' := ?_) #[true, true, true, false, true, false, false, false, false, false, false] rfl rfl (by kernel_rfl) (fun _ _ _ h => h) (Or.inl ⟨by rfl, ?_⟩) ?_ ?_
                  rotate_left
                  · intro w'
                    go_simp
                    with_reducible rfl
                  rotate_left
                  · simp only [Act.put, List.setIfInBounds_toArray, List.set_cons_zero, List.set_cons_succ]
                    rfl
                  refine pure_ (i := 5) (N := some 125) (v := ?_) (a' := ?_) #[true, true, true, false, true, true, false, false, false, false, false] rfl rfl (by kernel_rfl) (fun _ _ _ h => h) (Or.inl ⟨by rfl, ?_⟩) ?_ ?_
                  rotate_left
                  · intro w'
                    go_simp
                    with_reducible rfl
                  rotate_left
                  · simp only [Act.put, List.setIfInBounds_toArray, List.set_cons_zero, List.set_cons_succ]
                    rfl
                  refine pure_ (i := 6) (N := some 126) (v := ?_) (a' := ?_) #[true, true, true, false, true, true, true, false, false, false, false] rfl rfl (by kernel_rfl) (fun _ _ _ h => h) (Or.inl ⟨by rfl, ?_⟩) ?_ ?_
                  rotate_left
                  · intro w'
                    go_simp
                    with_reducible rfl
                  rotate_left
                  · simp only [Act.put, List.setIfInBounds_toArray, List.set_cons_zero, List.set_cons_succ]
                    rfl
                  refine take_ (i := 3) (N := some 123) (v := ?_) (a' := ?_) #[true, true, true, true, true, true, true, false, false, false, false] rfl rfl (by kernel_rfl) (fun _ _ _ h => h) (Or.inl ⟨by rfl, ?_⟩) hHeld ?_ ?_
                  rotate_left
                  · rintro w' ⟨s0, s1, s2⟩
                    go_simp
                    with_reducible rfl
                  rotate_left
                  · simp only [Act.put, List.setIfInBounds_toArray, List.set_cons_zero, List.set_cons_succ]
                    rfl
                  refine take_ (i := 7) (N := some 127) (v := ?_) (a' := ?_) #[true, true, true, true, true, true, true, true, false, false, false] rfl rfl (by kernel_rfl) (fun _ _ _ h => h) (Or.inl ⟨by rfl, ?_⟩) hHeld ?_ ?_
                  rotate_left
                  · rintro w' ⟨s0, s1, s2⟩
                    go_simp
                    with_reducible rfl
                  rotate_left
                  · simp only [Act.put, List.setIfInBounds_toArray, List.set_cons_zero, List.set_cons_succ]
                    rfl
                  refine pure_ (i := 8) (N := some 128) (v := ?_) (a' := ?_) #[true, true, true, true, true, true, true, true, true, false, false] rfl rfl (by kernel_rfl) (fun _ _ _ h => h) (Or.inl ⟨by rfl, ?_⟩) ?_ ?_
                  rotate_left
                  · intro w'
                    go_simp
                    with_reducible rfl
                  rotate_left
                  · simp only [Act.put, List.setIfInBounds_toArray, List.set_cons_zero, List.set_cons_succ]
                    rfl
                  refine take_ (i := 9) (N := some 129) (v := ?_) (a' := ?_) #[true, true, true, true, true, true, true, true, true, true, false] rfl rfl (by kernel_rfl) (fun _ _ _ h => h) (Or.inl ⟨by rfl, ?_⟩) hHeld ?_ ?_
                  rotate_left
                  · rintro w' ⟨s0, s1, s2⟩
                    go_simp
                    with_reducible rfl
                  rotate_left
                  · simp only [Act.put, List.setIfInBounds_toArray, List.set_cons_zero, List.set_cons_succ]
                    rfl
                  refine pure_ (i := 10) (N := some 17) (v := ?_) (a' := ?_) #[true, true, true, true, true, true, true, true, true, true, true] rfl rfl (by kernel_rfl) (fun _ _ _ h => h) (Or.inl ⟨by rfl, ?_⟩) ?_ ?_
                  rotate_left
                  · intro w'
                    go_simp
                    with_reducible rfl
                  rotate_left
                  · simp only [Act.put, List.setIfInBounds_toArray, List.set_cons_zero, List.set_cons_succ]
                    rfl
                  refine done_ (by kernel_rfl) ?_

                  obtain ⟨i2, hi2⟩ : ∃ i2, i2 = i + 1 := ⟨_, rfl⟩
                  have hwi : IntKind.i64.wrap ((i : Int) + 1) = (i2 : Int) := by rw [IntWalk.i64_in _ (by omega)]; omega
                  have c6 : w6.cell? ⟨g, L * 2 + 1, none⟩ = some (.int .i64 (i : Int)) := E3.out
                  have f6 : w6.frozen? ⟨g, L * 2 + 1, none⟩ = false := HF6.out
                  have ngs : g ≠ gs := HOG.out.1
                  have hvw : Value.slice (some ⟨g, 0, none⟩) m cw = .slice (some ⟨g, 0, none⟩) (W.length + 1) cw := by rw [HM.out, HL.out]
                  have K7 := Lib.hid (show KW (w6.setCell ⟨g, L * 2 + 1, none⟩ (.int .i64 (i2 : Int))) (⟨w1.heap.size, g0, gs, gl, ge, gp⟩ : Bl) n adj { t1 with work := (v, i2) :: W } u10 (.slice (some ⟨g, 0, none⟩) m cw) by rw [hi2, HL.out]; exact K6.out.setTop HW1.out hvw)
                  have B7 := Lib.hid (show Below w.heap.size w (w6.setCell ⟨g, L * 2 + 1, none⟩ (.int .i64 (i2 : Int))) from bput B6.out (Nat.le_trans HLT.out HGN.out))
                  have SZ7 := Lib.hid (show w6.heap.size = (w6.setCell ⟨g, L * 2 + 1, none⟩ (.int .i64 (i2 : Int))).heap.size by simp [World.setCell])
                  have H2 := Lib.hid hi2
                  have HIL := Lib.hid (show i < (adj v).length by rw [← HLN.out]; exact hil)
                  clear hi2 hvw
                  by_cases hx : t1.seen u = 0
                  · have cs : w6.cell? ⟨gs, u, none⟩ = some (.int .i64 0) := by have := numsC_at K6.out.seen hun; rw [hx] at this; exact this
                    have HX := Lib.hid hx
                    have HWL := Lib.hid (show ((v, i2) :: W).length ≤ 100001 by have h1 := HM.out; have h2 := HL.out; simp only [List.length_cons]; omega)
                    clear hx
                    go_wp2_with (first | ((with_reducible refine gate_dst (N := 146) rfl ?_); refine print_append_cells (w0 := w6.setCell ⟨g, L * 2 + 1, none⟩ (.int .i64 (i2 : Int))) (W := w6.setCell ⟨g, L * 2 + 1, none⟩ (.int .i64 (i2 : Int))) w1.heap.size rfl (.tmp 142) (.tmp 145) 44 43 _ 2 16 rfl Try.underlying44 infoFrame rfl (by decide) (by decide) (.slice (some ⟨g, 0, none⟩) m cw) ((v, i2) :: W).length (wkC ((v, i2) :: W)) [iv u, iv 0] rfl (congrArg (fun q => Value.slice (some ⟨q, 0, none⟩) 1 1) SZ7.out) rfl (by simp [Value.oneCell']) K7.out.wrk (Below.refl _ _) K7.out.sz (by have := HWL.out; omega) ?_; intro v1 w8 hown hbe hg hat; have K8 := Lib.hid (K7.out.pushW (x := (u, 0)) hown hg hat); have B8 := Lib.hid (bgrown B7.out hg (fun k e => Nat.le_trans HLT.out (own_base K7.out.wrk k e))); clear hown hbe hg hat))
                    go_roundg (mu adj n (Go.Proofs.YtgbeigippahbaaaK.step adj t))
                    case measure => rw [GK.out]; exact SF.out.2.2.2.2.1
                    case rel =>
                      have e1 : Go.Proofs.YtgbeigippahbaaaK.step adj t = { t1 with work := (u, 0) :: (v, i2) :: W } := by rw [HST.out, if_pos HIL.out, ← HU.out, if_pos HX.out, H2.out]
                      refine ⟨Go.Proofs.YtgbeigippahbaaaK.step adj t, by rw [HCT.out, ← SF.out.2.2.2.2.2], ⟨rfl⟩, Lib.hid ?_, Lib.hid SF.out.1, Lib.hid SF.out.2.1, Lib.hid SF.out.2.2.1, Lib.hid SF.out.2.2.2.1, B8⟩
                      rw [e1]
                      exact K8.out
                  · obtain ⟨x, hxx⟩ : ∃ x, x = t1.seen u := ⟨_, rfl⟩
                    have x0 : 0 < x := by omega
                    have cs : w6.cell? ⟨gs, u, none⟩ = some (.int .i64 (x : Int)) := by rw [hxx]; exact numsC_at K6.out.seen hun
                    have HX := Lib.hid hx
                    clear hx hxx
                    go_wp2_with fail
                    go_roundg (mu adj n (Go.Proofs.YtgbeigippahbaaaK.step adj t))
                    case measure => rw [GK.out]; exact SF.out.2.2.2.2.1
                    case rel =>
                      have e1 : Go.Proofs.YtgbeigippahbaaaK.step adj t = { t1 with work := (v, i2) :: W } := by rw [HST.out, if_pos HIL.out, ← HU.out, if_neg HX.out, H2.out]
                      refine ⟨Go.Proofs.YtgbeigippahbaaaK.step adj t, by rw [HCT.out, ← SF.out.2.2.2.2.2], ⟨rfl⟩, Lib.hid ?_, Lib.hid SF.out.1, Lib.hid SF.out.2.1, Lib.hid SF.out.2.2.1, Lib.hid SF.out.2.2.2.1, B7⟩
                      rw [e1]
                      exact K7.out
                · as_aux_lemma =>
                  have hcwL : L ≤ cw := by
                    have h1 := (own_cap K5.out.wrk).1
                    rw [HW1.out] at h1
                    simp only [List.length_cons] at h1
                    have := HL.out
                    omega
                  have hvw : Value.slice (some ⟨g, 0, none⟩) m cw = .slice (some ⟨g, 0, none⟩) (W.length + 1) cw := by rw [HM.out, HL.out]
                  have HPOP := Lib.hid (show KW w5 (⟨w1.heap.size, g0, gs, gl, ge, gp⟩ : Bl) n adj { t1 with work := W } u10 (.slice (some ⟨g, 0, none⟩) L cw) by rw [HL.out]; exact K5.out.pop HW1.out hvw)
                  have HIL := Lib.hid (show ¬ i < (adj v).length by rw [← HLN.out]; exact hil)
                  clear hvw
                  go_upto_region 30 with fail
                  obtain ⟨w6, hw6⟩ : ∃ w6, w6 = w5.drew := ⟨_, rfl⟩
                  have K6 := Lib.hid (show KW w6 (⟨w1.heap.size, g0, gs, gl, ge, gp⟩ : Bl) n adj { t1 with work := W } u10 (.slice (some ⟨g, 0, none⟩) L cw) by rw [hw6]; exact HPOP.out.drew)
                  have B6 := Lib.hid (show Below w.heap.size w w6 by rw [hw6]; exact bdrew B5.out)
                  obtain ⟨lx, hlx⟩ : ∃ lx, lx = t1.low v := ⟨_, rfl⟩
                  obtain ⟨sx, hsx⟩ : ∃ sx, sx = t1.seen v := ⟨_, rfl⟩
                  have E2 := Lib.hid (show w6.cell? ⟨gl, v, none⟩ = some (.int .i64 (lx : Int)) by rw [hlx]; exact numsC_at K6.out.low hvn)
                  have E3 := Lib.hid (show w6.cell? ⟨gs, v, none⟩ = some (.int .i64 (sx : Int)) by rw [hsx]; exact numsC_at K6.out.seen hvn)
                  have HW6 := Lib.hid hw6
                  have HLX := Lib.hid hlx
                  have HSX := Lib.hid hsx
                  clear hw6 hlx hsx
                  refine start_ (n := 9) (S := fun w' => w'.cell? ⟨gl, v, none⟩ = some (.int .i64 (lx : Int)) ∧ w'.cell? ⟨gs, v, none⟩ = some (.int .i64 (sx : Int))) (ds := []) #[false, false, false, false, false, false, false, false, false] (by kernel_rfl) rfl rfl ⟨(by rw [← HW6.out]; exact E2.out), (by rw [← HW6.out]; exact E3.out)⟩ (fun hHeld => ?_)
                  rw [← HW6.out] at hHeld ⊢
                  refine pure_ (i := 0) (N := some 152) (v := ?_) (a' := ?_) #[true, false, false, false, false, false, false, false, false] rfl rfl (by kernel_rfl) (fun _ _ _ h => h) (Or.inl ⟨by rfl, ?_⟩) ?_ ?_
                  rotate_left
                  · intro w'
                    go_simp
                    with_reducible rfl
                  rotate_left
                  · simp only [Act.put, List.setIfInBounds_toArray, List.set_cons_zero, List.set_cons_succ]
                    rfl
                  refine pure_ (i := 1) (N := some 153) (v := ?_) (a' := ?_) #[true, true, false, false, false, false, false, false, false] rfl rfl (by kernel_rfl) (fun _ _ _ h => h) (Or.inl ⟨by rfl, ?_⟩) ?_ ?_
                  rotate_left
                  · intro w'
                    go_simp
                    with_reducible rfl
                  rotate_left
                  · simp only [Act.put, List.setIfInBounds_toArray, List.set_cons_zero, List.set_cons_succ]
                    rfl
                  refine pure_ (i := 2) (N := some 154) (v := ?_) (a' := ?_) #[true, true, true, false, false, false, false, false, false] rfl rfl (by kernel_rfl) (fun _ _ _ h => h) (Or.inl ⟨by rfl, ?_⟩) ?_ ?_
                  rotate_left
                  · intro w'
                    go_simp
                    with_reducible rfl
                  rotate_left
                  · simp only [Act.put, List.setIfInBounds_toArray, List.set_cons_zero, List.set_cons_succ]
                    rfl
                  refine pure_ (i := 4) (N := some 156) (v := ?_) (a' := ?_) #[true, true, true, false, true, false, false, false, false] rfl rfl (by kernel_rfl) (fun _ _ _ h => h) (Or.inl ⟨by rfl, ?_⟩) ?_ ?_
                  rotate_left
                  · intro w'
                    go_simp
                    with_reducible rfl
                  rotate_left
                  · simp only [Act.put, List.setIfInBounds_toArray, List.set_cons_zero, List.set_cons_succ]
                    rfl
                  refine pure_ (i := 5) (N := some 157) (v := ?_) (a' := ?_) #[true, true, true, false, true, true, false, false, false] rfl rfl (by kernel_rfl) (fun _ _ _ h => h) (Or.inl ⟨by rfl, ?_⟩) ?_ ?_
                  rotate_left
                  · intro w'
                    go_simp
                    with_reducible rfl
                  rotate_left
                  · simp only [Act.put, List.setIfInBounds_toArray, List.set_cons_zero, List.set_cons_succ]
                    rfl
                  refine pure_ (i := 6) (N := some 158) (v := ?_) (a' := ?_) #[true, true, true, false, true, true, true, false, false] rfl rfl (by kernel_rfl) (fun _ _ _ h => h) (Or.inl ⟨by rfl, ?_⟩) ?_ ?_
                  rotate_left
                  · intro w'
                    go_simp
                    with_reducible rfl
                  rotate_left
                  · simp only [Act.put, List.setIfInBounds_toArray, List.set_cons_zero, List.set_cons_succ]
                    rfl
                  refine take_ (i := 3) (N := some 155) (v := ?_) (a' := ?_) #[true, true, true, true, true, true, true, false, false] rfl rfl (by kernel_rfl) (fun _ _ _ h => h) (Or.inl ⟨by rfl, ?_⟩) hHeld ?_ ?_
                  rotate_left
                  · rintro w' ⟨s0, s1⟩
                    go_simp
                    with_reducible rfl
                  rotate_left
                  · simp only [Act.put, List.setIfInBounds_toArray, List.set_cons_zero, List.set_cons_succ]
                    rfl
                  refine take_ (i := 7) (N := some 159) (v := ?_) (a' := ?_) #[true, true, true, true, true, true, true, true, false] rfl rfl (by kernel_rfl) (fun _ _ _ h => h) (Or.inl ⟨by rfl, ?_⟩) hHeld ?_ ?_
                  rotate_left
                  · rintro w' ⟨s0, s1⟩
                    go_simp
                    with_reducible rfl
                  rotate_left
                  · simp only [Act.put, List.setIfInBounds_toArray, List.set_cons_zero, List.set_cons_succ]
                    rfl
                  refine pure_ (i := 8) (N := some 160) (v := ?_) (a' := ?_) #[true, true, true, true, true, true, true, true, true] rfl rfl (by kernel_rfl) (fun _ _ _ h => h) (Or.inl ⟨by rfl, ?_⟩) ?_ ?_
                  rotate_left
                  · intro w'
                    go_simp
                    with_reducible rfl
                  rotate_left
                  · simp only [Act.put, List.setIfInBounds_toArray, List.set_cons_zero, List.set_cons_succ]
                    rfl
                  refine done_ (by kernel_rfl) ?_

                  by_cases hls : lx < sx
                  · have HLS := Lib.hid (show t1.low v < t1.seen v by rw [← HLX.out, ← HSX.out]; exact hls)
                    go_wp2_with fail
                    go_roundg (mu adj n (Go.Proofs.YtgbeigippahbaaaK.step adj t))
                    case measure => rw [GK.out]; exact SF.out.2.2.2.2.1
                    case rel =>
                      have e1 : Go.Proofs.YtgbeigippahbaaaK.step adj t = { t1 with work := W } := by rw [HST.out, if_neg HIL.out, if_pos HLS.out]
                      refine ⟨Go.Proofs.YtgbeigippahbaaaK.step adj t, by rw [HCT.out, ← SF.out.2.2.2.2.2], ⟨rfl⟩, Lib.hid ?_, Lib.hid SF.out.1, Lib.hid SF.out.2.1, Lib.hid SF.out.2.2.1, Lib.hid SF.out.2.2.2.1, B6⟩
                      rw [e1]
                      exact K6.out
                  · as_aux_lemma =>
                    have HLS := Lib.hid (show ¬ t1.low v < t1.seen v by rw [← HLX.out, ← HSX.out]; exact hls)
                    have hcore := A1.out.enter HW.out
                    rw [← HT1.out] at hcore
                    have hvl : v ∈ t1.stack := (hcore.pn _ List.mem_cons_self).2
                    have hsn : ∀ x, x ∈ t1.stack → x < n := fun x hx => (hcore.sn x hx).1
                    obtain ⟨gS, cS, hvs, hgS, _⟩ := K6.out.stk.form (List.length_pos_of_mem hvl)
                    obtain ⟨l, hl⟩ : ∃ l, l = t1.stack := ⟨_, rfl⟩
                    obtain ⟨sl, hsl⟩ : ∃ sl, sl = l.length := ⟨_, rfl⟩
                    have hstk : ∀ k, k < sl → w6.cell? ⟨gS, k, none⟩ = some (.int .i64 (l.getD k 0 : Int)) := fun k hk => by
                      have := K6.out.stkAt hvs (k := k) (by show k < t1.stack.length; rw [← hl, ← hsl]; exact hk)
                      rw [hl]
                      exact this
                    have hss : t1.stack.length = sl := by rw [hsl, hl]
                    have hpos : 0 < sl := by rw [← hss]; exact List.length_pos_of_mem hvl
                    rw [show ({ t1 with work := W } : T).stack.length = sl from hss] at hvs
                    have hcs : sl ≤ cS := by have h1 := (own_cap (hvs ▸ K6.out.stk)).1; rw [show ({ t1 with work := W } : T).stack.length = sl from hss] at h1; exact h1
                    have hsmall : sl ≤ 9223372036854775807 := by rw [← hss]; exact own_len K6.out.stk
                    subst hvs
                    rw [← hl] at hvl hsn
                    obtain ⟨s1, hs1⟩ : ∃ s1, sl = s1 + 1 := ⟨sl - 1, by omega⟩
                    have hws : IntKind.i64.wrap ((sl : Int) - 1) = (s1 : Int) := by rw [IntWalk.i64_in _ (by omega)]; omega
                    have s1l : s1 < sl := by omega
                    have HSTK := Lib.hid hstk
                    have HVL := Lib.hid hvl
                    have HSN := Lib.hid hsn
                    have HS1 := Lib.hid hs1
                    have HSL := Lib.hid hsl
                    have HLL := Lib.hid hl
                    have HSS := Lib.hid hss
                    have HGS := Lib.hid hgS
                    clear hcore hvl hsn hgS hl hsl hstk hss hs1
                    go_wp2_with fail
                    go_loopw [18] (fun a wx => ∃ k : Nat, a = .int .i64 (k : Int) ∧ k ≤ s1 ∧ w6 = wx ∧ Hid (seek l v s1 = seek l v k ∧ ∃ j, j ≤ k ∧ l.getD j 0 = v)) (fun a _ => (intOf a).toNat)
                    case atStart =>
                      refine ⟨s1, rfl, by omega, rfl, Lib.hid ⟨rfl, ?_⟩⟩
                      obtain ⟨j, hj, e⟩ := mem_getD HVL.out
                      exact ⟨j, by have := HS1.out; have := HSL.out; omega, e⟩
                    case round =>
                      obtain ⟨k, rfl, hk, rfl, SK⟩ := hrel
                      have hkl : k < sl := by omega
                      have ck := HSTK.out k hkl
                      by_cases e : l.getD k 0 = v
                      · as_aux_lemma =>
                        rw [e] at ck
                        have hsk : seek l v s1 = k := by
                          rw [SK.out.1]
                          cases k with
                          | zero => rfl
                          | succ k => rw [seek, if_pos e]
                        have HSK := Lib.hid hsk
                        clear hsk e
                        go_wp2_with fail
                        generalize hdl : sl - k = dl
                        generalize hdc : cS - k = dc
                        obtain ⟨d, hd⟩ : ∃ d, d = l.drop k := ⟨_, rfl⟩
                        have hdlen : d.length = dl := by rw [hd, List.length_drop, ← HSL.out, hdl]
                        have hdat : ∀ j, d.getD j 0 = l.getD (k + j) 0 := fun j => by rw [hd, List.getD_eq_getElem?_getD, List.getD_eq_getElem?_getD, List.getElem?_drop]
                        have hkd : k + dl = sl := by omega
                        have hdsm : dl ≤ 9223372036854775807 := by omega
                        have HDL := Lib.hid hdl
                        have HD := Lib.hid hd
                        have HDLEN := Lib.hid hdlen
                        have HDAT := Lib.hid hdat
                        clear hdl hdc hd hdlen hdat
                        go_loopw [19, 177] (fun bv a wx => ∃ (j bb : Nat), a = .int .i64 (j : Int) ∧ bv = .int .i64 (bb : Int) ∧ j ≤ dl ∧ w6 = wx ∧ Hid (bb = (d.take j).foldl min v)) (fun _ a _ => dl - (intOf a).toNat)
                        case atStart => exact ⟨0, v, rfl, rfl, Nat.zero_le _, rfl, Lib.hid rfl⟩
                        case round =>
                          obtain ⟨j, bb, rfl, rfl, hj, rfl, HB⟩ := hrel
                          by_cases hjl : j < dl
                          · have dj : decide ((j : Int) < (dl : Int)) = true := decide_eq_true (by omega)
                            have hwj : IntKind.i64.wrap ((j : Int) + 1) = ((j + 1 : Nat) : Int) := by rw [IntWalk.i64_in _ (by omega)]; rfl
                            obtain ⟨y, hy⟩ : ∃ y, y = d.getD j 0 := ⟨_, rfl⟩
                            have cy : w6.cell? ⟨gS, k + j, none⟩ = some (.int .i64 (y : Int)) := by rw [hy, HDAT.out]; exact HSTK.out _ (by omega)
                            have HB' := Lib.hid (show (d.take (j + 1)).foldl min v = min bb y by rw [hy, HB.out]; exact foldl_snoc (by rw [HDLEN.out]; exact hjl))
                            clear hy HB
                            by_cases hm : y < bb
                            · go_wp2_with fail
                              go_roundw
                              case rel => exact ⟨j + 1, y, (by first | trivial | go_num), (by trivial), by omega, (by trivial), Lib.hid (by rw [HB'.out]; omega)⟩
                              case measure => simp [intOf]; omega
                            · go_wp2_with fail
                              go_roundw
                              case rel => exact ⟨j + 1, bb, (by first | trivial | go_num), (by trivial), by omega, (by trivial), Lib.hid (by rw [HB'.out]; omega)⟩
                              case measure => simp [intOf]; omega
                          · as_aux_lemma =>
                            have dj : decide ((j : Int) < (dl : Int)) = false := decide_eq_false (by omega)
                            have hjd : j = dl := by omega
                            have HBB := Lib.hid (show bb = d.foldl min v by rw [HB.out, hjd, ← HDLEN.out, List.take_length])
                            clear HB hjd
                            go_wp2_with fail
                            rw [HDL.out]
                            generalize hdc : cS - k = dc2
                            clear hdc
                            have HDN := Lib.hid (show ∀ j, j < dl → d.getD j 0 < n from fun j hj => HSN.out _ (by rw [HDAT.out]; exact getD_mem (by rw [← HSL.out]; omega)))
                            go_loopw [189] (fun a wx => ∃ j : Nat, a = .int .i64 (j : Int) ∧ j ≤ dl ∧ Hid (KW wx (⟨w1.heap.size, g0, gs, gl, ge, gp⟩ : Bl) n adj (shut d bb W j t1) (.slice (some ⟨gS, 0, none⟩) sl cS) (.slice (some ⟨g, 0, none⟩) L cw)) ∧ Hid (Below w.heap.size w wx)) (fun a _ => dl - (intOf a).toNat)
                            case atStart => exact ⟨0, rfl, Nat.zero_le _, Lib.hid (by rw [shut_zero]; exact K6.out), B6⟩
                            case round =>
                              obtain ⟨j, rfl, hj, KJ, BJ⟩ := hrel
                              by_cases hjl : j < dl
                              · have dj : decide ((j : Int) < (dl : Int)) = true := decide_eq_true (by omega)
                                have hwj : IntKind.i64.wrap ((j : Int) + 1) = ((j + 1 : Nat) : Int) := by rw [IntWalk.i64_in _ (by omega)]; rfl
                                obtain ⟨y, hy⟩ : ∃ y, y = d.getD j 0 := ⟨_, rfl⟩
                                have hyn : y < n := by rw [hy]; exact HDN.out j hjl
                                have cy : wr.cell? ⟨gS, k + j, none⟩ = some (.int .i64 (y : Int)) := by
                                  have h1 := KJ.out.stkAt (g := gS) (c := cS) (k := k + j) (by show _ = Value.slice _ t1.stack.length _; rw [HSS.out]) (by show _ < t1.stack.length; rw [HSS.out]; omega)
                                  rw [hy, HDAT.out, HLL.out]
                                  exact h1
                                have fe : wr.frozen? ⟨ge, y, none⟩ = false := frozen_at KJ.out.least
                                have fp : wr.frozen? ⟨gp, y, none⟩ = false := frozen_at KJ.out.opn
                                have ce : wr.cell? ⟨ge, y, none⟩ = some (.int .i64 ((shut d bb W j t1).least y : Int)) := numsC_at KJ.out.least hyn
                                have cp : wr.cell? ⟨gp, y, none⟩ = some (.bool ((shut d bb W j t1).opn y)) := boolsC_at KJ.out.opn hyn
                                have nep : ge ≠ gp := KJ.out.bl.ep
                                have KJ' := Lib.hid (show KW ((wr.setCell ⟨ge, y, none⟩ (.int .i64 (bb : Int))).setCell ⟨gp, y, none⟩ (.bool false)) (⟨w1.heap.size, g0, gs, gl, ge, gp⟩ : Bl) n adj (shut d bb W (j + 1) t1) (.slice (some ⟨gS, 0, none⟩) sl cS) (.slice (some ⟨g, 0, none⟩) L cw) by
                                  rw [← shut_succ (by rw [HDLEN.out]; exact hjl), ← hy]
                                  exact (KJ.out.setLeast y bb).setOpen y false)
                                have BJ' := Lib.hid (show Below w.heap.size w ((wr.setCell ⟨ge, y, none⟩ (.int .i64 (bb : Int))).setCell ⟨gp, y, none⟩ (.bool false)) from bput (bput BJ.out (Nat.le_trans HLT.out KJ.out.bl.be)) (Nat.le_trans HLT.out KJ.out.bl.bp))
                                clear hy KJ BJ
                                go_wp2_with fail
                                go_roundw
                                case rel => exact ⟨j + 1, (by first | trivial | go_num), by omega, KJ', BJ'⟩
                                case measure => simp [intOf]; omega
                              · have dj : decide ((j : Int) < (dl : Int)) = false := decide_eq_false (by omega)
                                have hjd : j = dl := by omega
                                have KE := Lib.hid (show KW wr (⟨w1.heap.size, g0, gs, gl, ge, gp⟩ : Bl) n adj (closeV v { t1 with work := W }) (.slice (some ⟨gS, 0, none⟩) k cS) (.slice (some ⟨g, 0, none⟩) L cw) by
                                  rw [shut_all (k := k) HLL.out (by rw [← HSL.out, show sl - 1 = s1 by have := HS1.out; omega]; exact HSK.out) HD.out HBB.out, HDLEN.out, ← hjd]
                                  exact KJ.out.cutS (by show k ≤ t1.stack.length; rw [HSS.out]; omega) (by show _ = Value.slice _ t1.stack.length _; rw [HSS.out]))
                                clear hjd KJ
                                go_wp2_with fail
                                go_roundg (mu adj n (Go.Proofs.YtgbeigippahbaaaK.step adj t))
                                case measure => rw [GK.out]; exact SF.out.2.2.2.2.1
                                case rel =>
                                  have e1 : Go.Proofs.YtgbeigippahbaaaK.step adj t = closeV v { t1 with work := W } := by rw [HST.out, if_neg HIL.out, if_neg HLS.out]
                                  refine ⟨Go.Proofs.YtgbeigippahbaaaK.step adj t, by rw [HCT.out, ← SF.out.2.2.2.2.2], ⟨rfl⟩, Lib.hid ?_, Lib.hid SF.out.1, Lib.hid SF.out.2.1, Lib.hid SF.out.2.2.1, Lib.hid SF.out.2.2.2.1, BJ⟩
                                  rw [e1]
                                  exact KE.out
                      · obtain ⟨k', hk'⟩ : ∃ k', k = k' + 1 := by
                          cases k with
                          | zero =>
                            obtain ⟨j, hj, ej⟩ := SK.out.2
                            exact absurd (by rw [← ej, show j = 0 by omega]) e
                          | succ k => exact ⟨k, rfl⟩
                        obtain ⟨y, hy⟩ : ∃ y, y = l.getD k 0 := ⟨_, rfl⟩
                        rw [← hy] at ck e
                        have hwk : IntKind.i64.wrap ((k : Int) - 1) = (k' : Int) := by rw [IntWalk.i64_in _ (by omega)]; omega
                        have SK' := Lib.hid (show seek l v s1 = seek l v k' ∧ ∃ j, j ≤ k' ∧ l.getD j 0 = v from by
                          refine ⟨by rw [SK.out.1, hk', seek, if_neg (by rw [← hk', ← hy]; exact e)], ?_⟩
                          obtain ⟨j, hj, ej⟩ := SK.out.2
                          refine ⟨j, ?_, ej⟩
                          rcases Nat.lt_or_ge j k with h | h
                          · omega
                          · exact absurd (by rw [hy, show k = j by omega]; exact ej) e)
                        have hkk : k' < k := by omega
                        have hks : k' ≤ s1 := by omega
                        clear hk' hy SK
                        go_wp2_with fail
                        go_roundw
                        case rel => exact ⟨k', rfl, hks, (by trivial), SK'⟩
                        case measure => simp [intOf]; omega
        · obtain ⟨x, hx⟩ : ∃ x, x = t.seen r := ⟨_, rfl⟩
          have cs : wr.cell? ⟨gs, r, none⟩ = some (.int .i64 (x : Int)) := by rw [hx]; exact numsC_at K0.out.seen hrn
          have x0 : 0 < x := by omega
          have HX := Lib.hid hx
          clear hx hs
          go_wp2
          go_roundw
          case rel =>
            refine ⟨r + 1, t, by go_num, rfl, by omega, K0, Lib.hid ⟨P0.out.1, P0.out.2.1, P0.out.2.2.1, fun u hu => ?_⟩, B0⟩
            rcases Nat.lt_succ_iff_lt_or_eq.1 hu with h | rfl
            · exact P0.out.2.2.2 u h
            · have := HX.out; omega
          case measure => simp [intOf]; omega
      · have dr : decide ((r : Int) < (n : Int)) = false := decide_eq_false (by omega)
        obtain rfl : r = n := by omega
        go_wp2
        go_ret
        refine ⟨B0.out, ge, t.least, rfl, K0.out.least, ?_⟩
        rw [← HADJ.out]
        exact all_told P0.out.1 P0.out.2.2.2
#print axioms knots_calls
end Go.Proofs.YtgbeigippahbaaaK
