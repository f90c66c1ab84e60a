/- KnotsTurned walked. (Printed by mkKA.py.) -/
import Derived.Test.YtgbeigippahbaaaKL
namespace Go.Proofs.YtgbeigippahbaaaK
open Go.RowKit Go.Proofs Go.Proofs.YtgbeigippahbaaaW.PrintWords Go.Proofs.YtgbeigippahbaaaW.PrintLast

section
variable {P : Program} {ops : Array Oper} {o : Oper} {a : Act} {Q : Exit → Act → World → Prop} {K : Act → World → Prop}
theorem step_append_more {w0 W : World} (m : Nat) (hm : 0 < m) (base : Nat) (hw : Region.wanted o (yielded ops a.tmps) = true) (s x : Operand) (t e : TypeId) (z : Value) (size bytes : Nat)
    (ho : o.op = .call { callee := .builtin .append, args := #[s, x], argTypes := #[t, t] })
    (ht : P.underlying t = some (.slice e)) (hinfo : (P.info? e).map (fun i => (i.zero, i.size, i.bytes)) = some (some z, size, bytes)) (hz : z.cells.size = size) (hs0 : 0 < size) (hb0 : 0 < bytes)
    (v : Value) (n : Nat) (xs ys : List Value) (hs : a.eval s = v) (hx : a.eval x = .slice (some ⟨W.heap.size, 0, none⟩) m m) (hys : ys.length = m * size) (h1 : ∀ u ∈ ys, u.oneCell' = true)
    (HO : W.ownsRow base e size v n xs) (HB : Below base w0 W) (hbase : base ≤ W.heap.size) (hl : (n + m) * bytes ≤ 140737488355328)
    (h : ∀ v1 w1, w1.ownsRow base e size v1 (n + m) (xs ++ ys) → Below base w0 w1 → W.grownBy w1 v.ownBlock → (v1.ownBlock = v.ownBlock ∨ ∃ b, v1.ownBlock = some b ∧ W.heap.size ≤ b) → K (a.put o.dst v1) w1) :
    if Region.wanted o (yielded ops a.tmps) = true then Oper.wp P o a (W.alloc (.cells ys.toArray e)) K Q else K (a.put o.dst undef) (W.alloc (.cells ys.toArray e)) := by
  obtain ⟨i0, hi, hzz⟩ := Option.map_eq_some_iff.1 hinfo
  simp only [Prod.mk.injEq] at hzz
  obtain ⟨hz0, hz1, hz2⟩ := hzz
  have hlen : n + m ≤ 140737488355328 := Nat.le_trans (Nat.le_mul_of_pos_right _ hb0) hl
  rw [if_pos hw]
  obtain ⟨v1, w1, hr, hown, hg, _, hat⟩ := run_append_own_at (P := P) (W.alloc (.cells ys.toArray e)) base t o.type e i0 z size bytes ht hi hz0 hz1 hz2 hz hs0 v n xs (HO.alloc _) ⟨W.heap.size, 0, none⟩ m m ys hys
    (by simpa using World.news_of_block (cs := ys.toArray) (t := e) (fr := (0, 0)) (heap_alloc_new W (.cells ys.toArray e))) h1 (by simp only [maxLen]; omega) hl (by simp; omega)
  unfold Oper.wp execOp
  simp only [ho, resolve, invoke, builtin, Sem.run_bind, Sem.run_pure, Result.andThen_ok, List.map_toArray, List.map_cons, List.map_nil, hs, hx, hr]
  refine h v1 w1 hown ((HB.alloc hbase _).grown hg (by simp; omega) (own_base HO)) (World.grownBy.trans (World.grownBy_alloc W _ _) hg) ?_
  rcases hat with hat | hat
  · exact .inl hat
  · exact .inr ⟨_, hat, by simp⟩
end
theorem infoPair3 : (Try.prog.info? 30).map (fun i => (i.zero, i.size, i.bytes)) = some (some (.agg #[.int .i64 0, .int .i64 0]), 2, 16) := by kernel_rfl
theorem slice_pair1 (e : Edge) (W : World) : (Instr.buildSlice 22 1 #[(0, .agg (edC e).toArray)]).run Try.prog W = .ok (.slice (some ⟨W.heap.size, 0, none⟩) 1 1) (W.alloc (.cells (edsC [e]).toArray 30)) := by
  obtain ⟨i0, hi, hz⟩ := Option.map_eq_some_iff.1 infoPair3
  injection hz with hz0 hz
  injection hz with hz1 hz2
  refine run_buildSlice W 22 30 1 _ (edsC [e]).toArray i0 _ Try.underlying22 hi hz0 (by rw [hz1]; omega) (by rw [hz1]; omega) ?_
  rw [hz1]
  obtain ⟨x, y⟩ := e
  kernel_rfl
theorem slice_pair2 (e f : Edge) (W : World) : (Instr.buildSlice 22 2 #[(0, .agg (edC e).toArray), (1, .agg (edC f).toArray)]).run Try.prog W = .ok (.slice (some ⟨W.heap.size, 0, none⟩) 2 2) (W.alloc (.cells (edsC [e, f]).toArray 30)) := by
  obtain ⟨i0, hi, hz⟩ := Option.map_eq_some_iff.1 infoPair3
  injection hz with hz0 hz
  injection hz with hz1 hz2
  refine run_buildSlice W 22 30 2 _ (edsC [e, f]).toArray i0 _ Try.underlying22 hi hz0 (by rw [hz1]; omega) (by rw [hz1]; omega) ?_
  rw [hz1]
  obtain ⟨x, y⟩ := e
  obtain ⟨x', y'⟩ := f
  kernel_rfl
theorem load_pair {w : World} {p : Addr} {e : Edge} (hc : ∀ j v, (edC e)[j]? = some v → w.cell? (p.add j) = some v) : (loadVar 30 p).run Try.prog w = .ok (.agg (edC e).toArray) w := by
  have hl : (loadCells p (edC e).length).run Try.prog w = .ok (edC e).toArray w := run_loadCells_list (P := Try.prog) w p (edC e) hc
  obtain ⟨i, hi, hz⟩ := Option.map_eq_some_iff.1 infoPair3
  injection hz with hz0 hz
  injection hz with hz1 hz2
  have hs : i.size = (edC e).length := hz1
  have hagg : (isAgg 30).run Try.prog w = .ok true w := by
    unfold isAgg
    rw [Sem.run_bind, run_underlying Try.underlying30 w]
    rfl
  simp [loadVar, Sem.run_bind, hagg, sizeOf, typeInfo, hi, hs, hl]
theorem edsC_append : ∀ a b : List Edge, edsC (a ++ b) = edsC a ++ edsC b
  | [], b => rfl
  | e :: a, b => by rw [List.cons_append, edsC, edsC, edsC_append a b, List.append_assoc]
theorem edsC_one : ∀ (es : List Edge) u, u ∈ edsC es → u.oneCell' = true
  | [], u, h => by cases h
  | e :: es, u, h => by
    rcases List.mem_append.1 h with h | h
    · simp [edC] at h
      rcases h with rfl | rfl <;> rfl
    · exact edsC_one es u h
/-- Edges in a row that is owned. -/
theorem own_edges {w : World} {B : Nat} {v : Value} {es : List Edge} (h : w.ownsRow B 30 2 v es.length (edsC es)) : ∃ A c, v = .slice A es.length c ∧ EdgesAt w A es := by
  have hl := own_len h
  rcases h.2 with ⟨e, h0⟩ | ⟨g, cap, cur, e, _⟩
  · have e0 : es = [] := List.length_eq_zero_iff.1 h0
    exact ⟨none, 0, by rw [e, h0], hl, fun i hi => by rw [e0] at hi; cases hi⟩
  · refine ⟨_, cap, e, hl, fun i hi => ⟨_, rfl, fun j v hv => ?_⟩⟩
    subst e
    have hj : j < 2 := (List.getElem?_eq_some_iff.1 hv).1
    rw [add_plain, add_at, h.cellAt _ (by omega), edsC_get es i j hi hj]
    exact hv
/-! ### The edges told twice, and turned -/
def dbl (l : List Edge) : List Edge := l.reverse.flatMap fun e => [e, e]
def trn (l : List Edge) : List Edge := l.reverse.map fun e => (e.2, e.1)
theorem dbl_cons (e : Edge) (l : List Edge) : dbl (e :: l) = dbl l ++ [e, e] := by simp [dbl]
theorem trn_cons (e : Edge) (l : List Edge) : trn (e :: l) = trn l ++ [(e.2, e.1)] := by simp [trn]
theorem dbl_len (l : List Edge) : (dbl l).length = 2 * l.length := by
  induction l with
  | nil => rfl
  | cons e l ih => rw [dbl_cons, List.length_append, ih]; simp; omega
theorem trn_len (l : List Edge) : (trn l).length = l.length := by simp [trn]
theorem dbl_adj (n : Nat) (es : List Edge) (u v : Nat) : v ∈ adjE n es u ↔ v ∈ adjE n (dbl es) u := by
  rw [adjE_mem, adjE_mem]
  simp [dbl]
theorem trn_adj (n : Nat) (es : List Edge) (u v : Nat) : v ∈ adjE n (trn es) u ↔ u ∈ adjE n es v := by
  rw [adjE_mem, adjE_mem]
  simp only [trn, List.mem_map, List.mem_reverse]
  constructor
  · rintro ⟨e, ⟨f, hf, rfl⟩, h1, h2, h3, h4⟩; exact ⟨f, hf, h2, h1, h4, h3⟩
  · rintro ⟨f, hf, h1, h2, h3, h4⟩; exact ⟨_, ⟨f, hf, rfl⟩, h2, h1, h4, h3⟩
theorem Rc.cons {adj : Nat → List Nat} {a b c : Nat} (h : b ∈ adj a) (k : Rc adj b c) : Rc adj a c := (Rc.one h).trans k
theorem Rc.turn {adj adj' : Nat → List Nat} (h : ∀ u v, v ∈ adj u → u ∈ adj' v) {a b : Nat} (k : Rc adj a b) : Rc adj' b a := by
  induction k with
  | refl => exact .refl _
  | tail _ hc ih => exact Rc.cons (h _ _ hc) ih
theorem KnotsR.turned {n : Nat} {es : List Edge} {l : List Nat} (h : KnotsR (adjE n es) n l) : KnotsR (adjE n (trn es)) n l := by
  refine ⟨h.1, fun v hv => ?_⟩
  obtain ⟨h1, h2, h3⟩ := h.2 v hv
  have t1 : ∀ u v, v ∈ adjE n es u → u ∈ adjE n (trn es) v := fun u v h => (trn_adj n es v u).2 h
  have t2 : ∀ u v, v ∈ adjE n (trn es) u → u ∈ adjE n es v := fun u v h => (trn_adj n es u v).1 h
  exact ⟨h2.turn t1, h1.turn t1, fun w h4 h5 => h3 w (h5.turn t2) (h4.turn t2)⟩
structure TW (w : World) (B : Nat) (v5 v6 : Value) (l : List Edge) : Prop where
  o : w.ownsRow B 30 2 v5 (dbl l).length (edsC (dbl l))
  b : w.ownsRow B 30 2 v6 (trn l).length (edsC (trn l))
  ne : ∀ k, v5.ownBlock = some k → v6.ownBlock ≠ some k
theorem TW.drew {w : World} {B : Nat} {v5 v6 : Value} {l : List Edge} (h : TW w B v5 v6 l) : TW w.drew B v5 v6 l := ⟨h.o, h.b, h.ne⟩
def LawEnd (w : World) (e : Ending) (w' : World) : Prop := e = .returned (.bool true) ∧ Below w.heap.size w w'
theorem sameK {w : World} {A B : Option Addr} {n c d : Nat} {l : List Nat} (hA : NumsAt w A l) (hB : NumsAt w B l) (hl : l.length = n) (hn : n ≤ 1000000) : Calls Try.prog 10 #[.slice A n c, .slice B n d] w (SameEnd w true) := by
  subst hl
  exact @same_calls w A B c d l l true hA hB hn hn (by simp)
theorem knots_at {w : World} {A : Option Addr} {c ln N : Nat} {es : List Edge} (hE : EdgesAt w A es) (hN : N ≤ 100000) (hl : ln = es.length) (he : ln ≤ 1000000) : Calls Try.prog 11 #[.int .i64 (N : Int), .slice A ln c] w (KEnd w N es) := by
  subst hl
  exact knots_any (N : Int) es hE (by omega) he
theorem sort_at {w : World} {A : Option Addr} {c ln N : Nat} {es : List Edge} (hE : EdgesAt w A es) (hN : N ≤ 100000) (hl : ln = es.length) (he : ln ≤ 1000000) : Calls Try.prog 8 #[.int .i64 (N : Int), .slice A ln c] w (SEnd w N es) := by
  subst hl
  exact sort_any (N : Int) es hE (by omega) he
theorem SortR.len {adj : Nat → List Nat} {n : Nat} {L : List Nat} {ok : Bool} (h : SortR adj n L ok) : L.length ≤ n := by
  obtain ⟨M, h1, _, _, rfl⟩ := h
  split
  · exact h1.len
  · exact Nat.zero_le _
set_option maxRecDepth 100000 in
set_option maxHeartbeats 4000000 in
theorem turned_calls {w : World} {A : Option Addr} {c : Nat} (n : Int) (es : List Edge) (hE : EdgesAt w A es) :
    Calls Try.prog 6 #[.int .i64 n, .slice A es.length c] w (LawEnd w) := by
  obtain ⟨ln, hln⟩ : ∃ ln, ln = es.length := ⟨_, rfl⟩
  have HLN := Lib.hid hln
  have HE := Lib.hid hE
  rw [← hln]
  clear hE hln
  by_cases hg : n < 0 ∨ 500 < n ∨ 3000 < ln
  · have hd : (decide (n < 0) = true) ∨ (decide (n < 0) = false ∧ decide (n > 500) = true) ∨ (decide (n < 0) = false ∧ decide (n > 500) = false ∧ decide ((ln : Int) > 3000) = true) := by
      simp only [decide_eq_true_eq, decide_eq_false_iff_not]
      omega
    clear hg
    rcases hd with d1 | ⟨d1, d2⟩ | ⟨d1, d2, d3⟩
    all_goals
      go_enter Try.func6, Try.ntmps6
      go_wp2_with (first | (go_at_call 7; refine (awake_calls _).mono ?_; rintro e w1 ⟨rfl, hb⟩))
      go_ret
      exact ⟨rfl, by first | assumption | exact hb⟩
  · have d1 : decide (n < 0) = false := decide_eq_false (by omega)
    have d2 : decide (n > 500) = false := decide_eq_false (by omega)
    have d3 : decide ((ln : Int) > 3000) = false := decide_eq_false (by omega)
    obtain ⟨N, rfl⟩ := Int.eq_ofNat_of_zero_le (show 0 ≤ n by omega)
    have hN : N ≤ 500 := by omega
    have hL : ln ≤ 3000 := by omega
    have hw0 : IntKind.i64.wrap ((ln : Int) - 1) = (ln : Int) - 1 := IntWalk.i64_in _ (by omega)
    clear hg
    go_enter Try.func6, Try.ntmps6
    go_wp2_with (first | (go_at_call 7; refine (awake_calls _).mono ?_; rintro e w1 ⟨rfl, hb⟩; have HB1 := Lib.hid hb; clear hb))
    have HLT := Lib.hid (show w.heap.size ≤ w1.heap.size from HB1.out.size)
    go_loopw [5, 6, 7] (fun v5 v6 a wr => ∃ (k : Nat) (i : Int), a = .int .i64 i ∧ i = (k : Int) - 1 ∧ k ≤ ln ∧ Hid (TW wr w1.heap.size v5 v6 (es.drop k)) ∧ Hid (Below w.heap.size w wr) ∧ Hid (w1.heap.size ≤ wr.heap.size)) (fun _ _ a _ => (intOf a + 1).toNat)
    case atStart =>
      refine ⟨ln, _, rfl, rfl, Nat.le_refl _, Lib.hid ?_, HB1, Lib.hid (Nat.le_refl _)⟩
      rw [HLN.out, List.drop_length]
      exact ⟨World.ownsRow_nil _ _ _ _, World.ownsRow_nil _ _ _ _, fun k e => by cases e⟩
    case round =>
      obtain ⟨k, i, rfl, hi, hk, T1, B1, Z1⟩ := hrel
      by_cases hk0 : k = 0
      · obtain rfl : (-1 : Int) = i := by omega
        subst hk0
        clear hi
        have O5 : wr.ownsRow w1.heap.size 30 2 u5 (dbl es).length (edsC (dbl es)) := T1.out.o
        have O6 : wr.ownsRow w1.heap.size 30 2 u6 (trn es).length (edsC (trn es)) := T1.out.b
        obtain ⟨A5, c5, rfl, hE5⟩ := own_edges O5
        obtain ⟨A6, c6, rfl, hE6⟩ := own_edges O6
        obtain ⟨l5, hl5⟩ : ∃ l5, l5 = (dbl es).length := ⟨_, rfl⟩
        obtain ⟨l6, hl6⟩ : ∃ l6, l6 = (trn es).length := ⟨_, rfl⟩
        have L5 := Lib.hid hl5
        have L6 := Lib.hid hl6
        have L5b := Lib.hid (show l5 ≤ 1000000 by rw [hl5, dbl_len, ← HLN.out]; omega)
        have L6b := Lib.hid (show l6 ≤ 1000000 by rw [hl6, trn_len, ← HLN.out]; omega)
        have HNb := Lib.hid (show N ≤ 100000 by omega)
        have HNs := Lib.hid (show N ≤ 1000000 by omega)
        have HLb := Lib.hid (show ln ≤ 1000000 by omega)
        rw [← hl5, ← hl6]
        have E1 := Lib.hid (HE.out.below B1.out)
        have E5 := Lib.hid hE5
        have E6 := Lib.hid hE6
        clear O5 O6 hE5 hE6 hl5 hl6 T1 Z1
        go_wp2_with fail
        refine (knots_at E1.out HNb.out HLN.out HLb.out).mono ?_
        rintro e w2 ⟨hb, A2, c2, K, rfl, hKl, hKat, hK⟩
        have B2 := Lib.hid (B1.out.trans (hb.mono B1.out.size))
        have E2 := Lib.hid (E1.out.below hb)
        have E52 := Lib.hid (E5.out.below hb)
        have E62 := Lib.hid (E6.out.below hb)
        have KL := Lib.hid hKl
        have KA := Lib.hid hKat
        have KR := Lib.hid hK
        clear hb hKl hKat hK
        go_wp2_with fail
        refine (sort_at E2.out HNb.out HLN.out HLb.out).mono ?_
        rintro e w3 ⟨hb, A3, c3, L, ok, rfl, hLat, hL⟩
        have B3 := Lib.hid (B2.out.trans (hb.mono B2.out.size))
        have E53 := Lib.hid (E52.out.below hb)
        have E63 := Lib.hid (E62.out.below hb)
        have KA3 := Lib.hid (KA.out.below hb)
        have LA := Lib.hid hLat
        have LR := Lib.hid hL
        clear hb hLat hL
        go_wp2_with fail
        refine (sort_at E53.out HNb.out L5.out L5b.out).mono ?_
        rintro e w4 ⟨hb, A4, c4, L', ok', rfl, hLat, hL⟩
        obtain ⟨rfl, rfl⟩ := (hL.congr (fun u v _ => (dbl_adj N es u v).symm)).unique LR.out
        have B4 := Lib.hid (B3.out.trans (hb.mono B3.out.size))
        have E54 := Lib.hid (E53.out.below hb)
        have E64 := Lib.hid (E63.out.below hb)
        have KA4 := Lib.hid (KA3.out.below hb)
        have LA4 := Lib.hid (LA.out.below hb)
        have LA' := Lib.hid hLat
        have LLn := Lib.hid (Nat.le_trans LR.out.len HNs.out)
        clear hb hLat hL
        go_wp2_with fail
        refine (knots_at E54.out HNb.out L5.out L5b.out).mono ?_
        rintro e w5 ⟨hb, A7, c7, K', rfl, hKl, hKat, hK⟩
        obtain rfl := (hK.congr (fun u v => (dbl_adj N es u v).symm)).unique KR.out
        have B5 := Lib.hid (B4.out.trans (hb.mono B4.out.size))
        have E65 := Lib.hid (E64.out.below hb)
        have KA5 := Lib.hid (KA4.out.below hb)
        have KA7 := Lib.hid hKat
        have LA5 := Lib.hid (LA4.out.below hb)
        have LA5' := Lib.hid (LA'.out.below hb)
        clear hb hKl hKat hK
        go_wp2_with fail
        refine (sameK KA5.out KA7.out KL.out HNs.out).mono ?_
        rintro e w6 ⟨rfl, k6, hk6⟩
        have B6 := Lib.hid (show Below w.heap.size w w6 by rw [hk6]; exact B5.out.trans (below_drewN _))
        have E66 := Lib.hid (show EdgesAt w6 A6 (trn es) by rw [hk6]; exact E65.out.drewN _)
        have KA6 := Lib.hid (show NumsAt w6 A2 K' by rw [hk6]; exact KA5.out.drewN _)
        have LA6 := Lib.hid (show NumsAt w6 A3 L' by rw [hk6]; exact LA5.out.drewN _)
        have LA6' := Lib.hid (show NumsAt w6 A4 L' by rw [hk6]; exact LA5'.out.drewN _)
        clear hk6
        go_wp2_with fail
        refine (knots_at E66.out HNb.out L6.out L6b.out).mono ?_
        rintro e w7 ⟨hb, A8, c8, K'', rfl, hKl, hKat, hK⟩
        obtain rfl := hK.unique KR.out.turned
        have B7 := Lib.hid (B6.out.trans (hb.mono B6.out.size))
        have KA7 := Lib.hid (KA6.out.below hb)
        have KA8 := Lib.hid hKat
        have LA7 := Lib.hid (LA6.out.below hb)
        have LA7' := Lib.hid (LA6'.out.below hb)
        clear hb hKl hKat hK
        go_wp2_with fail
        refine (sameK KA7.out KA8.out KL.out HNs.out).mono ?_
        rintro e w8 ⟨rfl, k8, hk8⟩
        have B8 := Lib.hid (show Below w.heap.size w w8 by rw [hk8]; exact B7.out.trans (below_drewN _))
        have LA8 := Lib.hid (show NumsAt w8 A3 L' by rw [hk8]; exact LA7.out.drewN _)
        have LA8' := Lib.hid (show NumsAt w8 A4 L' by rw [hk8]; exact LA7'.out.drewN _)
        clear hk8
        go_wp2_with fail
        refine (sameK LA8.out LA8'.out rfl LLn.out).mono ?_
        rintro e w9 ⟨rfl, k9, hk9⟩
        have B9 := Lib.hid (show Below w.heap.size w w9 by rw [hk9]; exact B8.out.trans (below_drewN _))
        clear hk9
        go_wp2_with fail
        go_ret
        exact ⟨by simp, B9.out⟩
      · obtain ⟨j, rfl⟩ : ∃ j, k = j + 1 := ⟨k - 1, by omega⟩
        obtain rfl : (j : Int) = i := by omega
        have hjl : j < es.length := by rw [← HLN.out]; omega
        have dj : decide ((j : Int) ≥ 0) = true := decide_eq_true (by omega)
        have hwj : IntKind.i64.wrap ((j : Int) - 1) = (j : Int) - 1 := IntWalk.i64_in _ (by omega)
        have j0 : (0 : Int) ≤ (j : Int) := by omega
        have jl : (j : Int) < (ln : Int) := by omega
        obtain ⟨ad, rfl, hcs⟩ := HE.out.2 j hjl
        obtain ⟨⟨x, y⟩, hxy⟩ : ∃ e, e = es.getD j (0, 0) := ⟨_, rfl⟩
        rw [← hxy] at hcs
        have hdr : es.drop j = (x, y) :: es.drop (j + 1) := by
          rw [List.drop_eq_getElem_cons hjl, hxy, List.getD_eq_getElem?_getD, List.getElem?_eq_getElem hjl]
          rfl
        have HDR := Lib.hid hdr
        have LX := Lib.hid (show ∀ w', Below w.heap.size w w' → w'.cell? (ad.add (j * 2)) = some (.int .i64 x) from fun w' hb => pw_cell_below hb (by have := hcs 0 (.int .i64 x) rfl; rw [show ∀ a : Addr, a.add 0 = a from fun a => if_pos rfl] at this; exact this))
        have LY := Lib.hid (show ∀ w', Below w.heap.size w w' → w'.cell? ⟨(ad.add (j * 2)).block, (ad.add (j * 2)).off + 1, none⟩ = some (.int .i64 y) from fun w' hb => pw_cell_below hb (hcs 1 (.int .i64 y) rfl))
        clear hi hcs hxy hdr hk0
        go_upto_region 9 with fail
        obtain ⟨w5, hw5⟩ : ∃ w5, w5 = wr.drew := ⟨_, rfl⟩
        have T5 := Lib.hid (show TW w5 w1.heap.size u5 u6 (es.drop (j + 1)) by rw [hw5]; exact T1.out.drew)
        have B5 := Lib.hid (show Below w.heap.size w w5 by rw [hw5]; exact bdrew B1.out)
        have Z5 := Lib.hid (show w1.heap.size ≤ w5.heap.size by rw [hw5]; exact Z1.out)
        have DL := Lib.hid (show (dbl (es.drop (j + 1))).length ≤ 6000 by rw [dbl_len, List.length_drop, ← HLN.out]; omega)
        have TL := Lib.hid (show (trn (es.drop (j + 1))).length ≤ 3000 by rw [trn_len, List.length_drop, ← HLN.out]; omega)
        have HW5 := Lib.hid hw5
        clear hw5
        refine start_ (n := 12) (S := fun w' => w'.cell? (ad.add (j * 2)) = some (.int .i64 x) ∧ w'.cell? ⟨(ad.add (j * 2)).block, (ad.add (j * 2)).off + 1, none⟩ = some (.int .i64 y)) (ds := []) #[false, false, false, false, false, false, false, false, false, false, false, false] (by kernel_rfl) rfl rfl ⟨(by rw [← HW5.out]; exact LX.out _ B5.out), (by rw [← HW5.out]; exact LY.out _ B5.out)⟩ (fun hHeld => ?_)
        rw [← HW5.out] at hHeld ⊢
        refine pure_ (i := 0) (N := some 33) (v := ?_) (a' := ?_) #[true, false, false, false, false, false, false, false, false, false, false, false] rfl rfl (by kernel_rfl) (fun _ _ _ h => h) (Or.inl ⟨by rfl, ?_⟩) ?_ ?_
        rotate_left
        · intro w'
          go_simp
          with_reducible rfl
        rotate_left
        · simp only [Act.put, List.setIfInBounds_toArray, List.set_cons_zero, List.set_cons_succ]
          rfl
        refine pure_ (i := 1) (N := some 34) (v := ?_) (a' := ?_) #[true, true, false, false, false, false, false, false, false, false, false, false] rfl rfl (by kernel_rfl) (fun _ _ _ h => h) (Or.inl ⟨by rfl, ?_⟩) ?_ ?_
        rotate_left
        · intro w'
          go_simp
          with_reducible rfl
        rotate_left
        · simp only [Act.put, List.setIfInBounds_toArray, List.set_cons_zero, List.set_cons_succ]
          rfl
        refine pure_ (i := 2) (N := some 35) (v := ?_) (a' := ?_) #[true, true, true, false, false, false, false, false, false, false, false, false] rfl rfl (by kernel_rfl) (fun _ _ _ h => h) (Or.inl ⟨by rfl, ?_⟩) ?_ ?_
        rotate_left
        · intro w'
          go_simp
          with_reducible rfl
        rotate_left
        · simp only [Act.put, List.setIfInBounds_toArray, List.set_cons_zero, List.set_cons_succ]
          rfl
        refine pure_ (i := 3) (N := some 36) (v := ?_) (a' := ?_) #[true, true, true, true, false, false, false, false, false, false, false, false] rfl rfl (by kernel_rfl) (fun _ _ _ h => h) (Or.inl ⟨by rfl, ?_⟩) ?_ ?_
        rotate_left
        · intro w'
          go_simp
          with_reducible rfl
        rotate_left
        · simp only [Act.put, List.setIfInBounds_toArray, List.set_cons_zero, List.set_cons_succ]
          rfl
        refine pure_ (i := 5) (N := some 38) (v := ?_) (a' := ?_) #[true, true, true, true, false, true, false, false, false, false, false, false] rfl rfl (by kernel_rfl) (fun _ _ _ h => h) (Or.inl ⟨by rfl, ?_⟩) ?_ ?_
        rotate_left
        · intro w'
          go_simp
          with_reducible rfl
        rotate_left
        · simp only [Act.put, List.setIfInBounds_toArray, List.set_cons_zero, List.set_cons_succ]
          rfl
        refine pure_ (i := 6) (N := some 39) (v := ?_) (a' := ?_) #[true, true, true, true, false, true, true, false, false, false, false, false] rfl rfl (by kernel_rfl) (fun _ _ _ h => h) (Or.inl ⟨by rfl, ?_⟩) ?_ ?_
        rotate_left
        · intro w'
          go_simp
          with_reducible rfl
        rotate_left
        · simp only [Act.put, List.setIfInBounds_toArray, List.set_cons_zero, List.set_cons_succ]
          rfl
        refine pure_ (i := 7) (N := some 40) (v := ?_) (a' := ?_) #[true, true, true, true, false, true, true, true, false, false, false, false] rfl rfl (by kernel_rfl) (fun _ _ _ h => h) (Or.inl ⟨by rfl, ?_⟩) ?_ ?_
        rotate_left
        · intro w'
          go_simp
          with_reducible rfl
        rotate_left
        · simp only [Act.put, List.setIfInBounds_toArray, List.set_cons_zero, List.set_cons_succ]
          rfl
        refine take_ (i := 4) (N := some 37) (v := ?_) (a' := ?_) #[true, true, true, true, true, true, true, true, false, false, false, false] rfl rfl (by kernel_rfl) (fun _ _ _ h => h) (Or.inl ⟨by rfl, ?_⟩) hHeld ?_ ?_
        rotate_left
        · rintro w' ⟨s0, s1⟩
          go_simp
          with_reducible rfl
        rotate_left
        · simp only [Act.put, List.setIfInBounds_toArray, List.set_cons_zero, List.set_cons_succ]
          rfl
        refine take_ (i := 8) (N := some 41) (v := ?_) (a' := ?_) #[true, true, true, true, true, true, true, true, true, false, false, false] rfl rfl (by kernel_rfl) (fun _ _ _ h => h) (Or.inl ⟨by rfl, ?_⟩) hHeld ?_ ?_
        rotate_left
        · rintro w' ⟨s0, s1⟩
          go_simp
          with_reducible rfl
        rotate_left
        · simp only [Act.put, List.setIfInBounds_toArray, List.set_cons_zero, List.set_cons_succ]
          rfl
        refine one_ (i := 9) (N := some 42) #[true, true, true, true, true, true, true, true, true, true, false, false] rfl rfl (by kernel_rfl) (by decide) (fun K hK => ?_)
        refine value_ (v := .slice (some ⟨w5.heap.size, 0, none⟩) 2 2) (w1 := w5.alloc (.cells (edsC [(x, y), (x, y)]).toArray 30)) (by rfl) rfl (exec_bs rfl [(0, .agg (edC (x, y)).toArray), (1, .agg (edC (x, y)).toArray)] (by simp only [List.map_toArray, List.map_cons, List.map_nil]; rfl) (slice_pair2 (x, y) (x, y) w5)) ?_
        refine hK.out _ _ ⟨LX.out _ (below_alloc B5.out _), LY.out _ (below_alloc B5.out _)⟩ (fun hHeld => ?_)
        clear hK K
        refine norm_ (a' := ?_) ?_ ?_
        rotate_left
        · show Act.put _ (some 42) _ = _
          simp only [Act.put, List.setIfInBounds_toArray, List.set_cons_zero, List.set_cons_succ]
          rfl
        refine one_ (i := 10) (N := some 43) #[true, true, true, true, true, true, true, true, true, true, true, false] rfl rfl (by kernel_rfl) (by decide) (fun K hK => ?_)
        refine step_append_more (w0 := w5) 2 (by omega) w1.heap.size (by rfl) (.tmp 33) (.tmp 42) 22 30 _ 2 16 rfl Try.underlying22 infoPair3 rfl (by omega) (by omega) u5 (dbl (es.drop (j + 1))).length (edsC (dbl (es.drop (j + 1)))) (edsC [(x, y), (x, y)]) rfl rfl rfl (edsC_one _) T5.out.o (Below.refl _ _) Z5.out (by have := DL.out; omega) ?_
        intro v1 w6 hown hbe hg hat
        have HOWN := Lib.hid hown; have HG := Lib.hid hg; have HAT := Lib.hid hat; have B6 := Lib.hid (B5.out.trans (hbe.mono HLT.out)); have Z6 := Lib.hid (Nat.le_trans Z5.out hbe.size)
        clear hown hbe hg hat
        refine hK.out _ _ ⟨LX.out _ B6.out, LY.out _ B6.out⟩ (fun hHeld => ?_)
        clear hK K
        refine norm_ (a' := ?_) ?_ ?_
        rotate_left
        · show Act.put _ (some 43) _ = _
          simp only [Act.put, List.setIfInBounds_toArray, List.set_cons_zero, List.set_cons_succ]
          rfl
        refine pure_ (i := 11) (N := some 5) (v := ?_) (a' := ?_) #[true, true, true, true, true, true, true, true, true, true, true, true] rfl rfl (by kernel_rfl) (fun _ _ _ h => h) (Or.inl ⟨by rfl, ?_⟩) ?_ ?_
        rotate_left
        · intro w'
          go_simp
          with_reducible rfl
        rotate_left
        · simp only [Act.put, List.setIfInBounds_toArray, List.set_cons_zero, List.set_cons_succ]
          rfl
        refine done_ (by kernel_rfl) ?_

        go_upto_region 10 with fail
        obtain ⟨w7, hw7⟩ : ∃ w7, w7 = w6.drew := ⟨_, rfl⟩
        have hD := dbl_cons (x, y) (es.drop (j + 1))
        have T7 := Lib.hid (show w7.ownsRow w1.heap.size 30 2 v1 (dbl (es.drop j)).length (edsC (dbl (es.drop j))) by
          rw [hw7, HDR.out, hD, List.length_append, edsC_append]
          exact HOWN.out)
        have T8 := Lib.hid (show w7.ownsRow w1.heap.size 30 2 u6 (trn (es.drop (j + 1))).length (edsC (trn (es.drop (j + 1)))) by
          rw [hw7]
          exact own_keep T5.out.b (fun k e => HG.out.block k (own_lt' T5.out.b e) (fun e2 => T5.out.ne k e2.symm e)))
        have N7 := Lib.hid (show ∀ k, v1.ownBlock = some k → u6.ownBlock ≠ some k from fun k e e2 => by
          rcases HAT.out with hp | ⟨b, hb, hle⟩
          · exact T5.out.ne k (hp ▸ e) e2
          · rw [hb] at e
            injection e with e
            have := own_lt' T5.out.b e2
            omega)
        have B7 := Lib.hid (show Below w.heap.size w w7 by rw [hw7]; exact bdrew B6.out)
        have Z7 := Lib.hid (show w1.heap.size ≤ w7.heap.size by rw [hw7]; exact Z6.out)
        have HW7 := Lib.hid hw7
        clear hw7 hD HOWN HG HAT T5 B5 Z5 T1 B1 Z1 HW5
        refine start_ (n := 15) (S := fun w' => w'.cell? (ad.add (j * 2)) = some (.int .i64 x) ∧ w'.cell? ⟨(ad.add (j * 2)).block, (ad.add (j * 2)).off + 1, none⟩ = some (.int .i64 y)) (ds := []) #[false, false, false, false, false, false, false, false, false, false, false, false, false, false, false] (by kernel_rfl) rfl rfl ⟨(by rw [← HW7.out]; exact LX.out _ B7.out), (by rw [← HW7.out]; exact LY.out _ B7.out)⟩ (fun hHeld => ?_)
        rw [← HW7.out] at hHeld ⊢
        refine pure_ (i := 0) (N := some 44) (v := ?_) (a' := ?_) #[true, false, false, false, false, false, false, false, false, false, false, false, false, false, false] rfl rfl (by kernel_rfl) (fun _ _ _ h => h) (Or.inl ⟨by rfl, ?_⟩) ?_ ?_
        rotate_left
        · intro w'
          go_simp
          with_reducible rfl
        rotate_left
        · simp only [Act.put, List.setIfInBounds_toArray, List.set_cons_zero, List.set_cons_succ]
          rfl
        refine pure_ (i := 1) (N := some 45) (v := ?_) (a' := ?_) #[true, true, false, false, false, false, false, false, false, false, false, false, false, false, false] rfl rfl (by kernel_rfl) (fun _ _ _ h => h) (Or.inl ⟨by rfl, ?_⟩) ?_ ?_
        rotate_left
        · intro w'
          go_simp
          with_reducible rfl
        rotate_left
        · simp only [Act.put, List.setIfInBounds_toArray, List.set_cons_zero, List.set_cons_succ]
          rfl
        refine pure_ (i := 2) (N := some 46) (v := ?_) (a' := ?_) #[true, true, true, false, false, false, false, false, false, false, false, false, false, false, false] rfl rfl (by kernel_rfl) (fun _ _ _ h => h) (Or.inl ⟨by rfl, ?_⟩) ?_ ?_
        rotate_left
        · intro w'
          go_simp
          with_reducible rfl
        rotate_left
        · simp only [Act.put, List.setIfInBounds_toArray, List.set_cons_zero, List.set_cons_succ]
          rfl
        refine pure_ (i := 3) (N := some 47) (v := ?_) (a' := ?_) #[true, true, true, true, false, false, false, false, false, false, false, false, false, false, false] rfl rfl (by kernel_rfl) (fun _ _ _ h => h) (Or.inl ⟨by rfl, ?_⟩) ?_ ?_
        rotate_left
        · intro w'
          go_simp
          with_reducible rfl
        rotate_left
        · simp only [Act.put, List.setIfInBounds_toArray, List.set_cons_zero, List.set_cons_succ]
          rfl
        refine pure_ (i := 4) (N := some 48) (v := ?_) (a' := ?_) #[true, true, true, true, true, false, false, false, false, false, false, false, false, false, false] rfl rfl (by kernel_rfl) (fun _ _ _ h => h) (Or.inl ⟨by rfl, ?_⟩) ?_ ?_
        rotate_left
        · intro w'
          go_simp
          with_reducible rfl
        rotate_left
        · simp only [Act.put, List.setIfInBounds_toArray, List.set_cons_zero, List.set_cons_succ]
          rfl
        refine pure_ (i := 6) (N := some 50) (v := ?_) (a' := ?_) #[true, true, true, true, true, false, true, false, false, false, false, false, false, false, false] rfl rfl (by kernel_rfl) (fun _ _ _ h => h) (Or.inl ⟨by rfl, ?_⟩) ?_ ?_
        rotate_left
        · intro w'
          go_simp
          with_reducible rfl
        rotate_left
        · simp only [Act.put, List.setIfInBounds_toArray, List.set_cons_zero, List.set_cons_succ]
          rfl
        refine pure_ (i := 7) (N := some 51) (v := ?_) (a' := ?_) #[true, true, true, true, true, false, true, true, false, false, false, false, false, false, false] rfl rfl (by kernel_rfl) (fun _ _ _ h => h) (Or.inl ⟨by rfl, ?_⟩) ?_ ?_
        rotate_left
        · intro w'
          go_simp
          with_reducible rfl
        rotate_left
        · simp only [Act.put, List.setIfInBounds_toArray, List.set_cons_zero, List.set_cons_succ]
          rfl
        refine pure_ (i := 8) (N := some 52) (v := ?_) (a' := ?_) #[true, true, true, true, true, false, true, true, true, false, false, false, false, false, false] rfl rfl (by kernel_rfl) (fun _ _ _ h => h) (Or.inl ⟨by rfl, ?_⟩) ?_ ?_
        rotate_left
        · intro w'
          go_simp
          with_reducible rfl
        rotate_left
        · simp only [Act.put, List.setIfInBounds_toArray, List.set_cons_zero, List.set_cons_succ]
          rfl
        refine pure_ (i := 9) (N := some 53) (v := ?_) (a' := ?_) #[true, true, true, true, true, false, true, true, true, true, false, false, false, false, false] rfl rfl (by kernel_rfl) (fun _ _ _ h => h) (Or.inl ⟨by rfl, ?_⟩) ?_ ?_
        rotate_left
        · intro w'
          go_simp
          with_reducible rfl
        rotate_left
        · simp only [Act.put, List.setIfInBounds_toArray, List.set_cons_zero, List.set_cons_succ]
          rfl
        refine take_ (i := 5) (N := some 49) (v := ?_) (a' := ?_) #[true, true, true, true, true, true, true, true, true, true, false, false, false, false, false] rfl rfl (by kernel_rfl) (fun _ _ _ h => h) (Or.inl ⟨by rfl, ?_⟩) hHeld ?_ ?_
        rotate_left
        · rintro w' ⟨s0, s1⟩
          go_simp
          with_reducible rfl
        rotate_left
        · simp only [Act.put, List.setIfInBounds_toArray, List.set_cons_zero, List.set_cons_succ]
          rfl
        refine take_ (i := 10) (N := some 54) (v := ?_) (a' := ?_) #[true, true, true, true, true, true, true, true, true, true, true, false, false, false, false] rfl rfl (by kernel_rfl) (fun _ _ _ h => h) (Or.inl ⟨by rfl, ?_⟩) hHeld ?_ ?_
        rotate_left
        · rintro w' ⟨s0, s1⟩
          go_simp
          with_reducible rfl
        rotate_left
        · simp only [Act.put, List.setIfInBounds_toArray, List.set_cons_zero, List.set_cons_succ]
          rfl
        refine pure_ (i := 11) (N := some 55) (v := ?_) (a' := ?_) #[true, true, true, true, true, true, true, true, true, true, true, true, false, false, false] rfl rfl (by kernel_rfl) (fun _ _ _ h => h) (Or.inl ⟨by rfl, ?_⟩) ?_ ?_
        rotate_left
        · intro w'
          go_simp
          with_reducible rfl
        rotate_left
        · simp only [Act.put, List.setIfInBounds_toArray, List.set_cons_zero, List.set_cons_succ]
          rfl
        refine one_ (i := 12) (N := some 56) #[true, true, true, true, true, true, true, true, true, true, true, true, true, false, false] rfl rfl (by kernel_rfl) (by decide) (fun K hK => ?_)
        refine value_ (v := .slice (some ⟨w7.heap.size, 0, none⟩) 1 1) (w1 := w7.alloc (.cells (edsC [(y, x)]).toArray 30)) (by rfl) rfl (exec_bs rfl [(0, .agg (edC (y, x)).toArray)] (by simp only [List.map_toArray, List.map_cons, List.map_nil]; rfl) (slice_pair1 (y, x) w7)) ?_
        refine hK.out _ _ ⟨LX.out _ (below_alloc B7.out _), LY.out _ (below_alloc B7.out _)⟩ (fun hHeld => ?_)
        clear hK K
        refine norm_ (a' := ?_) ?_ ?_
        rotate_left
        · show Act.put _ (some 56) _ = _
          simp only [Act.put, List.setIfInBounds_toArray, List.set_cons_zero, List.set_cons_succ]
          rfl
        refine one_ (i := 13) (N := some 57) #[true, true, true, true, true, true, true, true, true, true, true, true, true, true, false] rfl rfl (by kernel_rfl) (by decide) (fun K hK => ?_)
        refine step_append_more (w0 := w7) 1 (by omega) w1.heap.size (by rfl) (.tmp 44) (.tmp 56) 22 30 _ 2 16 rfl Try.underlying22 infoPair3 rfl (by omega) (by omega) u6 (trn (es.drop (j + 1))).length (edsC (trn (es.drop (j + 1)))) (edsC [(y, x)]) rfl rfl rfl (edsC_one _) T8.out (Below.refl _ _) Z7.out (by have := TL.out; omega) ?_
        intro v2 w8 hown hbe hg hat
        have HOWN := Lib.hid hown; have HG := Lib.hid hg; have HAT := Lib.hid hat; have B8 := Lib.hid (B7.out.trans (hbe.mono HLT.out)); have Z8 := Lib.hid (Nat.le_trans Z7.out hbe.size)
        clear hown hbe hg hat
        refine hK.out _ _ ⟨LX.out _ B8.out, LY.out _ B8.out⟩ (fun hHeld => ?_)
        clear hK K
        refine norm_ (a' := ?_) ?_ ?_
        rotate_left
        · show Act.put _ (some 57) _ = _
          simp only [Act.put, List.setIfInBounds_toArray, List.set_cons_zero, List.set_cons_succ]
          rfl
        refine pure_ (i := 14) (N := some 6) (v := ?_) (a' := ?_) #[true, true, true, true, true, true, true, true, true, true, true, true, true, true, true] rfl rfl (by kernel_rfl) (fun _ _ _ h => h) (Or.inl ⟨by rfl, ?_⟩) ?_ ?_
        rotate_left
        · intro w'
          go_simp
          with_reducible rfl
        rotate_left
        · simp only [Act.put, List.setIfInBounds_toArray, List.set_cons_zero, List.set_cons_succ]
          rfl
        refine done_ (by kernel_rfl) ?_

        go_wp2_with fail
        go_roundw
        case rel =>
          refine ⟨j, (j : Int) - 1, (by first | trivial | go_num), rfl, by omega, Lib.hid ⟨own_keep T7.out (fun k e => HG.out.block k (own_lt' T7.out e) (fun e2 => N7.out k e e2.symm)), ?_, fun k e e2 => ?_⟩, B8, Z8⟩
          · rw [HDR.out, trn_cons, List.length_append, edsC_append]
            exact HOWN.out
          · rcases HAT.out with hp | ⟨b, hb, hle⟩
            · exact N7.out k e (hp ▸ e2)
            · rw [hb] at e2
              injection e2 with e2
              have := own_lt' T7.out e
              omega
        case measure => simp [intOf]
#print axioms turned_calls
end Go.Proofs.YtgbeigippahbaaaK
