/- Knots: what memory holds of the walk's state. -/
import Derived.Test.YtgbeigippahbaaaKN
import Derived.Test.YtgbeigippahbaaaKT
import Derived.WalkSmall
namespace Go.Proofs.YtgbeigippahbaaaK
open Go.RowKit Go.Proofs Go.Proofs.YtgbeigippahbaaaW.PrintWords Go.Proofs.YtgbeigippahbaaaW.PrintLast

def numsC (n : Nat) (f : Nat → Nat) : List Value := (List.range n).map fun v => iv (f v)
def boolsC (n : Nat) (f : Nat → Bool) : List Value := (List.range n).map fun v => .bool (f v)
def wkC : List (Nat × Nat) → List Value
  | [] => []
  | x :: W => wkC W ++ [iv x.1, iv x.2]
theorem wkC_len : ∀ W : List (Nat × Nat), (wkC W).length = W.length * 2
  | [] => rfl
  | x :: W => by rw [wkC, List.length_append, wkC_len W]; simp; omega
theorem numsC_upd (n : Nat) (f : Nat → Nat) (v x : Nat) : (numsC n f).toArray.setIfInBounds v (iv x) = (numsC n (upd f v x)).toArray := by
  rw [List.setIfInBounds_toArray]
  congr 1
  rw [numsC, range_map_set]
  refine List.map_congr_left fun j _ => ?_
  show (if j = v then iv x else iv (f j)) = iv (upd f v x j)
  unfold upd
  split <;> rfl
theorem boolsC_upd (n : Nat) (f : Nat → Bool) (v : Nat) (x : Bool) : (boolsC n f).toArray.setIfInBounds v (.bool x) = (boolsC n (upd f v x)).toArray := by
  rw [List.setIfInBounds_toArray]
  congr 1
  rw [boolsC, range_map_set]
  refine List.map_congr_left fun j _ => ?_
  show (if j = v then Value.bool x else .bool (f j)) = .bool (upd f v x j)
  unfold upd
  split <;> rfl
theorem numsC_at {w : World} {g n : Nat} {f : Nat → Nat} (h : w.heap[g]? = some (.cells (numsC n f).toArray 3 (0, 0))) {v : Nat} (hv : v < n) : w.cell? ⟨g, v, none⟩ = some (iv (f v)) := by
  rw [cell_of_row w g v _ _ (0, 0) h, List.getElem?_toArray, numsC, List.getElem?_map, List.getElem?_range hv]
  rfl
theorem boolsC_at {w : World} {g n : Nat} {f : Nat → Bool} (h : w.heap[g]? = some (.cells (boolsC n f).toArray 4 (0, 0))) {v : Nat} (hv : v < n) : w.cell? ⟨g, v, none⟩ = some (.bool (f v)) := by
  rw [cell_of_row w g v _ _ (0, 0) h, List.getElem?_toArray, boolsC, List.getElem?_map, List.getElem?_range hv]
  rfl
theorem frozen_at {w : World} {g v : Nat} {cs : Array Value} {t : TypeId} (h : w.heap[g]? = some (.cells cs t (0, 0))) : w.frozen? ⟨g, v, none⟩ = false := by simp [World.frozen?, h]
/-- The blocks that stay where they are. -/
structure Bl where
  N : Nat
  o : Nat
  s : Nat
  l : Nat
  e : Nat
  p : Nat
def Bl.off (b : Bl) (k : Nat) : Prop := k ≠ b.s ∧ k ≠ b.l ∧ k ≠ b.e ∧ k ≠ b.p
structure Bl.ok (b : Bl) : Prop where
  sl : b.s ≠ b.l
  se : b.s ≠ b.e
  sp : b.s ≠ b.p
  le : b.l ≠ b.e
  lp : b.l ≠ b.p
  ep : b.e ≠ b.p
  bs : b.N ≤ b.s
  bl : b.N ≤ b.l
  be : b.N ≤ b.e
  bp : b.N ≤ b.p
structure KW (w : World) (b : Bl) (n : Nat) (adj : Nat → List Nat) (t : T) (vs vw : Value) : Prop where
  bl : b.ok
  out : OutAt w b.N b.o n adj
  sz : b.N ≤ w.heap.size
  seen : w.heap[b.s]? = some (.cells (numsC n t.seen).toArray 3 (0, 0))
  low : w.heap[b.l]? = some (.cells (numsC n t.low).toArray 3 (0, 0))
  least : w.heap[b.e]? = some (.cells (numsC n t.least).toArray 3 (0, 0))
  opn : w.heap[b.p]? = some (.cells (boolsC n t.opn).toArray 4 (0, 0))
  stk : w.ownsRow b.N 3 1 vs t.stack.length (t.stack.map iv)
  wrk : w.ownsRow b.N 43 2 vw t.work.length (wkC t.work)
  os : ∀ k, vs.ownBlock = some k → b.off k
  ow : ∀ k, vw.ownBlock = some k → b.off k
  sw : ∀ k, vs.ownBlock = some k → vw.ownBlock ≠ some k
section
variable {w w' : World} {b : Bl} {n : Nat} {adj : Nat → List Nat} {t : T} {vs vw : Value}
theorem OutAt.keep {B g0 : Nat} (h : OutAt w B g0 n adj) {ok : Nat → Prop} (hk : Keep w w' ok) (ho : ∀ k, k < B → ok k) : OutAt w' B g0 n adj :=
  ⟨h.lt, fun v hv => by
    obtain ⟨A, c, h1, h2, h3⟩ := h.row v hv
    refine ⟨A, c, hk.cell h1 (ho _ h.lt), h2, fun k hkk => ?_⟩
    obtain ⟨g, e1, e2, e3⟩ := h3 k hkk
    exact ⟨g, e1, e2, hk.cell e3 (ho _ e2)⟩⟩
theorem KW.more (h : KW w b n adj t vs vw) (hk : Keep w w' (fun k => k < w.heap.size)) : KW w' b n adj t vs vw :=
  have g : ∀ {k : Nat} {o : Obj}, w.heap[k]? = some o → w'.heap[k]? = some o := fun e => hk.heap e (Array.getElem?_eq_some_iff.1 e).1
  ⟨h.bl, h.out.keep hk (fun k hlt => Nat.lt_of_lt_of_le hlt h.sz), Nat.le_trans h.sz hk.size, g h.seen, g h.low, g h.least, g h.opn,
    own_keep h.stk (fun k e => hk.block k (own_lt' h.stk e) (own_lt' h.stk e)), own_keep h.wrk (fun k e => hk.block k (own_lt' h.wrk e) (own_lt' h.wrk e)), h.os, h.ow, h.sw⟩
theorem KW.drew (h : KW w b n adj t vs vw) : KW w.drew b n adj t vs vw := h.more (Keep.drew _ _)
/-- One cell of a block that stays is written. -/
theorem KW.put_aux (h : KW w b n adj t vs vw) {g v : Nat} {u : Value} (hg : b.N ≤ g) (hs : ∀ k, b.off k → k ≠ g) :
    OutAt (w.setCell ⟨g, v, none⟩ u) b.N b.o n adj ∧ b.N ≤ (w.setCell ⟨g, v, none⟩ u).heap.size ∧ (w.setCell ⟨g, v, none⟩ u).ownsRow b.N 3 1 vs t.stack.length (t.stack.map iv) ∧ (w.setCell ⟨g, v, none⟩ u).ownsRow b.N 43 2 vw t.work.length (wkC t.work) := by
  have hk : Keep w (w.setCell ⟨g, v, none⟩ u) (fun k => k ≠ g) := Keep.setCell _ _ _ (fun h => h rfl)
  exact ⟨h.out.keep hk (fun k hk => by omega), Nat.le_trans h.sz hk.size, own_keep h.stk (fun k e => hk.block k (own_lt' h.stk e) (hs k (h.os k e))), own_keep h.wrk (fun k e => hk.block k (own_lt' h.wrk e) (hs k (h.ow k e)))⟩
theorem other {g k v : Nat} {u : Value} {o : Obj} (hk : w.heap[k]? = some o) (hne : k ≠ g) : (w.setCell ⟨g, v, none⟩ u).heap[k]? = some o := (Below.heap_setCell _ _ _ _ hne).trans hk
theorem KW.setSeen (h : KW w b n adj t vs vw) (v x : Nat) : KW (w.setCell ⟨b.s, v, none⟩ (iv x)) b n adj { t with seen := upd t.seen v x } vs vw := by
  obtain ⟨h1, h2, h3, h4⟩ := h.put_aux (g := b.s) (v := v) (u := iv x) h.bl.bs (fun k hk => hk.1)
  refine ⟨h.bl, h1, h2, ?_, other h.low h.bl.sl.symm, other h.least h.bl.se.symm, other h.opn h.bl.sp.symm, h3, h4, h.os, h.ow, h.sw⟩
  rw [heap_set h.seen, numsC_upd]
theorem KW.setLow (h : KW w b n adj t vs vw) (v x : Nat) : KW (w.setCell ⟨b.l, v, none⟩ (iv x)) b n adj { t with low := upd t.low v x } vs vw := by
  obtain ⟨h1, h2, h3, h4⟩ := h.put_aux (g := b.l) (v := v) (u := iv x) h.bl.bl (fun k hk => hk.2.1)
  refine ⟨h.bl, h1, h2, other h.seen h.bl.sl, ?_, other h.least h.bl.le.symm, other h.opn h.bl.lp.symm, h3, h4, h.os, h.ow, h.sw⟩
  rw [heap_set h.low, numsC_upd]
theorem KW.setLeast (h : KW w b n adj t vs vw) (v x : Nat) : KW (w.setCell ⟨b.e, v, none⟩ (iv x)) b n adj { t with least := upd t.least v x } vs vw := by
  obtain ⟨h1, h2, h3, h4⟩ := h.put_aux (g := b.e) (v := v) (u := iv x) h.bl.be (fun k hk => hk.2.2.1)
  refine ⟨h.bl, h1, h2, other h.seen h.bl.se, other h.low h.bl.le, ?_, other h.opn h.bl.ep.symm, h3, h4, h.os, h.ow, h.sw⟩
  rw [heap_set h.least, numsC_upd]
theorem KW.setOpen (h : KW w b n adj t vs vw) (v : Nat) (x : Bool) : KW (w.setCell ⟨b.p, v, none⟩ (.bool x)) b n adj { t with opn := upd t.opn v x } vs vw := by
  obtain ⟨h1, h2, h3, h4⟩ := h.put_aux (g := b.p) (v := v) (u := .bool x) h.bl.bp (fun k hk => hk.2.2.2)
  refine ⟨h.bl, h1, h2, other h.seen h.bl.sp, other h.low h.bl.lp, other h.least h.bl.ep, ?_, h3, h4, h.os, h.ow, h.sw⟩
  rw [heap_set h.opn, boolsC_upd]
theorem Bl.ok.offN {b : Bl} (h : b.ok) {k : Nat} (hk : k < b.N) : b.off k := ⟨by have := h.bs; omega, by have := h.bl; omega, by have := h.be; omega, by have := h.bp; omega⟩
theorem KW.lts (h : KW w b n adj t vs vw) : b.s < w.heap.size ∧ b.l < w.heap.size ∧ b.e < w.heap.size ∧ b.p < w.heap.size := ⟨(Array.getElem?_eq_some_iff.1 h.seen).1, (Array.getElem?_eq_some_iff.1 h.low).1, (Array.getElem?_eq_some_iff.1 h.least).1, (Array.getElem?_eq_some_iff.1 h.opn).1⟩
/-- A block that is grown is none of those. -/
theorem KW.grown_aux (h : KW w b n adj t vs vw) {r : Option Nat} (hg : w.grownBy w' r) (hr : ∀ k, r = some k → b.off k) (hn : ∀ k, r = some k → b.N ≤ k) :
    OutAt w' b.N b.o n adj ∧ b.N ≤ w'.heap.size ∧ w'.heap[b.s]? = some (.cells (numsC n t.seen).toArray 3 (0, 0)) ∧ w'.heap[b.l]? = some (.cells (numsC n t.low).toArray 3 (0, 0)) ∧ w'.heap[b.e]? = some (.cells (numsC n t.least).toArray 3 (0, 0)) ∧ w'.heap[b.p]? = some (.cells (boolsC n t.opn).toArray 4 (0, 0)) := by
  have hk := Keep.of_grown hg
  exact ⟨h.out.keep hk (fun k hk e => by have := hn k e; omega), Nat.le_trans h.sz hk.size, hk.heap h.seen (fun e => (hr _ e).1 rfl), hk.heap h.low (fun e => (hr _ e).2.1 rfl), hk.heap h.least (fun e => (hr _ e).2.2.1 rfl), hk.heap h.opn (fun e => (hr _ e).2.2.2 rfl)⟩
theorem KW.fresh (h : KW w b n adj t vs vw) {k : Nat} (hk : w.heap.size ≤ k) : b.off k := by
  obtain ⟨h1, h2, h3, h4⟩ := h.lts
  exact ⟨by omega, by omega, by omega, by omega⟩
/-- The stack has grown. -/
theorem KW.push (h : KW w b n adj t vs vw) {v : Nat} {vs' : Value} (hown : w'.ownsRow b.N 3 1 vs' (t.stack.length + 1) (t.stack.map iv ++ [iv v])) (hg : w.grownBy w' vs.ownBlock) (hat : vs'.ownBlock = vs.ownBlock ∨ ∃ k, vs'.ownBlock = some k ∧ w.heap.size ≤ k) :
    KW w' b n adj { t with stack := t.stack ++ [v] } vs' vw := by
  obtain ⟨h1, h2, h3, h4, h5, h6⟩ := h.grown_aux hg h.os (fun k e => own_base h.stk k e)
  refine ⟨h.bl, h1, h2, h3, h4, h5, h6, ?_, own_keep h.wrk (fun k e => hg.block k (own_lt' h.wrk e) (fun e2 => h.sw k e2.symm e)), fun k e => ?_, h.ow, fun k e => ?_⟩
  · rw [List.map_append, List.length_append]
    exact hown
  · rcases hat with hat | ⟨j, hj, hle⟩
    · exact h.os k (hat ▸ e)
    · rw [hj] at e
      injection e with e
      exact h.fresh (by omega)
  · rcases hat with hat | ⟨j, hj, hle⟩
    · exact h.sw k (hat ▸ e)
    · rw [hj] at e
      injection e with e
      intro e2
      have := own_lt' h.wrk e2
      omega
/-- The work has grown. -/
theorem KW.pushW (h : KW w b n adj t vs vw) {x : Nat × Nat} {vw' : Value} (hown : w'.ownsRow b.N 43 2 vw' (t.work.length + 1) (wkC t.work ++ [iv x.1, iv x.2])) (hg : w.grownBy w' vw.ownBlock) (hat : vw'.ownBlock = vw.ownBlock ∨ ∃ k, vw'.ownBlock = some k ∧ w.heap.size ≤ k) :
    KW w' b n adj { t with work := x :: t.work } vs vw' := by
  obtain ⟨h1, h2, h3, h4, h5, h6⟩ := h.grown_aux hg h.ow (fun k e => own_base h.wrk k e)
  refine ⟨h.bl, h1, h2, h3, h4, h5, h6, own_keep h.stk (fun k e => hg.block k (own_lt' h.stk e) (fun e2 => h.sw k e e2.symm)), hown, h.os, fun k e => ?_, fun k e => ?_⟩
  · rcases hat with hat | ⟨j, hj, hle⟩
    · exact h.ow k (hat ▸ e)
    · rw [hj] at e
      injection e with e
      exact h.fresh (by omega)
  · rcases hat with hat | ⟨j, hj, hle⟩
    · rw [hat]; exact h.sw k e
    · rw [hj]
      intro e2
      injection e2 with e2
      have := own_lt' h.stk e
      omega
/-- Other work. -/
theorem KW.newW (h : KW w b n adj t vs vw) {W : List (Nat × Nat)} {g c : Nat} (hown : w.ownsRow b.N 43 2 (.slice (some ⟨g, 0, none⟩) W.length c) W.length (wkC W)) (ho : b.off g) (hs : vs.ownBlock ≠ some g) :
    KW w b n adj { t with work := W } vs (.slice (some ⟨g, 0, none⟩) W.length c) :=
  ⟨h.bl, h.out, h.sz, h.seen, h.low, h.least, h.opn, h.stk, hown, h.os, fun k e => by injection e with e; subst e; exact ho, fun k e e2 => by injection e2 with e2; subst e2; exact hs e⟩
/-- No work. -/
theorem KW.noW (h : KW w b n adj t vs vw) : KW w b n adj { t with work := [] } vs (.slice none 0 0) :=
  ⟨h.bl, h.out, h.sz, h.seen, h.low, h.least, h.opn, h.stk, World.ownsRow_nil _ _ _ _, h.os, fun k e => (by cases e), fun k e => (by intro e2; cases e2)⟩
/-- The thing on top. -/
theorem KW.top (h : KW w b n adj t vs vw) {v i : Nat} {W : List (Nat × Nat)} (hw : t.work = (v, i) :: W) :
    ∃ g c, vw = .slice (some ⟨g, 0, none⟩) (W.length + 1) c ∧ w.cell? ⟨g, W.length * 2, none⟩ = some (iv v) ∧ w.cell? ⟨g, W.length * 2 + 1, none⟩ = some (iv i) ∧ b.off g ∧ b.N ≤ g ∧ vs.ownBlock ≠ some g ∧ (∃ cur, w.heap[g]? = some (.cells cur 43 (0, 0))) := by
  have hr := h.wrk
  rw [hw] at hr
  obtain ⟨g, c, rfl, hb, _⟩ := hr.form (Nat.succ_pos _)
  have hc := hr.cellAt (W.length * 2) (by show _ < (W.length + 1) * 2; omega)
  have hc' := hr.cellAt (W.length * 2 + 1) (by show _ < (W.length + 1) * 2; omega)
  rw [wkC, List.getElem?_append_right (by rw [wkC_len]; omega), wkC_len] at hc hc'
  refine ⟨g, c, rfl, ?_, ?_, h.ow g rfl, hb, fun e => h.sw g e rfl, ?_⟩
  · rw [hc]; simp
  · rw [hc']; simp [show W.length * 2 + 1 - W.length * 2 = 1 by omega]
  · rcases hr.2 with ⟨e, _⟩ | ⟨g', cap, cur, e, _, hh, _⟩
    · cases e
    · injection e with e1 _ _
      injection e1 with e1
      injection e1 with e1 _
      exact ⟨cur, by rw [e1]; exact hh⟩
theorem KW.top' (h : KW w b n adj t vs vw) {v i : Nat} {W : List (Nat × Nat)} (hw : t.work = (v, i) :: W) :
    ∃ g c L m, L = W.length ∧ m = L + 1 ∧ vw = .slice (some ⟨g, 0, none⟩) m c ∧ w.cell? ⟨g, L * 2, none⟩ = some (iv v) ∧ w.cell? ⟨g, L * 2 + 1, none⟩ = some (iv i) ∧ b.off g ∧ b.N ≤ g ∧ vs.ownBlock ≠ some g ∧ w.frozen? ⟨g, L * 2 + 1, none⟩ = false := by
  obtain ⟨g, c, h1, h2, h3, h4, h5, h6, cur, h7⟩ := h.top hw
  exact ⟨g, c, W.length, W.length + 1, rfl, rfl, h1, h2, h3, h4, h5, h6, frozen_at h7⟩
/-- The top has seen one edge more. -/
theorem KW.setTop (h : KW w b n adj t vs vw) {v i g c : Nat} {W : List (Nat × Nat)} (hw : t.work = (v, i) :: W) (hv : vw = .slice (some ⟨g, 0, none⟩) (W.length + 1) c) :
    KW (w.setCell ⟨g, W.length * 2 + 1, none⟩ (iv (i + 1))) b n adj { t with work := (v, i + 1) :: W } vs vw := by
  have hr := h.wrk
  rw [hw, hv] at hr
  obtain ⟨h1, hg⟩ := hr.stored (W.length * 2 + 1) (iv (i + 1))
  have hof := h.ow g (by rw [hv]; rfl)
  have hbn := own_base h.wrk g (by rw [hv]; rfl)
  obtain ⟨k1, k2, k3, k4, k5, k6⟩ := h.grown_aux hg (fun k e => by injection e with e; subst e; exact hof) (fun k e => by injection e with e; subst e; exact hbn)
  refine ⟨h.bl, k1, k2, k3, k4, k5, k6, own_keep h.stk (fun k e => hg.block k (own_lt' h.stk e) (fun e2 => h.sw k e (by rw [hv]; exact e2.symm))), ?_, h.os, h.ow, h.sw⟩
  have e : (wkC ((v, i) :: W)).set (W.length * 2 + 1) (iv (i + 1)) = wkC ((v, i + 1) :: W) := by
    rw [wkC, wkC, List.set_append_right _ _ (by rw [wkC_len]; omega), wkC_len, show W.length * 2 + 1 - W.length * 2 = 1 by omega]
    rfl
  rw [e] at h1
  rw [hv]
  exact h1
theorem KW.pop (h : KW w b n adj t vs vw) {x : Nat × Nat} {g c : Nat} {W : List (Nat × Nat)} (hw : t.work = x :: W) (hv : vw = .slice (some ⟨g, 0, none⟩) (W.length + 1) c) :
    KW w b n adj { t with work := W } vs (.slice (some ⟨g, 0, none⟩) W.length c) := by
  have hr := h.wrk
  rw [hw, hv] at hr
  refine ⟨h.bl, h.out, h.sz, h.seen, h.low, h.least, h.opn, h.stk, ownsRow_pop (wkC_len W) (last := [iv x.1, iv x.2]) hr, h.os, fun k e => h.ow k (by rw [hv]; exact e), fun k e e2 => h.sw k e (by rw [hv]; exact e2)⟩
theorem own_cap {w : World} {base n m cap size : Nat} {e : TypeId} {xs : List Value} {a : Addr} (h : w.ownsRow base e size (.slice (some a) m cap) n xs) : n ≤ cap ∧ cap ≤ maxLen ∧ m = n := by
  rcases h.2 with ⟨e, _⟩ | ⟨g', cap', cur, hv, _, _, h3, h4, _⟩
  · cases e
  · cases hv
    exact ⟨h3, h4, rfl⟩
theorem own_take {w : World} {base g n cap m : Nat} {e : TypeId} {xs : List Value} (h : w.ownsRow base e 1 (.slice (some ⟨g, 0, none⟩) n cap) n xs) (hm : m ≤ n) : w.ownsRow base e 1 (.slice (some ⟨g, 0, none⟩) m cap) m (xs.take m) := by
  obtain ⟨h1, h2⟩ := h
  rcases h2 with ⟨e, _⟩ | ⟨g', cap', cur, hv, hb, hh, h3, h4, h5, h6⟩
  · cases e
  · cases hv
    refine ⟨by rw [List.length_take]; omega, .inr ⟨g, cap, cur, rfl, hb, hh, by omega, h4, h5, ?_⟩⟩
    rw [← h6, List.take_take]
    congr 1
    omega
theorem KW.cutS (h : KW w b n adj t vs vw) {g c m : Nat} (hm : m ≤ t.stack.length) (hv : vs = .slice (some ⟨g, 0, none⟩) t.stack.length c) :
    KW w b n adj { t with stack := t.stack.take m } (.slice (some ⟨g, 0, none⟩) m c) vw := by
  have hr := h.stk
  rw [hv] at hr
  have := own_take hr hm
  refine ⟨h.bl, h.out, h.sz, h.seen, h.low, h.least, h.opn, ?_, h.wrk, fun k e => h.os k (by rw [hv]; exact e), h.ow, fun k e => h.sw k (by rw [hv]; exact e)⟩
  show w.ownsRow b.N 3 1 _ (t.stack.take m).length ((t.stack.take m).map iv)
  rw [List.length_take, Nat.min_eq_left hm, List.map_take]
  exact this
theorem KW.stkAt (h : KW w b n adj t vs vw) {g c : Nat} (hv : vs = .slice (some ⟨g, 0, none⟩) t.stack.length c) {k : Nat} (hk : k < t.stack.length) : w.cell? ⟨g, k, none⟩ = some (iv (t.stack.getD k 0)) := by
  have hr := h.stk
  rw [hv] at hr
  rw [hr.cellAt k (by omega), List.getElem?_map, List.getD_eq_getElem?_getD, List.getElem?_eq_getElem hk]
  rfl
end
theorem step_keeps {n : Nat} {adj : Nat → List Nat} {t : T} {v i r : Nat} {W : List (Nat × Nat)} (hal : ∀ v u, v < n → u ∈ adj v → u < n) (A : PhA adj n t) (S : Side n t) (hw : t.work = (v, i) :: W) (M : ∀ u, u < r → 0 < t.seen u) (R : 0 < t.seen r ∨ t.work = [(r, 0)]) :
    PhA adj n (Go.Proofs.YtgbeigippahbaaaK.step adj t) ∧ Side n (Go.Proofs.YtgbeigippahbaaaK.step adj t) ∧ (∀ u, u < r → 0 < (Go.Proofs.YtgbeigippahbaaaK.step adj t).seen u) ∧ (0 < (Go.Proofs.YtgbeigippahbaaaK.step adj t).seen r ∨ (Go.Proofs.YtgbeigippahbaaaK.step adj t).work = [(r, 0)]) ∧ mu adj n (Go.Proofs.YtgbeigippahbaaaK.step adj t) < mu adj n t ∧ (Go.Proofs.YtgbeigippahbaaaK.step adj t).count = (enter adj v i t).count := by
  have hne : t.work ≠ [] := by rw [hw]; simp
  have mono : ∀ u, 0 < t.seen u → 0 < (Go.Proofs.YtgbeigippahbaaaK.step adj t).seen u := fun u hu => by
    rw [step_seen hw]
    split
    · omega
    · exact hu
  refine ⟨A.step hal, S.step A hne, fun u hu => mono u (M u hu), .inl ?_, A.less hne, ?_⟩
  · rcases R with R | R
    · exact mono r R
    · rw [R] at hw
      injection hw with hw _
      injection hw with e1 e2
      subst e1
      subst e2
      rw [step_seen R, if_pos ⟨rfl, rfl⟩]
      omega
  · rw [step_count hw]
    unfold enter
    split
    · rfl
    · unfold account
      split <;> rfl
theorem bput {w0 w : World} {g v : Nat} {u : Value} (h : Below w0.heap.size w0 w) (hg : w0.heap.size ≤ g) : Below w0.heap.size w0 (w.setCell ⟨g, v, none⟩ u) :=
  h.trans ((Keep.setCell (ok := fun k => k ≠ g) w _ _ (fun h => h rfl)).below h.size (fun k hk => by omega))
theorem bgrown {w0 w w' : World} {r : Option Nat} (h : Below w0.heap.size w0 w) (hg : w.grownBy w' r) (hr : ∀ k, r = some k → w0.heap.size ≤ k) : Below w0.heap.size w0 w' :=
  h.trans ((Keep.of_grown hg).below h.size (fun k hk e => by have := hr k e; omega))
theorem bdrew {w0 w : World} {B : Nat} (h : Below B w0 w) : Below B w0 w.drew := ⟨h.os, h.tape, h.output, h.size, h.block⟩
theorem KW.cnt {w : World} {b : Bl} {n : Nat} {adj : Nat → List Nat} {t : T} {vs vw : Value} (h : KW w b n adj t vs vw) (c : Nat) : KW w b n adj { t with count := c } vs vw :=
  ⟨h.bl, h.out, h.sz, h.seen, h.low, h.least, h.opn, h.stk, h.wrk, h.os, h.ow, h.sw⟩
theorem upd_take {α : Type} (f : Nat → α) (x : α) {d : List Nat} {j : Nat} (hj : j < d.length) : upd (fun u => if u ∈ d.take j then x else f u) (d.getD j 0) x = fun u => if u ∈ d.take (j + 1) then x else f u := by
  funext u
  have e : d.take (j + 1) = d.take j ++ [d.getD j 0] := by rw [List.take_add_one, List.getD_eq_getElem?_getD, List.getElem?_eq_getElem hj]; rfl
  rw [e]
  unfold upd
  by_cases h : u = d.getD j 0
  · rw [if_pos h, if_pos (List.mem_append_right _ (by rw [h]; exact List.mem_cons_self))]
  · rw [if_neg h]
    show (if u ∈ d.take j then x else f u) = _
    by_cases h2 : u ∈ d.take j
    · rw [if_pos h2, if_pos (List.mem_append_left _ h2)]
    · rw [if_neg h2, if_neg (fun h3 => by
        rcases List.mem_append.1 h3 with h3 | h3
        · exact h2 h3
        · exact h (List.mem_singleton.1 h3))]
/-- What is told so far of a knot that is shut. -/
def shut (d : List Nat) (best : Nat) (W : List (Nat × Nat)) (j : Nat) (t : T) : T := { t with work := W, least := fun u => if u ∈ d.take j then best else t.least u, opn := fun u => if u ∈ d.take j then false else t.opn u }
theorem shut_zero (d : List Nat) (best : Nat) (W : List (Nat × Nat)) (t : T) : shut d best W 0 t = { t with work := W } := by simp [shut]
theorem shut_succ {d : List Nat} {best : Nat} {W : List (Nat × Nat)} {j : Nat} {t : T} (hj : j < d.length) : ({ ({ shut d best W j t with least := upd (shut d best W j t).least (d.getD j 0) best } : T) with opn := upd (shut d best W j t).opn (d.getD j 0) false } : T) = shut d best W (j + 1) t := by
  show ({ shut d best W j t with least := _, opn := _ } : T) = _
  unfold shut
  simp only [upd_take _ _ hj]
theorem shut_all {d l : List Nat} {best v k : Nat} {W : List (Nat × Nat)} {t : T} (hl : l = t.stack) (hk : seek l v (l.length - 1) = k) (hd : d = l.drop k) (hb : best = d.foldl min v) : closeV v { t with work := W } = { shut d best W d.length t with stack := t.stack.take k } := by
  subst hl
  unfold closeV shut
  simp only [hk, ← hd, ← hb, List.take_length]
theorem foldl_snoc {d : List Nat} {j v : Nat} (hj : j < d.length) : (d.take (j + 1)).foldl min v = min ((d.take j).foldl min v) (d.getD j 0) := by
  have e : d.take (j + 1) = d.take j ++ [d.getD j 0] := by rw [List.take_add_one, List.getD_eq_getElem?_getD, List.getElem?_eq_getElem hj]; rfl
  rw [e, List.foldl_append]
  rfl
#print axioms KW.cutS
end Go.Proofs.YtgbeigippahbaaaK
