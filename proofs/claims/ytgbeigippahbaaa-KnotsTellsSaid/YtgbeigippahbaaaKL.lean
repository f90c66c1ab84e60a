/- Knots: contracts for every number of things; the same numbers?; awake. -/
import Derived.Test.YtgbeigippahbaaaKV
import Derived.Test.YtgbeigippahbaaaKK
import Derived.Deep.QuietTactic
import Derived.BigQuiet
namespace Go.Proofs.YtgbeigippahbaaaK
open Go.RowKit Go.Proofs Go.Proofs.YtgbeigippahbaaaW.PrintWords Go.Proofs.YtgbeigippahbaaaW.PrintLast

/-- A list of numbers in memory. -/
def NumsAt (w : World) (A : Option Addr) (l : List Nat) : Prop := ∀ k, k < l.length → ∃ g, A = some ⟨g, 0, none⟩ ∧ w.cell? ⟨g, k, none⟩ = some (.int .i64 (l.getD k 0 : Int))
theorem NumsAt.below {w w' : World} {A : Option Addr} {l : List Nat} (h : NumsAt w A l) (hb : Below w.heap.size w w') : NumsAt w' A l := fun k hk => by
  obtain ⟨g, h1, h2⟩ := h k hk
  exact ⟨g, h1, pw_cell_below hb h2⟩
theorem NumsAt.drewN {w : World} {A : Option Addr} {l : List Nat} (h : NumsAt w A l) (k : Nat) : NumsAt (w.drewN k) A l := h
theorem EdgesAt.drewN {w : World} {A : Option Addr} {es : List Edge} (h : EdgesAt w A es) (k : Nat) : EdgesAt (w.drewN k) A es := h
def KnotsR (adj : Nat → List Nat) (n : Nat) (l : List Nat) : Prop := l.length = n ∧ LeastOK adj n (fun v => l.getD v 0)
theorem KnotsR.unique {adj : Nat → List Nat} {n : Nat} {l l' : List Nat} (h : KnotsR adj n l) (h' : KnotsR adj n l') : l = l' := by
  apply List.ext_getElem
  · rw [h.1, h'.1]
  · intro k h1 h2
    obtain ⟨a1, a2, a3⟩ := h.2 k (by rw [← h.1]; exact h1)
    obtain ⟨b1, b2, b3⟩ := h'.2 k (by rw [← h.1]; exact h1)
    have e1 := a3 _ b1 b2
    have e2 := b3 _ a1 a2
    simp only [List.getD_eq_getElem?_getD, List.getElem?_eq_getElem h1, List.getElem?_eq_getElem h2, Option.getD_some] at e1 e2
    omega
theorem Rc.congr {adj adj' : Nat → List Nat} (he : ∀ u v, v ∈ adj u → v ∈ adj' u) {a b : Nat} (h : Rc adj a b) : Rc adj' a b := by
  induction h with
  | refl => exact .refl _
  | tail _ hc ih => exact .tail ih (he _ _ hc)
theorem KnotsR.congr {adj adj' : Nat → List Nat} {n : Nat} (he : ∀ u v, v ∈ adj u ↔ v ∈ adj' u) {l : List Nat} (h : KnotsR adj n l) : KnotsR adj' n l := by
  refine ⟨h.1, fun v hv => ?_⟩
  obtain ⟨h1, h2, h3⟩ := h.2 v hv
  exact ⟨h1.congr (fun u v => (he u v).1), h2.congr (fun u v => (he u v).1), fun w h4 h5 => h3 w (h4.congr (fun u v => (he u v).2)) (h5.congr (fun u v => (he u v).2))⟩
def KEnd (w : World) (n : Nat) (es : List Edge) (e : Ending) (w' : World) : Prop :=
  Below w.heap.size w w' ∧ ∃ A c l, e = .returned (.slice A n c) ∧ l.length = n ∧ NumsAt w' A l ∧ KnotsR (adjE n es) n l
def SEnd (w : World) (n : Nat) (es : List Edge) (e : Ending) (w' : World) : Prop :=
  Below w.heap.size w w' ∧ ∃ A c L ok, e = .returned (.tuple #[.slice A L.length c, .bool ok]) ∧ NumsAt w' A L ∧ SortR (adjE n es) n L ok
set_option maxRecDepth 100000 in
theorem knots_any {w : World} {A : Option Addr} {c : Nat} (n : Int) (es : List Edge) (hE : EdgesAt w A es) (hn' : n ≤ 100000) (he : es.length ≤ 1000000) :
    Calls Try.prog 11 #[.int .i64 n, .slice A es.length c] w (KEnd w n.toNat es) := by
  by_cases hn : 1 ≤ n
  · obtain ⟨m, rfl⟩ := Int.eq_ofNat_of_zero_le (show 0 ≤ n by omega)
    refine (knots_calls m es hE (by omega) (by omega) he).mono ?_
    rintro e w' ⟨hb, g, least, rfl, hg, hl⟩
    have hlen : ((List.range m).map least).length = m := by rw [List.length_map, List.length_range]
    have hget : ∀ k, k < m → ((List.range m).map least).getD k 0 = least k := fun k hk => by
      rw [List.getD_eq_getElem?_getD, List.getElem?_map, List.getElem?_range hk]; rfl
    refine ⟨hb, some ⟨g, 0, none⟩, m, (List.range m).map least, rfl, hlen, fun k hk => ?_, hlen, fun v hv => ?_⟩
    · rw [hlen] at hk
      exact ⟨g, rfl, by rw [hget k hk]; exact numsC_at hg hk⟩
    · have := hl v hv
      rw [← hget v hv] at this
      exact this
  · have h0 : n.toNat = 0 := by omega
    have d0 : decide (n < 1) = true := decide_eq_true (by omega)
    have d1 : n < 1 := by omega
    rw [h0]
    clear hn h0
    go_enter Try.func11, Try.ntmps11
    go_wp2
    go_ret
    exact ⟨Below.refl _ _, none, 0, [], rfl, rfl, (fun k hk => (by cases hk)), rfl, fun v hv => (by cases hv)⟩
set_option maxRecDepth 100000 in
theorem sort_any {w : World} {A : Option Addr} {c : Nat} (n : Int) (es : List Edge) (hE : EdgesAt w A es) (hn' : n ≤ 100000) (he : es.length ≤ 1000000) :
    Calls Try.prog 8 #[.int .i64 n, .slice A es.length c] w (SEnd w n.toNat es) := by
  by_cases hn : 1 ≤ n
  · obtain ⟨m, rfl⟩ := Int.eq_ofNat_of_zero_le (show 0 ≤ n by omega)
    refine (sort_calls m es hE (by omega) (by omega) he).mono ?_
    rintro e w' ⟨hb, B, c', L, ok, rfl, hs, hat⟩
    exact ⟨hb, B, c', L, ok, rfl, hat, hs⟩
  · have h0 : n.toNat = 0 := by omega
    have d0 : decide (n < 1) = true := decide_eq_true (by omega)
    have d1 : n < 1 := by omega
    rw [h0]
    clear hn h0
    go_enter Try.func8, Try.ntmps8
    go_wp2
    go_ret2
    exact ⟨Below.refl _ _, none, 0, [], true, rfl, (fun k hk => (by cases hk)), [], .nil, fun v hv => absurd hv.1 (by omega), rfl, rfl⟩
def SameEnd (w : World) (b : Bool) (e : Ending) (w' : World) : Prop := e = .returned (.bool b) ∧ ∃ k, w' = w.drewN k
theorem take_ne {l m : List Nat} {k : Nat} (h : l.take k = m.take k) (hl : k < l.length) (hm : k < m.length) (he : l.getD k 0 = m.getD k 0) : l.take (k + 1) = m.take (k + 1) := by
  rw [List.take_add_one, List.take_add_one, h, List.getElem?_eq_getElem hl, List.getElem?_eq_getElem hm]
  rw [List.getD_eq_getElem?_getD, List.getD_eq_getElem?_getD, List.getElem?_eq_getElem hl, List.getElem?_eq_getElem hm] at he
  simp only [Option.getD_some] at he
  rw [he]
theorem same_calls {w : World} {A B : Option Addr} {c d : Nat} {l m : List Nat} {b : Bool} (hA : NumsAt w A l) (hB : NumsAt w B m) (hl : l.length ≤ 1000000) (hm : m.length ≤ 1000000) (hb : decide (l = m) = b) :
    Calls Try.prog 10 #[.slice A l.length c, .slice B m.length d] w (SameEnd w b) := by
  obtain ⟨p, hp⟩ : ∃ p, p = l.length := ⟨_, rfl⟩
  obtain ⟨q, hq⟩ : ∃ q, q = m.length := ⟨_, rfl⟩
  rw [← hp, ← hq]
  have hpb : p ≤ 1000000 := by omega
  have hqb : q ≤ 1000000 := by omega
  have HP := Lib.hid hp
  have HQ := Lib.hid hq
  have HA := Lib.hid hA
  have HB := Lib.hid hB
  have HBB := Lib.hid hb
  clear hp hq hA hB hb hl hm
  by_cases hpq : p = q
  · subst hpq
    go_enter Try.func10, Try.ntmps10
    go_wp2
    go_loopw [5] (fun a wr => ∃ (k r : Nat), a = .int .i64 (k : Int) ∧ k ≤ p ∧ wr = w.drewN r ∧ Hid (l.take k = m.take k)) (fun a _ => p - (intOf a).toNat)
    case atStart => exact ⟨0, 0, rfl, by omega, rfl, Lib.hid rfl⟩
    case round =>
      obtain ⟨k, r, rfl, hk, rfl, HT⟩ := hrel
      by_cases hkp : k < p
      · have dk : decide ((k : Int) < (p : Int)) = true := decide_eq_true (by omega)
        have hwk : IntKind.i64.wrap ((k : Int) + 1) = ((k + 1 : Nat) : Int) := by rw [IntWalk.i64_in _ (by omega)]; rfl
        obtain ⟨g, rfl, c1⟩ := HA.out k (by rw [← HP.out]; exact hkp)
        obtain ⟨g', rfl, c2⟩ := HB.out k (by rw [← HQ.out]; exact hkp)
        obtain ⟨x, hx⟩ : ∃ x, x = l.getD k 0 := ⟨_, rfl⟩
        obtain ⟨y, hy⟩ : ∃ y, y = m.getD k 0 := ⟨_, rfl⟩
        rw [← hx] at c1
        rw [← hy] at c2
        have k0 : (0 : Int) ≤ (k : Int) := by omega
        have kp : (k : Int) < (p : Int) := by omega
        have HX := Lib.hid hx
        have HY := Lib.hid hy
        clear hx hy
        by_cases hxy : x = y
        · subst hxy
          have HT' := Lib.hid (take_ne HT.out (by rw [← HP.out]; exact hkp) (by rw [← HQ.out]; exact hkp) (by rw [← HX.out, ← HY.out]))
          go_wp2
          go_quiet (fail)
          go_wp2
          exact ⟨⟨k + 1, _, by go_num, by omega, rfl, HT'⟩, by simp [intOf]; omega⟩
        · have dxy : decide ((x : Int) ≠ (y : Int)) = true := decide_eq_true (by omega)
          have dxy' : ((x : Int) != (y : Int)) = true := by simp; omega
          go_wp2
          go_quiet (fail)
          go_wp2
          go_ret
          have : l ≠ m := fun e => hxy (by rw [HX.out, HY.out, e])
          exact ⟨by rw [← HBB.out, decide_eq_false this]; rfl, r + nq, by simp⟩
      · have dk : decide ((k : Int) < (p : Int)) = false := decide_eq_false (by omega)
        have hlm : l = m := by
          have := HT.out
          rw [List.take_of_length_le (by rw [← HP.out]; omega), List.take_of_length_le (by rw [← HQ.out]; omega)] at this
          exact this
        have HLM := Lib.hid hlm
        clear hlm
        go_wp2
        go_ret
        exact ⟨by rw [← HBB.out, decide_eq_true HLM.out]; rfl, r, rfl⟩
  · go_enter Try.func10, Try.ntmps10
    go_wp2
    go_ret
    have : l ≠ m := fun e => hpq (by rw [HP.out, HQ.out, e])
    exact ⟨by rw [← HBB.out, decide_eq_false this]; rfl, 0, rfl⟩
/-! ### Awake -/
def edsC : List Edge → List Value
  | [] => []
  | e :: es => edC e ++ edsC es
theorem edsC_len : ∀ es : List Edge, (edsC es).length = es.length * 2
  | [] => rfl
  | e :: es => by rw [edsC, List.length_append, edsC_len es]; simp [edC]; omega
theorem edsC_get : ∀ (es : List Edge) (i j : Nat), i < es.length → j < 2 → (edsC es)[i * 2 + j]? = (edC (es.getD i (0, 0)))[j]?
  | [], _, _, h, _ => by cases h
  | e :: es, 0, j, _, hj => by
    rw [edsC, List.getElem?_append_left (by simp [edC]; omega), Nat.zero_mul, Nat.zero_add]
    rfl
  | e :: es, i + 1, j, hi, hj => by
    rw [edsC, List.getElem?_append_right (by simp [edC]; omega), show (i + 1) * 2 + j - (edC e).length = i * 2 + j by simp [edC]; omega]
    exact edsC_get es i j (by simpa using hi) hj
theorem add_at (g o j : Nat) : Addr.add ⟨g, o, none⟩ j = ⟨g, o + j, none⟩ := by simp [Addr.add]
theorem edges_cells {w : World} {g : Nat} {es : List Edge} {cs : Array Value} {t : TypeId} (hg : w.heap[g]? = some (.cells cs t (0, 0))) (hc : ∀ k, k < es.length * 2 → cs[k]? = (edsC es)[k]?) (hl : es.length ≤ 9223372036854775807) : EdgesAt w (some ⟨g, 0, none⟩) es :=
  ⟨hl, fun i hi => ⟨_, rfl, fun j v hv => by
    have hj : j < 2 := (List.getElem?_eq_some_iff.1 hv).1
    rw [add_plain, add_at]
    rw [cell_of_row w g _ _ _ (0, 0) hg, hc _ (by omega), edsC_get es i j hi hj]
    exact hv⟩⟩
theorem edges_lit (W : World) (es : List Edge) (hl : es.length ≤ 9223372036854775807) : EdgesAt (W.alloc (.cells (edsC es).toArray 30)) (some ⟨W.heap.size, 0, none⟩) es :=
  edges_cells (heap_alloc_last W _) (fun k _ => by simp) hl
theorem nums_lit (W : World) (l : List Nat) : NumsAt (W.alloc (.cells (l.map iv).toArray 3)) (some ⟨W.heap.size, 0, none⟩) l := fun k hk => by
  refine ⟨_, rfl, ?_⟩
  rw [cell_of_row _ _ k _ _ (0, 0) (heap_alloc_last W _), List.getElem?_toArray, List.getElem?_map, List.getElem?_eq_getElem hk, List.getD_eq_getElem?_getD, List.getElem?_eq_getElem hk]
  rfl
abbrev esA : List Edge := [(2, 0)]
abbrev esB : List Edge := [(0, 1), (1, 2), (2, 1), (2, 3)]
theorem sortA : SortR (adjE 3 esA) 3 [1, 2, 0] true := by
  have f1 : ∀ v, v < 3 → (∀ u, u < 3 → v ∈ adjE 3 esA u → u ∈ ([] : List Nat)) → 1 ≤ v := by decide
  have f2 : ∀ v, v < 3 → (v ∉ [1] ∧ ∀ u, u < 3 → v ∈ adjE 3 esA u → u ∈ [1]) → 2 ≤ v := by decide
  have g0 : Greedy (adjE 3 esA) 3 ([] ++ [1]) := .snoc .nil ⟨by decide, by decide, by decide⟩ (fun u hu => f1 u hu.1 hu.2.2)
  have g1 : Greedy (adjE 3 esA) 3 ([1] ++ [2]) := .snoc g0 ⟨by decide, by decide, by decide⟩ (fun u hu => f2 u hu.1 hu.2)
  have g2 : Greedy (adjE 3 esA) 3 ([1, 2] ++ [0]) := .snoc g1 ⟨by decide, by decide, by decide⟩ (fun u hu => Nat.zero_le _)
  exact ⟨[1, 2, 0], g2, g2.done (by decide), by decide, by decide⟩
theorem rc_mono {adj : Nat → List Nat} {f : Nat → Nat} (h : ∀ u v, v ∈ adj u → f u ≤ f v) {a b : Nat} (hr : Rc adj a b) : f a ≤ f b := by
  induction hr with
  | refl => exact Nat.le_refl _
  | tail _ hc ih => exact Nat.le_trans ih (h _ _ hc)
theorem knotsB : KnotsR (adjE 4 esB) 4 [0, 1, 1, 3] := by
  have hb : ∀ u, u < 4 → ∀ v, v < 4 → v ∈ adjE 4 esB u → (if u = 0 then 0 else if u ≤ 2 then 1 else 2) ≤ (if v = 0 then 0 else if v ≤ 2 then 1 else 2) := by decide
  have hm : ∀ u v, v ∈ adjE 4 esB u → (if u = 0 then 0 else if u ≤ 2 then 1 else 2) ≤ (if v = 0 then 0 else if v ≤ 2 then 1 else 2) := fun u v h => by
    obtain ⟨_, _, _, _, hu, hv⟩ := adjE_mem.1 h
    exact hb u hu v hv h
  have key : ∀ v w, Rc (adjE 4 esB) v w → Rc (adjE 4 esB) w v → (if v = 0 then 0 else if v ≤ 2 then 1 else 2) = (if w = 0 then 0 else if w ≤ 2 then 1 else 2) := fun v w h1 h2 =>
    Nat.le_antisymm (rc_mono (f := fun u => if u = 0 then 0 else if u ≤ 2 then 1 else 2) hm h1) (rc_mono (f := fun u => if u = 0 then 0 else if u ≤ 2 then 1 else 2) hm h2)
  refine ⟨rfl, fun v hv => ?_⟩
  have e12 : Rc (adjE 4 esB) 1 2 := .one (by decide)
  have e21 : Rc (adjE 4 esB) 2 1 := .one (by decide)
  rcases (show v = 0 ∨ v = 1 ∨ v = 2 ∨ v = 3 by omega) with rfl | rfl | rfl | rfl
  · exact ⟨.refl _, .refl _, fun w _ _ => Nat.zero_le _⟩
  · exact ⟨.refl _, .refl _, fun w h1 h2 => Nat.pos_of_ne_zero (fun e => by subst e; have := key _ _ h1 h2; simp at this)⟩
  · exact ⟨e21, e12, fun w h1 h2 => Nat.pos_of_ne_zero (fun e => by subst e; have := key _ _ h1 h2; simp at this)⟩
  · exact ⟨.refl _, .refl _, fun w h1 h2 => Nat.le_of_not_lt (fun e => by
    have e' : w < 3 := e
    have := key _ _ h1 h2
    rcases (show w = 0 ∨ w = 1 ∨ w = 2 by omega) with rfl | rfl | rfl <;> simp at this)⟩
def AwakeEnd (w : World) (e : Ending) (w' : World) : Prop := e = .returned (.bool true) ∧ Below w.heap.size w w'
theorem bnext {w0 w w' w2 : World} (h : Below w0.heap.size w0 w) (h1 : Below w.heap.size w w') (h2 : Below w'.heap.size w' w2) : Below w0.heap.size w0 w2 := (h.trans (h1.mono h.size)).trans (h2.mono (Nat.le_trans h.size h1.size))
theorem below_drewN {w : World} {B : Nat} (k : Nat) : Below B w (w.drewN k) := ⟨rfl, rfl, rfl, Nat.le_refl _, fun _ _ => rfl⟩
theorem same4 {w : World} {A B : Option Addr} {c d : Nat} (hA : NumsAt w A [0, 1, 1, 3]) (hB : NumsAt w B [0, 1, 1, 3]) : Calls Try.prog 10 #[.slice A 4 c, .slice B 4 d] w (SameEnd w true) := @same_calls w A B c d [0, 1, 1, 3] [0, 1, 1, 3] true hA hB (by decide) (by decide) (by decide)
theorem same3 {w : World} {A B : Option Addr} {c d : Nat} (hA : NumsAt w A [1, 2, 0]) (hB : NumsAt w B [1, 2, 0]) : Calls Try.prog 10 #[.slice A 3 c, .slice B 3 d] w (SameEnd w true) := @same_calls w A B c d [1, 2, 0] [1, 2, 0] true hA hB (by decide) (by decide) (by decide)
set_option maxRecDepth 100000 in
set_option maxHeartbeats 1000000 in
theorem awake_calls (w : World) : Calls Try.prog 7 #[] w (AwakeEnd w) := by
  have hE1 := Lib.hid (show EdgesAt (w.alloc (.cells #[.int .i64 2, .int .i64 0] 30)) (some ⟨w.heap.size, 0, none⟩) esA from edges_lit w esA (by decide))
  go_enter Try.func7, Try.ntmps7
  go_wp2_with (first | (go_at_call 8; refine (sort_any 3 esA hE1.out (by omega) (by decide)).mono ?_; rintro e w1 ⟨hb, A1, c1, L, ok, rfl, hat, hs⟩; obtain ⟨rfl, rfl⟩ := hs.unique sortA; have HB1 := Lib.hid ((below_alloc (Below.refl w.heap.size w) _).trans (hb.mono (by simp only [World.alloc, Array.size_push]; omega))); have HA1 := Lib.hid hat; clear hb hat hs; have hE2 := Lib.hid (show EdgesAt (w1.alloc (.cells #[.int .i64 0, .int .i64 1, .int .i64 1, .int .i64 2, .int .i64 2, .int .i64 1, .int .i64 2, .int .i64 3] 30)) (some ⟨w1.heap.size, 0, none⟩) esB from edges_lit w1 esB (by decide))))
  refine (knots_any 4 esB hE2.out (by omega) (by decide)).mono ?_
  rintro e w2 ⟨hb, A2, c2, K, rfl, hl, hat, hs⟩
  obtain rfl := KnotsR.unique hs knotsB
  have HB2 := Lib.hid (bnext HB1.out (below_alloc (Below.refl _ _) _) hb)
  obtain ⟨w3, hw3⟩ : ∃ w3, w3 = w2.alloc (.cells #[.int .i64 0, .int .i64 1, .int .i64 1, .int .i64 3] 3) := ⟨_, rfl⟩
  have HA2 := Lib.hid (show NumsAt w3 A2 [0, 1, 1, 3] by rw [hw3]; exact hat.below (below_alloc (Below.refl _ _) _))
  have HA3 := Lib.hid (show NumsAt w3 (some ⟨w2.heap.size, 0, none⟩) [0, 1, 1, 3] by rw [hw3]; exact nums_lit w2 [0, 1, 1, 3])
  have b12 : Below w1.heap.size w1 w2 := (below_alloc (Below.refl _ _) _).trans (hb.mono (by simp only [World.alloc, Array.size_push]; omega))
  have b13 : Below w1.heap.size w1 w3 := by rw [hw3]; exact below_alloc b12 _
  have HB3 := Lib.hid (show Below w.heap.size w w3 by rw [hw3]; exact below_alloc HB2.out _)
  have HA1' := Lib.hid (HA1.out.below b13)
  have HW3 := Lib.hid hw3
  have hz : w2.heap.size = w2.heap.size := rfl
  clear hb hs hat hl hw3 b12 b13 hz
  go_wp2_with fail
  rw [← HW3.out]
  refine (same4 HA2.out HA3.out).mono ?_
  rintro e w4 ⟨rfl, k4, hk4⟩
  obtain ⟨w5, hw5⟩ : ∃ w5, w5 = w4.alloc (.cells #[.int .i64 1, .int .i64 2, .int .i64 0] 3) := ⟨_, rfl⟩
  have HB5 := Lib.hid (show Below w.heap.size w w5 by rw [hw5, hk4]; exact below_alloc (HB3.out.trans (below_drewN _)) _)
  have HA5 := Lib.hid (show NumsAt w5 A1 [1, 2, 0] by rw [hw5, hk4]; exact NumsAt.below (HA1'.out.drewN _) (below_alloc (Below.refl _ _) _))
  have HA6 := Lib.hid (show NumsAt w5 (some ⟨w4.heap.size, 0, none⟩) [1, 2, 0] by rw [hw5]; exact nums_lit w4 [1, 2, 0])
  have HW5 := Lib.hid hw5
  clear hk4 hw5
  go_wp2_with fail
  rw [← HW5.out]
  refine (same3 HA5.out HA6.out).mono ?_
  rintro e w6 ⟨rfl, k6, hk6⟩
  have HB6 := Lib.hid (show Below w.heap.size w w6 by rw [hk6]; exact HB5.out.trans (below_drewN _))
  clear hk6
  go_wp2_with fail
  go_ret
  exact ⟨rfl, HB6.out⟩
#print axioms same_calls
end Go.Proofs.YtgbeigippahbaaaK
