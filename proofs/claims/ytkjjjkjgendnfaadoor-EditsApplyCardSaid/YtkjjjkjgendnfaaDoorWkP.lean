/- What stands in memory while edits.walk goes on: lemmas without the walk. -/
import Derived.Test.YtkjjjkjgendnfaaDoorBk
namespace Go.Proofs.YtkjjjkjgendnfaaDoorR
open Go.RowKit Go.Proofs.YtkjjjkjgendnfaaDoorM Go.Proofs.YtkjjjkjgendnfaaDoorE Go.Proofs.YtkjjjkjgendnfaaDoorW.PrintWords

theorem infoMap : (Tryd.prog.info? 67).map (fun i => (i.zero, i.size, i.bytes)) = some (some (.map none), 1, 8) := by kernel_rfl

/-- What stands when a round begins. -/
structure Round (w wr : World) (a b : List ByteArray) (Ts : List (Int → Int)) (far : Int → Int) (bs : List Nat) (bf n : Nat) (v : Value) : Prop where
  fm : MF wr bf n far
  fn : n ≤ 1000
  fb : w.heap.size ≤ bf
  len : bs.length = Ts.length
  maps : ∀ (i c : Nat), bs[i]? = some c → ∃ n, MF wr c n (trailF Ts i)
  row : wr.ownsRow w.heap.size 67 1 v bs.length (mapsOf bs)
  below : Below w.heap.size w wr
  f0 : ∀ j, 0 ≤ far j
  f1 : ∀ j, far j ≤ (a.length : Int) + Ts.length
  t0 : ∀ i j, 0 ≤ trailF Ts i j ∧ trailF Ts i j ≤ 1000000000000000
  le : Ts.length ≤ roundsL a b
  out : outerL a b (roundsL a b - Ts.length) Ts far = walkO a b

/-- What stands inside a round: bn is the block of the map that is being filled; j diagonals are done. -/
structure Diag (w wr : World) (a b : List ByteArray) (Ts : List (Int → Int)) (far : Int → Int) (bs : List Nat) (bf n : Nat) (v : Value) (bn j : Nat) (now : Int → Int) : Prop where
  rd : Round w wr a b Ts far bs bf n v
  nm : MF wr bn j now
  nb : w.heap.size ≤ bn
  fne : bf < bn
  bne : ∀ (i c : Nat), bs[i]? = some c → c < bn
  vne : ∀ k, v.ownBlock = some k → k < bn
  jle : j ≤ Ts.length + 1
  n0 : ∀ i, 0 ≤ now i
  n1 : ∀ i, now i ≤ (a.length : Int) + Ts.length + 1
  out : innerL a b far Ts.length (Ts.length + 1 - j) j now = innerL a b far Ts.length (Ts.length + 1) 0 (fun _ => 0)

section
variable {w wr w' : World} {a b : List ByteArray} {Ts : List (Int → Int)} {far : Int → Int} {bs : List Nat} {bf n : Nat} {v : Value} {bn j : Nat} {now : Int → Int}

theorem own_drewN {w : World} {base e size n : Nat} {v : Value} {xs : List Value} (h : w.ownsRow base e size v n xs) (q : Nat) : (w.drewN q).ownsRow base e size v n xs := h
theorem Round.drewN (h : Round w wr a b Ts far bs bf n v) (q : Nat) : Round w (wr.drewN q) a b Ts far bs bf n v :=
  ⟨h.fm.drewN q, h.fn, h.fb, h.len, fun i b hb => let ⟨m, hm⟩ := h.maps i b hb; ⟨m, hm.drewN q⟩, own_drewN h.row q, pw_below_drewN h.below q, h.f0, h.f1, h.t0, h.le, h.out⟩
theorem Diag.drewN (h : Diag w wr a b Ts far bs bf n v bn j now) (q : Nat) : Diag w (wr.drewN q) a b Ts far bs bf n v bn j now :=
  ⟨h.rd.drewN q, h.nm.drewN q, h.nb, h.fne, h.bne, h.vne, h.jle, h.n0, h.n1, h.out⟩
theorem Round.grown {row : Nat} (h : Round w wr a b Ts far bs bf n v) (hg : wr.grownBy w' (some row)) (hb : w.heap.size ≤ row) (h1 : bf ≠ row) (h2 : ∀ (i c : Nat), bs[i]? = some c → c ≠ row) (h3 : v.ownBlock ≠ some row) : Round w w' a b Ts far bs bf n v :=
  ⟨h.fm.kept hg (by simpa using h1), h.fn, h.fb, h.len, fun i b hb => let ⟨m, hm⟩ := h.maps i b hb; ⟨m, hm.kept hg (by simpa using h2 i b hb)⟩, h.row.kept hg (.inr h3), h.below.grown hg h.below.size (fun k hk => by injection hk with hk; omega), h.f0, h.f1, h.t0, h.le, h.out⟩

/-- The round begins: a new map. -/
theorem Round.begin_ (h : Round w wr a b Ts far bs bf n v) : Diag w (wr.alloc (.map #[] 0)) a b Ts far bs bf n v wr.heap.size 0 (fun _ => 0) := by
  refine ⟨⟨h.fm.alloc _, h.fn, h.fb, h.len, fun i b hb => let ⟨m, hm⟩ := h.maps i b hb; ⟨m, hm.alloc _⟩, h.row.alloc _, below_alloc h.below _, h.f0, h.f1, h.t0, h.le, h.out⟩, MapF.made _ _ _ wr, h.below.size, h.fm.lt, fun i b hb => let ⟨m, hm⟩ := h.maps i b hb; hm.lt, fun k hk => (h.row.lt k hk).2, Nat.zero_le _, fun _ => Int.le_refl _, fun _ => by show (0 : Int) ≤ (a.length : Int) + Ts.length + 1; omega, rfl⟩

/-- The map of the round has been stored into: all else stands. -/
theorem Diag.stay (h : Diag w wr a b Ts far bs bf n v bn j now) (hg : wr.grownBy w' (some bn)) : Round w w' a b Ts far bs bf n v :=
  h.rd.grown hg h.nb (by have := h.fne; omega) (fun i c hc => by have := h.bne i c hc; omega) (fun e => by have := h.vne bn e; omega)

/-- One diagonal more. -/
theorem Diag.step (h : Diag w wr a b Ts far bs bf n v bn j now) (hj : j < Ts.length + 1) {k x : Int} (hk : k = 2 * (j : Int) - Ts.length) (hx : x = nowX a b far k Ts.length) (hm : MF w' bn (j + 1) (upd now k x)) (hg : wr.grownBy w' (some bn))
    (he : ¬ ((a.length : Int) ≤ x ∧ (b.length : Int) ≤ x - k)) : Diag w w' a b Ts far bs bf n v bn (j + 1) (put1 now k x) := by
  subst hk hx
  have hb := nowX_bounds (a := a) (b := b) (k := 2 * (j : Int) - Ts.length) (d := Ts.length) (M := (a.length : Int) + Ts.length) h.rd.f0 h.rd.f1 (by omega)
  obtain ⟨p0, p1⟩ := put1_bounds (k := 2 * (j : Int) - Ts.length) h.n0 h.n1 hb.1 hb.2
  refine ⟨h.rd.grown hg h.nb (by have := h.fne; omega) (fun i b hb => by have := h.bne i b hb; omega) (fun e => by have := h.vne bn e; omega), hm, h.nb, h.fne, h.bne, h.vne, by omega, p0, p1, ?_⟩
  rw [← h.out, show Ts.length + 1 - j = (Ts.length + 1 - (j + 1)) + 1 by omega, innerL_go he]

/-- A map's block is no row's. -/
theorem map_ne_row {w : World} {b n base e size m : Nat} {F : Int → Int} {v : Value} {xs : List Value} (h : MF w b n F) (ho : w.ownsRow base e size v m xs) : some b ≠ v.ownBlock := by
  obtain ⟨D, ⟨es, cl, hb, _⟩, _⟩ := h.out
  rcases ho.2 with ⟨rfl, _⟩ | ⟨g, cap, cur, rfl, _, hh, _⟩
  · simp [Value.ownBlock]
  · intro he
    have : b = g := by simpa [Value.ownBlock] using he
    subst this
    rw [hb] at hh
    cases hh

/-- The trail with what is the farthest put behind it. -/
theorem trail_rows {w1 : World} (h : Round w wr a b Ts far bs bf n v) (hg : wr.grownBy w1 v.ownBlock) : ∀ (i c : Nat), (bs ++ [bf])[i]? = some c → ∃ m, MF w1 c m (trailF (Ts ++ [far]) i) := by
  intro i c hc
  rcases Nat.lt_or_ge i bs.length with hi | hi
  · rw [List.getElem?_append_left hi] at hc
    obtain ⟨m, hm⟩ := h.maps i c hc
    exact ⟨m, by rw [trailF_old far (by have := h.len; omega)]; exact hm.kept hg (map_ne_row hm h.row)⟩
  · have hi' : i = bs.length := by
      have := (List.getElem?_eq_some_iff.1 hc).1
      simp at this
      omega
    subst hi'
    have hc' : bf = c := by simpa using hc
    subst hc'
    exact ⟨n, by rw [h.len, trailF_snoc]; exact h.fm.kept hg (map_ne_row h.fm h.row)⟩
theorem trail_bounds (h : Round w wr a b Ts far bs bf n v) (ha : a.length ≤ 140737488351232) (hT : Ts.length ≤ 101) : ∀ i j, 0 ≤ trailF (Ts ++ [far]) i j ∧ trailF (Ts ++ [far]) i j ≤ 1000000000000000 := by
  intro i j
  rcases Nat.lt_trichotomy i Ts.length with hi | hi | hi
  · rw [trailF_old far hi]
    exact h.t0 i j
  · subst hi
    rw [trailF_snoc]
    have h1 := h.f0 j
    have h2 := h.f1 j
    exact ⟨h1, by omega⟩
  · have e : trailF (Ts ++ [far]) i = fun _ => 0 := by
      unfold trailF
      rw [List.getD_eq_getElem?_getD, List.getElem?_eq_none (by simp; omega)]
      rfl
    rw [e]
    exact ⟨Int.le_refl _, by simp⟩

/-- The round has ended on all diagonals: the next one. -/
theorem Diag.next {v1 : Value} {w1 : World} (h : Diag w wr a b Ts far bs bf n v bn j now) (ha : a.length ≤ 140737488351232) (hc : Ts.length < roundsL a b) (hj : j = Ts.length + 1) (hg : wr.grownBy w1 v.ownBlock) (hbe : Below w.heap.size w w1)
    (hr : w1.ownsRow w.heap.size 67 1 v1 (bs.length + 1) (mapsOf bs ++ [.map (some bf)])) : Round w w1 a b (Ts ++ [far]) now (bs ++ [bf]) bn j v1 := by
  have hT : Ts.length ≤ 100 := by unfold roundsL at hc; omega
  have ho := h.out
  rw [hj, Nat.sub_self] at ho
  have hn : innerL a b far Ts.length (Ts.length + 1) 0 (fun _ => 0) = some now := ho.symm
  refine ⟨h.nm.kept hg (fun e => by have := h.vne bn e.symm; omega), by omega, h.nb, by simp [h.rd.len], trail_rows h.rd hg, ?_, hbe, h.n0, fun i => ?_, trail_bounds h.rd ha (by omega), by simp; omega, ?_⟩
  · rw [List.length_append, mapsOf, List.map_append]
    exact hr
  · have := h.n1 i
    simp
    omega
  · rw [← h.rd.out, show roundsL a b - Ts.length = (roundsL a b - (Ts ++ [far]).length) + 1 by simp; omega, outerL_go hn]

/-- The end is met. -/
theorem Diag.met (h : Diag w wr a b Ts far bs bf n v bn j now) (hc : Ts.length < roundsL a b) (hj : j < Ts.length + 1) {k x : Int} (hk : k = 2 * (j : Int) - Ts.length) (hx : x = nowX a b far k Ts.length) (h1 : (a.length : Int) ≤ x) (h2 : (b.length : Int) ≤ x - k) :
    walkL a b = ((backL (trailF (Ts ++ [far])) Ts.length a.length b.length []).reverse, true) := by
  subst hk hx
  have ho := h.out
  rw [show Ts.length + 1 - j = (Ts.length - j) + 1 by omega, innerL_done h1 h2] at ho
  have he := h.rd.out
  rw [show roundsL a b - Ts.length = (roundsL a b - Ts.length - 1) + 1 by omega, outerL_end ho.symm] at he
  simp [walkL, ← he]
end
end Go.Proofs.YtkjjjkjgendnfaaDoorR
