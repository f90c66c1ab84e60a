/- The reference's disk (tambourref12), in the words of the plain data. -/
import Derived.Test.YtpdnfaggdheneaaDoorSQ2
namespace Go.Proofs.YtpdnfaggdheneaaDoorS
open Go.RowKit Go.Maps Go.Proofs Go.Proofs.YtpdnfaggdheneaaDoorW.PrintWords

theorem rread_off {w : World} {DR : Nat} (i : Int) (k2 : w.cell? ⟨DR, 2, none⟩ = some (.bool true)) :
    Calls Tryd.prog 20 #[.pointer (some ⟨DR, 0, none⟩), .int .i64 i] w fun e w' => e = .returned (.tuple #[.string ByteArray.empty, .int .i64 20]) ∧ w' = w := by
  go_enter Tryd.func20, Tryd.ntmps20
  go_wp2
  go_ret2
  exact ⟨rfl, rfl⟩
theorem rread_out {w : World} {DR n : Nat} (i : Int) (k0 : w.cell? ⟨DR, 0, none⟩ = some (.int .i64 (n : Int))) (k2 : w.cell? ⟨DR, 2, none⟩ = some (.bool false)) (h : ¬ (0 ≤ i ∧ i < n)) :
    Calls Tryd.prog 20 #[.pointer (some ⟨DR, 0, none⟩), .int .i64 i] w fun e w' => e = .returned (.tuple #[.string ByteArray.empty, .int .i64 1]) ∧ w' = w := by
  by_cases h0 : i < 0
  · have d0 : decide (i < 0) = true := decide_eq_true h0
    go_enter Tryd.func20, Tryd.ntmps20
    go_wp2
    go_ret2
    exact ⟨rfl, rfl⟩
  · have d0 : decide (i < 0) = false := decide_eq_false h0
    have d1 : decide ((n : Int) ≤ i) = true := decide_eq_true (by omega)
    go_enter Tryd.func20, Tryd.ntmps20
    go_wp2
    go_ret2
    exact ⟨rfl, rfl⟩
theorem builtDisk (n : Int) (m : Nat) : Tryd.prog.built 48 [(0, .int .i64 n), (1, .int .i64 (-1)), (3, .map (some m))] = some #[.int .i64 n, .int .i64 (-1), .bool false, .map (some m), .slice none 0 0] := by kernel_rfl
theorem rnew_calls (n : Int) (w : World) (hn : 1 ≤ n) (hn' : n ≤ 4096) : Calls Tryd.prog 13 #[.int .i64 n] w fun e w' => e = .returned (.tuple #[.pointer (some ⟨w.heap.size + 1, 0, none⟩), .int .i64 0]) ∧ Rk w' w.heap.size (w.heap.size + 1) w.heap.size (.slice none 0 0) n.toNat [] (-1) false (fun _ => none) 0 ∧ Below w.heap.size w w' := by
  have h1 : decide (n < 1) = false := decide_eq_false (by omega)
  have h2 : decide (4096 < n) = false := decide_eq_false (by omega)
  have hmm := @run_makeMap Tryd.prog
  go_enter Tryd.func13, Tryd.ntmps13
  go_wp2
  go_ret2
  refine ⟨rfl, ⟨?_, ?_, ⟨by simp [wr2], .inl ⟨rfl, rfl⟩⟩, by omega, Nat.le_refl _, by omega, by simp [Value.ownBlock], by simp [Value.ownBlock]⟩, ?_⟩
  · have e : ((n.toNat : Nat) : Int) = n := Int.toNat_of_nonneg (by omega)
    rw [e]
    have := heap_alloc_last (w.alloc (Obj.map #[] 0)) (Obj.cells #[Value.int IntKind.i64 n, Value.int IntKind.i64 (-1), Value.bool false, Value.map (some w.heap.size), Value.slice none 0 0] 48)
    simpa using this
  · exact (MapS.made w).heap (Below.heap_alloc _ _ _ (by simp))
  · repeat (first | exact Below.refl _ _ | refine Below.alloc ?_ (by simp <;> omega) _)
theorem rnew_bad (n : Int) (w : World) (h : ¬ (1 ≤ n ∧ n ≤ 4096)) : Calls Tryd.prog 13 #[.int .i64 n] w fun e w' => e = .returned (.tuple #[.pointer none, .int .i64 1]) ∧ w' = w := by
  by_cases h1 : n < 1
  · have d0 : decide (n < 1) = true := decide_eq_true h1
    go_enter Tryd.func13, Tryd.ntmps13
    go_wp2
    go_ret2
    exact ⟨rfl, rfl⟩
  · have d0 : decide (n < 1) = false := decide_eq_false h1
    have d1 : decide (4096 < n) = true := decide_eq_true (by omega)
    go_enter Tryd.func13, Tryd.ntmps13
    go_wp2
    go_ret2
    exact ⟨rfl, rfl⟩
theorem new_bad (n : Int) (w : World) (h : ¬ (1 ≤ n ∧ n ≤ 4096)) : Calls Tryd.prog 6 #[.int .i64 n] w fun e w' => e = .returned (.tuple #[.pointer none, .iface 53 (.int .i64 1)]) ∧ w' = w := by
  by_cases h1 : n < 1
  · have d0 : decide (n < 1) = true := decide_eq_true h1
    go_enter Tryd.func6, Tryd.ntmps6
    go_wp2
    go_ret2
    exact ⟨rfl, rfl⟩
  · have d0 : decide (n < 1) = false := decide_eq_false h1
    have d1 : decide (4096 < n) = true := decide_eq_true (by omega)
    go_enter Tryd.func6, Tryd.ntmps6
    go_wp2
    go_ret2
    exact ⟨rfl, rfl⟩

/-! ### The reference's disk holds the same plain data -/
structure RAt (w : World) (B DR BM : Nat) (ok : Nat → Prop) (d : Dsk) (m : Nat) : Prop where
  ex : ∃ vw G cnt, Rk w B DR BM vw d.sure.length d.wait d.left d.off G cnt ∧ (∀ i : Nat, i < d.sure.length → (G i).getD sec0 = d.sure.getD i ByteArray.empty) ∧ cnt + d.wait.length ≤ m ∧ ∀ k, ok k → k < w.heap.size ∧ k ≠ DR ∧ k ≠ BM ∧ vw.ownBlock ≠ some k
  ats : ∀ x, x ∈ d.wait → 0 ≤ x.1 ∧ x.1 < d.sure.length
  szs : ∀ x, x ∈ d.wait → x.2.size = 512
  big : d.sure.length ≤ 4096
  l0 : -1 ≤ d.left
  l1 : d.left < 9223372036854775808
structure RAft (w : World) (B DR BM : Nat) (ok : Nat → Prop) (d' : Dsk) (m : Nat) (w' : World) : Prop where
  disk : RAt w' B DR BM ok d' m
  keep : Keep w w' ok
theorem made_rel (keep : List Bool) (all : Bool) : ∀ (l : List Wr) (k : Nat) (s : List ByteArray) (G : Int → Option ByteArray), (∀ x, x ∈ l → 0 ≤ x.1) → (∀ i : Nat, i < s.length → (G i).getD sec0 = s.getD i ByteArray.empty) →
    ∀ i : Nat, i < s.length → (madeG keep all l k G i).getD sec0 = (madeL keep all l k s).getD i ByteArray.empty
  | [], _, _, _, _, h => h
  | x :: l, k, s, G, hx, h => fun i hi => by
    rw [madeG, madeL]
    refine made_rel keep all l (k + 1) _ _ (fun y hy => hx y (List.mem_cons_of_mem _ hy)) (fun j hj => ?_) i (by rw [mk1_length]; exact hi)
    rw [mk1_length] at hj
    have h0 := hx x List.mem_cons_self
    unfold gk1 mk1
    split
    · unfold gput
      by_cases e : (j : Int) = x.1
      · rw [if_pos e, Option.getD_some, ← e, Int.toNat_natCast, List.getD_eq_getElem?_getD, List.getElem?_set_self hj]
        rfl
      · rw [if_neg e, List.getD_eq_getElem?_getD, List.getElem?_set_ne (by omega), ← List.getD_eq_getElem?_getD]
        exact h j hj
    · exact h j hj
section
variable {w : World} {B DR BM m : Nat} {ok : Nat → Prop} {d : Dsk}
theorem RAt.grow {w' : World} {ok' : Nat → Prop} (h : RAt w B DR BM ok d m) (hk : Keep w w' (fun k => ¬ ok k)) (hok : ∀ k, ok' k → ok k ∨ (w.heap.size ≤ k ∧ k < w'.heap.size)) : RAt w' B DR BM ok' d m := by
  obtain ⟨vw, G, cnt, h1, h3, h4, h2⟩ := h.ex
  have own : ∀ k, vw.ownBlock = some k → k < w.heap.size ∧ ¬ ok k := fun k hk => ⟨h1.own_lt hk, fun ho => (h2 k ho).2.2.2 hk⟩
  refine ⟨⟨vw, G, cnt, h1.keep (hk.block DR h1.ltD (fun o => (h2 DR o).2.1 rfl)) (hk.block BM h1.map.lt (fun o => (h2 BM o).2.2.1 rfl)) (fun k hv => hk.block k (own k hv).1 (own k hv).2), h3, h4, fun k ho => ?_⟩, h.ats, h.szs, h.big, h.l0, h.l1⟩
  rcases hok k ho with ho | ⟨ho, hlt⟩
  · have := h2 k ho
    exact ⟨Nat.lt_of_lt_of_le this.1 hk.size, this.2⟩
  · refine ⟨hlt, ?_, ?_, ?_⟩
    · have := h1.ltD; omega
    · have := h1.map.lt; omega
    · intro e
      have := (own k e).1
      omega
theorem RAt.mono (h : RAt w B DR BM ok d m) {m' : Nat} (hm : m ≤ m') : RAt w B DR BM ok d m' := by
  obtain ⟨vw, G, cnt, h1, h3, h4, h2⟩ := h.ex
  exact ⟨⟨vw, G, cnt, h1, h3, Nat.le_trans h4 hm, h2⟩, h.ats, h.szs, h.big, h.l0, h.l1⟩
theorem RAt.sub {ok' : Nat → Prop} (h : RAt w B DR BM ok d m) (hs : ∀ k, ok' k → ok k) : RAt w B DR BM ok' d m := by
  obtain ⟨vw, G, cnt, h1, h3, h4, h2⟩ := h.ex
  exact ⟨⟨vw, G, cnt, h1, h3, h4, fun k hk => h2 k (hs k hk)⟩, h.ats, h.szs, h.big, h.l0, h.l1⟩
theorem RAt.below {w' : World} (h : RAt w B DR BM ok d m) (hb : Below w.heap.size w w') : RAt w' B DR BM ok d m :=
  h.grow (Keep.of_below hb (Nat.le_refl _)) (fun _ hk => .inl hk)
theorem RAt.at0 (h : RAt w B DR BM ok d m) : w.cell? ⟨DR, 0, none⟩ = some (.int .i64 (d.sure.length : Int)) := by
  obtain ⟨vw, G, cnt, h1, _⟩ := h.ex
  exact h1.c0
theorem RAt.at2 (h : RAt w B DR BM ok d m) : w.cell? ⟨DR, 2, none⟩ = some (.bool d.off) := by
  obtain ⟨vw, G, cnt, h1, _⟩ := h.ex
  exact h1.c2
theorem raft {vw vw' : Value} {d' : Dsk} {w' : World} {G' : Int → Option ByteArray} {cnt' : Nat} (h2 : ∀ k, ok k → k < w.heap.size ∧ k ≠ DR ∧ k ≠ BM ∧ vw.ownBlock ≠ some k) (h' : Rk w' B DR BM vw' d'.sure.length d'.wait d'.left d'.off G' cnt') (hk : Keep w w' ok)
    (hv : vw'.ownBlock = vw.ownBlock ∨ vw'.ownBlock = none ∨ ∃ b, vw'.ownBlock = some b ∧ w.heap.size ≤ b) (hG : ∀ i : Nat, i < d'.sure.length → (G' i).getD sec0 = d'.sure.getD i ByteArray.empty) (hm : cnt' + d'.wait.length ≤ m)
    (ha : ∀ x, x ∈ d'.wait → 0 ≤ x.1 ∧ x.1 < d'.sure.length) (hs : ∀ x, x ∈ d'.wait → x.2.size = 512) (hb : d'.sure.length ≤ 4096) (hl : -1 ≤ d'.left ∧ d'.left < 9223372036854775808) : RAft w B DR BM ok d' m w' := by
  refine ⟨⟨⟨vw', G', cnt', h', hG, hm, fun k ho => ⟨Nat.lt_of_lt_of_le (h2 k ho).1 hk.size, (h2 k ho).2.1, (h2 k ho).2.2.1, fun e => ?_⟩⟩, ha, hs, hb, hl.1, hl.2⟩, hk⟩
  rcases hv with hv | hv | ⟨b, hb, hle⟩
  · exact (h2 k ho).2.2.2 (hv.symm.trans e)
  · rw [hv] at e
    cases e
  · rw [hb] at e
    injection e with e
    have := (h2 k ho).1
    omega
theorem q_new (n : Int) (w : World) (hn : 1 ≤ n) (hn' : n ≤ 4096) : Calls Tryd.prog 13 #[.int .i64 n] w fun e w' => e = .returned (.tuple #[.pointer (some ⟨w.heap.size + 1, 0, none⟩), .int .i64 0]) ∧ RAft w w.heap.size (w.heap.size + 1) w.heap.size (fun k => k < w.heap.size) (newD n.toNat) 0 w' :=
  (rnew_calls n w hn hn').mono fun e w' ⟨he, hd, hb⟩ => by
    have hl : (newD n.toNat).sure.length = n.toNat := by simp [newD]
    refine ⟨he, raft (vw := .slice none 0 0) (fun k hk => ⟨hk, by omega, by omega, by simp [Value.ownBlock]⟩) (vw' := .slice none 0 0) (cnt' := 0) (G' := fun _ => none) (by rw [hl]; exact hd) (Keep.of_below hb (Nat.le_refl _)) (.inl rfl) (fun i hi => ?_) (by simp [newD]) (fun x hx => by cases hx) (fun x hx => by cases hx) (by rw [hl]; omega) (by simp [newD])⟩
    show sec0 = (List.replicate n.toNat sec0).getD i ByteArray.empty
    rw [hl] at hi
    rw [List.getD_eq_getElem?_getD, List.getElem?_replicate, if_pos hi]
    rfl
theorem q_write (i : Int) (s : ByteArray) (h : RAt w B DR BM ok d m) (hc : d.can = true) (hi : d.here i) (hs : s.size ≤ 512) (hm : m ≤ 1000000) :
    Calls Tryd.prog 17 #[.pointer (some ⟨DR, 0, none⟩), .int .i64 i, .string s] w fun e w' => e = .returned (.int .i64 0) ∧ RAft w B DR BM ok (d.wrote i s) (m + 1) w' := by
  obtain ⟨vw, G, cnt, h1, h3, h4, h2⟩ := h.ex
  obtain ⟨ho, hl⟩ := can_iff.1 hc
  have h1' := h1
  rw [ho] at h1'
  refine (rwrite_on i s h1' h.l0 h.l1 hl hi.1 hi.2 hs (by omega)).mono fun e w' ⟨he, vw', hd, hk, hv⟩ => ⟨he, raft h2 (vw' := vw') (G' := G) (cnt' := cnt) ?_ (hk.mono (fun k _ ho => ⟨(h2 k ho).2.1, (h2 k ho).2.2.2⟩)) ?_ h3 ?_ ?_ ?_ h.big ?_⟩
  · show Rk w' B DR BM vw' d.sure.length (d.wait ++ [(i, full s)]) (stepLeft d.left d.off) (stepOff d.left d.off) G cnt
    rw [ho, show stepOff d.left false = false by simp [stepOff, hl]]
    exact hd
  · rcases hv with hv | hv
    · exact .inl hv
    · exact .inr (.inr hv)
  · show cnt + (d.wait ++ [(i, full s)]).length ≤ m + 1
    rw [List.length_append]
    simp
    omega
  · intro x hx
    rcases List.mem_append.1 hx with hx | hx
    · exact h.ats x hx
    · rw [List.mem_singleton.1 hx]
      exact hi
  · intro x hx
    rcases List.mem_append.1 hx with hx | hx
    · exact h.szs x hx
    · rw [List.mem_singleton.1 hx]
      exact full_size hs
  · exact stepLeft_bd h.l0 h.l1
theorem q_write_out (i : Int) (s : ByteArray) (h : RAt w B DR BM ok d m) (ho : d.off = false) (hi : ¬ (d.here i ∧ s.size ≤ 512)) :
    Calls Tryd.prog 17 #[.pointer (some ⟨DR, 0, none⟩), .int .i64 i, .string s] w fun e w' => e = .returned (.int .i64 1) ∧ w' = w :=
  rwrite_out i s h.at0 (by rw [h.at2, ho]) (fun ⟨a, b, c⟩ => hi ⟨⟨a, b⟩, c⟩)
theorem q_write_no (i : Int) (s : ByteArray) (h : RAt w B DR BM ok d m) (hc : d.can = false) (hi : d.off = true ∨ (d.here i ∧ s.size ≤ 512)) :
    Calls Tryd.prog 17 #[.pointer (some ⟨DR, 0, none⟩), .int .i64 i, .string s] w fun e w' => e = .returned (.int .i64 20) ∧ RAft w B DR BM ok d.stepped m w' := by
  by_cases ho : d.off = true
  · refine (rwrite_off i s (by rw [h.at2, ho])).mono fun e w' ⟨he, hw⟩ => ⟨he, ?_⟩
    subst hw
    have : d.stepped = d := by
      obtain ⟨su, wa, l, o⟩ := d
      simp only at ho
      subst ho
      simp [Dsk.stepped, stepLeft, stepOff]
    rw [this]
    exact ⟨h, Keep.refl _ _⟩
  · have ho' : d.off = false := by simpa using ho
    have hl : d.left = 0 := Classical.byContradiction fun hn => by rw [can_iff.2 ⟨ho', hn⟩] at hc; cases hc
    obtain ⟨hh, hs⟩ := hi.resolve_left ho
    obtain ⟨vw, G, cnt, h1, h3, h4, h2⟩ := h.ex
    have h1' := h1
    rw [ho', hl] at h1'
    refine (rwrite_dry i s h1' hh.1 hh.2 hs).mono fun e w' ⟨he, hd, hk⟩ => ⟨he, raft h2 (vw' := vw) (G' := G) (cnt' := cnt) ?_ (hk.mono (fun k _ ho => (h2 k ho).2.1)) (.inl rfl) h3 h4 h.ats h.szs h.big (stepLeft_bd h.l0 h.l1)⟩
    show Rk w' B DR BM vw d.sure.length d.wait (stepLeft d.left d.off) (stepOff d.left d.off) G cnt
    rw [ho', hl]
    exact hd
theorem RAt.bd (h : RAt w B DR BM ok d m) : ∀ x, x ∈ d.wait → 0 ≤ x.1 ∧ x.1 < 9223372036854775807 := fun x hx => by have := h.ats x hx; have := h.big; omega
theorem RAt.s512 (h : RAt w B DR BM ok d m) : ∀ x, x ∈ d.wait → x.2.size ≤ 512 := fun x hx => by have := h.szs x hx; omega
theorem q_flush (h : RAt w B DR BM ok d m) (hc : d.can = true) (hm : m ≤ 1000000) :
    Calls Tryd.prog 18 #[.pointer (some ⟨DR, 0, none⟩)] w fun e w' => e = .returned (.int .i64 0) ∧ RAft w B DR BM ok d.flushed m w' := by
  obtain ⟨vw, G, cnt, h1, h3, h4, h2⟩ := h.ex
  obtain ⟨ho, hl⟩ := can_iff.1 hc
  have h1' := h1
  rw [ho] at h1'
  refine (rflush_on h1' h.l0 h.l1 hl (by omega) h.bd h.s512).mono fun e w' ⟨he, hd, hk⟩ => ⟨he, raft h2 (vw' := .slice none 0 0) (G' := madeG [] true d.wait 0 G) (cnt' := cnt + d.wait.length) ?_ (hk.mono (fun k _ ho => ⟨(h2 k ho).2.1, (h2 k ho).2.2.1⟩)) (.inr (.inl rfl)) ?_ h4 (fun x hx => by cases hx) (fun x hx => by cases hx) ?_ (stepLeft_bd h.l0 h.l1)⟩
  · show Rk w' B DR BM _ (madeL [] true d.wait 0 d.sure).length [] (stepLeft d.left d.off) (stepOff d.left d.off) _ _
    rw [madeL_length, ho, show stepOff d.left false = false by simp [stepOff, hl]]
    exact hd
  · intro i hi
    exact made_rel [] true d.wait 0 d.sure G (fun x hx => (h.ats x hx).1) h3 i (by rw [show d.flushed.sure.length = d.sure.length from madeL_length _ _ _ _ _] at hi; exact hi)
  · show (madeL [] true d.wait 0 d.sure).length ≤ 4096
    rw [madeL_length]
    exact h.big
theorem q_flush_no (h : RAt w B DR BM ok d m) (hc : d.can = false) :
    Calls Tryd.prog 18 #[.pointer (some ⟨DR, 0, none⟩)] w fun e w' => e = .returned (.int .i64 20) ∧ RAft w B DR BM ok d.stepped m w' := by
  by_cases ho : d.off = true
  · refine (rflush_off (by rw [h.at2, ho])).mono fun e w' ⟨he, hw⟩ => ⟨he, ?_⟩
    subst hw
    have : d.stepped = d := by
      obtain ⟨su, wa, l, o⟩ := d
      simp only at ho
      subst ho
      simp [Dsk.stepped, stepLeft, stepOff]
    rw [this]
    exact ⟨h, Keep.refl _ _⟩
  · have ho' : d.off = false := by simpa using ho
    have hl : d.left = 0 := Classical.byContradiction fun hn => by rw [can_iff.2 ⟨ho', hn⟩] at hc; cases hc
    obtain ⟨vw, G, cnt, h1, h3, h4, h2⟩ := h.ex
    have h1' := h1
    rw [ho', hl] at h1'
    refine (rflush_dry h1').mono fun e w' ⟨he, hd, hk⟩ => ⟨he, raft h2 (vw' := vw) (G' := G) (cnt' := cnt) ?_ (hk.mono (fun k _ ho => (h2 k ho).2.1)) (.inl rfl) h3 h4 h.ats h.szs h.big (stepLeft_bd h.l0 h.l1)⟩
    show Rk w' B DR BM vw d.sure.length d.wait (stepLeft d.left d.off) (stepOff d.left d.off) G cnt
    rw [ho', hl]
    exact hd
theorem q_fall {A : Option Addr} {c : Nat} (keep : List Bool) (h : RAt w B DR BM ok d m) (hk : KeepAt w A keep BM) (hm : m ≤ 1000000) :
    Calls Tryd.prog 19 #[.pointer (some ⟨DR, 0, none⟩), .slice A keep.length c] w fun e w' => e = .returned (.tuple #[]) ∧ RAft w B DR BM ok (d.fallen keep) m w' := by
  obtain ⟨vw, G, cnt, h1, h3, h4, h2⟩ := h.ex
  refine (rfall_calls keep h1 (by omega) h.bd h.s512 hk).mono fun e w' ⟨he, hd, hk⟩ => ⟨he, raft h2 (vw' := .slice none 0 0) (G' := madeG keep false d.wait 0 G) (cnt' := cnt + d.wait.length) ?_ (hk.mono (fun k _ ho => ⟨(h2 k ho).2.1, (h2 k ho).2.2.1⟩)) (.inr (.inl rfl)) ?_ h4 (fun x hx => by cases hx) (fun x hx => by cases hx) ?_ (by show (-1 : Int) ≤ -1 ∧ (-1 : Int) < _; omega)⟩
  · show Rk w' B DR BM _ (madeL keep false d.wait 0 d.sure).length [] (-1) false _ _
    rw [madeL_length]
    exact hd
  · intro i hi
    exact made_rel keep false d.wait 0 d.sure G (fun x hx => (h.ats x hx).1) h3 i (by rw [show (d.fallen keep).sure.length = d.sure.length from madeL_length _ _ _ _ _] at hi; exact hi)
  · show (madeL keep false d.wait 0 d.sure).length ≤ 4096
    rw [madeL_length]
    exact h.big
theorem q_read (i : Int) (h : RAt w B DR BM ok d m) (ho : d.off = false) (hi : d.here i) :
    Calls Tryd.prog 20 #[.pointer (some ⟨DR, 0, none⟩), .int .i64 i] w fun e w' => e = .returned (.tuple #[.string (d.get i), .int .i64 0]) ∧ RAft w B DR BM ok d m w' := by
  obtain ⟨vw, G, cnt, h1, h3, h4, h2⟩ := h.ex
  rw [ho] at h1
  refine (rread_on i h1 hi.1 hi.2 (by have := hi.2; have := h.big; omega)).mono fun e w' ⟨he, hb⟩ => ⟨?_, h.below hb, Keep.of_below hb (Nat.le_refl _)⟩
  rw [he]
  have e1 : (G i).getD sec0 = d.sure.getD i.toNat ByteArray.empty := by
    have := h3 i.toNat (by have := hi.2; have := hi.1; omega)
    rw [Int.toNat_of_nonneg hi.1] at this
    exact this
  rw [e1]
  rfl
theorem q_read_off (i : Int) (h : RAt w B DR BM ok d m) (ho : d.off = true) :
    Calls Tryd.prog 20 #[.pointer (some ⟨DR, 0, none⟩), .int .i64 i] w fun e w' => e = .returned (.tuple #[.string ByteArray.empty, .int .i64 20]) ∧ w' = w :=
  rread_off i (by rw [h.at2, ho])
theorem q_read_out (i : Int) (h : RAt w B DR BM ok d m) (ho : d.off = false) (hi : ¬ d.here i) :
    Calls Tryd.prog 20 #[.pointer (some ⟨DR, 0, none⟩), .int .i64 i] w fun e w' => e = .returned (.tuple #[.string ByteArray.empty, .int .i64 1]) ∧ w' = w :=
  rread_out i h.at0 (by rw [h.at2, ho]) hi
/-- 'w.Left = max(n, -1)'. -/
theorem RAt.fuel (h : RAt w B DR BM ok d m) (n : Int) (hn : n < 9223372036854775808) : RAft w B DR BM ok (d.fueled n) m (w.setCell ⟨DR, 1, none⟩ (.int .i64 (max n (-1)))) := by
  obtain ⟨vw, G, cnt, h1, h3, h4, h2⟩ := h.ex
  exact raft h2 (vw' := vw) (G' := G) (cnt' := cnt) (h1.set (j := 1) (u := .int .i64 (max n (-1))) (left' := max n (-1)) (off' := d.off) rfl) (Keep.setCell _ _ _ (fun h => (h2 DR h).2.1 rfl)) (.inl rfl) h3 h4 h.ats h.szs h.big (by show -1 ≤ max n (-1) ∧ max n (-1) < _; omega)
end
#print axioms q_fall
end Go.Proofs.YtpdnfaggdheneaaDoorS
