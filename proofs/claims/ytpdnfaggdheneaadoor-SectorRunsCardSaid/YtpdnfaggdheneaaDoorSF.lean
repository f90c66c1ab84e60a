/- Flush and Fall; a disk as plain data, and what each call does to it. -/
import Derived.Test.YtpdnfaggdheneaaDoorSM
namespace Go.Proofs.YtpdnfaggdheneaaDoorS
open Go.RowKit Go.Proofs Go.Proofs.YtpdnfaggdheneaaDoorW.PrintWords

/-! ### Flush, Fall -/
def FlushEnd (w : World) (B D S : Nat) (sure : List ByteArray) (wait : List Wr) (left : Int) (e : Ending) (w' : World) : Prop :=
  e = .returned .nilIface ∧ Dk w' B D S (.slice none 0 0) (madeL [] true wait 0 sure) [] left false ∧ Keep w w' (fun k => k ≠ D ∧ k ≠ S)
theorem keepAt_nil (w : World) (S : Nat) : KeepAt w none [] S := ⟨by simp, fun j hj => by cases hj⟩
theorem flush_on {w : World} {B D S : Nat} {vw : Value} {sure : List ByteArray} {wait : List Wr} {left : Int} (h : Dk w B D S vw sure wait left false) (hat : ∀ x, x ∈ wait → 0 ≤ x.1 ∧ x.1 < sure.length) (hl0 : -1 ≤ left) (hl1 : left < 9223372036854775808) (hl : left ≠ 0) :
    Calls Tryd.prog 9 #[.pointer (some ⟨D, 0, none⟩)] w (FlushEnd w B D S sure wait (stepLeft left false)) := by
  have st := step_calls h hl0 hl1
  rw [show stepB left false = true by simp [stepB, hl], show stepOff left false = false by simp [stepOff, hl]] at st
  have ST := Lib.hid st
  have HAT := Lib.hid hat
  clear h st hl hl0 hl1 hat
  go_enter Tryd.func9, Tryd.ntmps9
  go_wp2_with (first | (go_at_call 22; refine ST.out.mono ?_; rintro e w2 ⟨rfl, hd2, hk2⟩; have HD2 := Lib.hid hd2; have HK2 := Lib.hid hk2; clear hd2 hk2) | (go_at_call 23; refine (make_calls (A := none) (c := 0) [] true HD2.out HAT.out (keepAt_nil _ _)).mono ?_; rintro e w3 ⟨rfl, hd3, hk3⟩; have HD3 := Lib.hid hd3; have HK3 := Lib.hid hk3; clear hd3 hk3))
  go_ret
  exact ⟨rfl, HD3.out, (HK2.out.mono (fun k _ h => h.1)).trans HK3.out⟩
theorem flush_dry {w : World} {B D S : Nat} {vw : Value} {sure : List ByteArray} {wait : List Wr} {left : Int} {off : Bool} (h : Dk w B D S vw sure wait left off) (hl0 : -1 ≤ left) (hl1 : left < 9223372036854775808) (hl : stepB left off = false) :
    Calls Tryd.prog 9 #[.pointer (some ⟨D, 0, none⟩)] w fun e w' => e = .returned (.iface 53 (.int .i64 20)) ∧ Dk w' B D S vw sure wait (stepLeft left off) (stepOff left off) ∧ Keep w w' (fun k => k ≠ D) := by
  have st := step_calls h hl0 hl1
  rw [hl] at st
  have ST := Lib.hid st
  clear h st hl hl0 hl1
  go_enter Tryd.func9, Tryd.ntmps9
  go_wp2_with (first | (go_at_call 22; refine ST.out.mono ?_; rintro e w2 ⟨rfl, hd2, hk2⟩; have HD2 := Lib.hid hd2; have HK2 := Lib.hid hk2; clear hd2 hk2))
  go_ret
  exact ⟨rfl, HD2.out, HK2.out⟩
def FallEnd (w : World) (B D S : Nat) (sure : List ByteArray) (wait : List Wr) (keep : List Bool) (e : Ending) (w' : World) : Prop :=
  e = .returned (.tuple #[]) ∧ Dk w' B D S (.slice none 0 0) (madeL keep false wait 0 sure) [] (-1) false ∧ Keep w w' (fun k => k ≠ D ∧ k ≠ S)
theorem fall_calls {w : World} {B D S : Nat} {vw : Value} {sure : List ByteArray} {wait : List Wr} {left : Int} {off : Bool} {A : Option Addr} {c : Nat} (keep : List Bool) (h : Dk w B D S vw sure wait left off) (hat : ∀ x, x ∈ wait → 0 ≤ x.1 ∧ x.1 < sure.length) (hk : KeepAt w A keep S) :
    Calls Tryd.prog 12 #[.pointer (some ⟨D, 0, none⟩), .slice A keep.length c] w (FallEnd w B D S sure wait keep) := by
  have MK := Lib.hid (make_calls (A := A) (c := c) keep false h hat hk)
  clear h hat hk
  go_enter Tryd.func12, Tryd.ntmps12
  go_wp2_with (first | (go_at_call 23; refine MK.out.mono ?_; rintro e w3 ⟨rfl, hd3, hk3⟩; have HD3 := Lib.hid hd3; have HK3 := Lib.hid hk3; have c2 := hd3.c2; have c3 := hd3.c3; have f2 := hd3.fr 2; have f3 := hd3.fr 3; clear hd3 hk3))
  go_end0
  refine ⟨rfl, ?_, (HK3.out.trans (Keep.setCell _ _ _ (fun h => h.1 rfl))).trans (Keep.setCell _ _ _ (fun h => h.1 rfl))⟩
  exact (HD3.out.setOff false).setLeft (-1)

/-! ### A disk as plain data -/
structure Dsk where
  sure : List ByteArray
  wait : List Wr
  left : Int
  off : Bool
/-- Memory holds the disk; blocks that are ok are none of its own. -/
structure At (w : World) (B D S : Nat) (ok : Nat → Prop) (d : Dsk) : Prop where
  ex : ∃ vw, Dk w B D S vw d.sure d.wait d.left d.off ∧ ∀ k, ok k → k < w.heap.size ∧ k ≠ D ∧ k ≠ S ∧ vw.ownBlock ≠ some k
  ats : ∀ x, x ∈ d.wait → 0 ≤ x.1 ∧ x.1 < d.sure.length
  l0 : -1 ≤ d.left
  l1 : d.left < 9223372036854775808
/-- Behind a call: the disk is d', blocks that are ok are kept. -/
structure Aft (w : World) (B D S : Nat) (ok : Nat → Prop) (d' : Dsk) (w' : World) : Prop where
  disk : At w' B D S ok d'
  keep : Keep w w' ok
def newD (n : Nat) : Dsk := ⟨List.replicate n sec0, [], -1, false⟩
def Dsk.get (d : Dsk) (i : Int) : ByteArray := readL d.wait i (d.sure.getD i.toNat ByteArray.empty)
def Dsk.here (d : Dsk) (i : Int) : Prop := 0 ≤ i ∧ i < d.sure.length
def Dsk.stepped (d : Dsk) : Dsk := ⟨d.sure, d.wait, stepLeft d.left d.off, stepOff d.left d.off⟩
def Dsk.can (d : Dsk) : Bool := stepB d.left d.off
def Dsk.wrote (d : Dsk) (i : Int) (s : ByteArray) : Dsk := ⟨d.sure, d.wait ++ [(i, full s)], stepLeft d.left d.off, stepOff d.left d.off⟩
def Dsk.flushed (d : Dsk) : Dsk := ⟨madeL [] true d.wait 0 d.sure, [], stepLeft d.left d.off, stepOff d.left d.off⟩
def Dsk.fueled (d : Dsk) (n : Int) : Dsk := ⟨d.sure, d.wait, max n (-1), d.off⟩
def Dsk.fallen (d : Dsk) (keep : List Bool) : Dsk := ⟨madeL keep false d.wait 0 d.sure, [], -1, false⟩
theorem stepLeft_bd {l : Int} {o : Bool} (h0 : -1 ≤ l) (h1 : l < 9223372036854775808) : -1 ≤ stepLeft l o ∧ stepLeft l o < 9223372036854775808 := by
  unfold stepLeft
  split <;> omega
theorem At.sub {w : World} {B D S : Nat} {ok ok' : Nat → Prop} {d : Dsk} (h : At w B D S ok d) (hs : ∀ k, ok' k → ok k) : At w B D S ok' d := by
  obtain ⟨vw, h1, h2⟩ := h.ex
  exact ⟨⟨vw, h1, fun k hk => h2 k (hs k hk)⟩, h.ats, h.l0, h.l1⟩
section
variable {w : World} {B D S : Nat} {ok : Nat → Prop} {d : Dsk}
theorem can_iff : d.can = true ↔ d.off = false ∧ d.left ≠ 0 := by
  unfold Dsk.can stepB
  cases d.off <;> simp
theorem At.lt (h : At w B D S ok d) : ∀ k, ok k → k < w.heap.size := fun k hk => by
  obtain ⟨vw, _, h2⟩ := h.ex
  exact (h2 k hk).1
/-- Other blocks are written, new ones made: the disk stays. -/
theorem At.grow {w' : World} {ok' : Nat → Prop} (h : At w B D S ok d) (hk : Keep w w' (fun k => ¬ ok k)) (hok : ∀ k, ok' k → ok k ∨ (w.heap.size ≤ k ∧ k < w'.heap.size)) : At w' B D S ok' d := by
  obtain ⟨vw, h1, h2⟩ := h.ex
  have own : ∀ k, vw.ownBlock = some k → k < w.heap.size ∧ ¬ ok k := fun k hk => by
    refine ⟨?_, fun ho => (h2 k ho).2.2.2 hk⟩
    rcases h1.row.2 with ⟨rfl, _⟩ | ⟨g, cap, cur, rfl, _, hh, _⟩
    · cases hk
    · have : g = k := by simpa [Value.ownBlock] using hk
      subst this
      exact (Array.getElem?_eq_some_iff.1 hh).1
  refine ⟨⟨vw, h1.keep (hk.block D h1.lt.1 (fun o => (h2 D o).2.1 rfl)) (hk.block S h1.lt.2 (fun o => (h2 S o).2.2.1 rfl)) (fun k hv => hk.block k (own k hv).1 (own k hv).2), fun k ho => ?_⟩, h.ats, h.l0, h.l1⟩
  rcases hok k ho with ho | ⟨ho, hlt⟩
  · have := h2 k ho
    exact ⟨Nat.lt_of_lt_of_le this.1 hk.size, this.2⟩
  · refine ⟨hlt, ?_, ?_, ?_⟩
    · have := h1.lt.1; omega
    · have := h1.lt.2; omega
    · intro e
      have := (own k e).1
      omega
theorem At.below {w' : World} (h : At w B D S ok d) (hb : Below w.heap.size w w') : At w' B D S ok d :=
  h.grow (Keep.of_below hb (Nat.le_refl _)) (fun _ hk => .inl hk)
theorem Aft.of_below {w' : World} (h : At w B D S ok d) (hb : Below w.heap.size w w') : Aft w B D S ok d w' := ⟨h.below hb, Keep.of_below hb (Nat.le_refl _)⟩
theorem At.at3 (h : At w B D S ok d) : w.cell? ⟨D, 3, none⟩ = some (.bool d.off) := by
  obtain ⟨vw, h1, _⟩ := h.ex
  exact h1.c3
theorem At.at0 (h : At w B D S ok d) : w.cell? ⟨D, 0, none⟩ = some (.slice (some ⟨S, 0, none⟩) d.sure.length d.sure.length) := by
  obtain ⟨vw, h1, _⟩ := h.ex
  exact h1.c0
/-- From a call's own words: the same row, or another that is new. -/
theorem aft {vw vw' : Value} {d' : Dsk} {w' : World} (_hd : At w B D S ok d) (h2 : ∀ k, ok k → k < w.heap.size ∧ k ≠ D ∧ k ≠ S ∧ vw.ownBlock ≠ some k) (h' : Dk w' B D S vw' d'.sure d'.wait d'.left d'.off) (hk : Keep w w' ok)
    (hv : vw'.ownBlock = vw.ownBlock ∨ vw'.ownBlock = none ∨ ∃ b, vw'.ownBlock = some b ∧ w.heap.size ≤ b) (ha : ∀ x, x ∈ d'.wait → 0 ≤ x.1 ∧ x.1 < d'.sure.length) (hl : -1 ≤ d'.left ∧ d'.left < 9223372036854775808) : Aft w B D S ok d' w' := by
  refine ⟨⟨⟨vw', h', fun k ho => ⟨Nat.lt_of_lt_of_le (h2 k ho).1 hk.size, (h2 k ho).2.1, (h2 k ho).2.2.1, fun e => ?_⟩⟩, ha, hl.1, hl.2⟩, hk⟩
  rcases hv with hv | hv | ⟨b, hb, hle⟩
  · exact (h2 k ho).2.2.2 (hv.symm.trans e)
  · rw [hv] at e
    cases e
  · rw [hb] at e
    injection e with e
    have := (h2 k ho).1
    omega
end

/-! ### What each call does -/
section
variable {w : World} {B D S : Nat} {ok : Nat → Prop} {d : Dsk}
theorem a_new (n : Int) (w : World) (hn : 1 ≤ n) (hn' : n ≤ 4096) : Calls Tryd.prog 6 #[.int .i64 n] w fun e w' => e = .returned (.tuple #[.pointer (some ⟨w.heap.size + 1, 0, none⟩), .nilIface]) ∧ Aft w w.heap.size (w.heap.size + 1) w.heap.size (fun k => k < w.heap.size) (newD n.toNat) w' :=
  (new_calls n w hn hn').mono fun e w' ⟨he, hd, hb⟩ => ⟨he, ⟨⟨⟨_, hd, fun k hk => ⟨Nat.lt_of_lt_of_le hk hb.size, by omega, by omega, by simp [Value.ownBlock]⟩⟩, (fun x hx => by cases hx), by simp [newD], by simp [newD]⟩, Keep.of_below hb (Nat.le_refl _)⟩⟩
theorem a_read (i : Int) (h : At w B D S ok d) (ho : d.off = false) (hi : d.here i) :
    Calls Tryd.prog 14 #[.pointer (some ⟨D, 0, none⟩), .int .i64 i] w fun e w' => e = .returned (.tuple #[.string (d.get i), .nilIface]) ∧ Aft w B D S ok d w' := by
  obtain ⟨vw, h1, _⟩ := h.ex
  rw [ho] at h1
  exact (read_on i h1 hi.1 hi.2).mono fun e w' ⟨he, hb⟩ => ⟨he, Aft.of_below h hb⟩
theorem a_read_off (i : Int) (h : At w B D S ok d) (ho : d.off = true) :
    Calls Tryd.prog 14 #[.pointer (some ⟨D, 0, none⟩), .int .i64 i] w fun e w' => e = .returned (.tuple #[.string ByteArray.empty, .iface 53 (.int .i64 20)]) ∧ w' = w :=
  read_off i (by rw [h.at3, ho])
theorem a_read_out (i : Int) (h : At w B D S ok d) (ho : d.off = false) (hi : ¬ d.here i) :
    Calls Tryd.prog 14 #[.pointer (some ⟨D, 0, none⟩), .int .i64 i] w fun e w' => e = .returned (.tuple #[.string ByteArray.empty, .iface 53 (.int .i64 1)]) ∧ w' = w :=
  read_out i h.at0 (by rw [h.at3, ho]) hi
theorem a_write (i : Int) (s : ByteArray) (h : At w B D S ok d) (hc : d.can = true) (hi : d.here i) (hs : s.size ≤ 512) (hn : d.wait.length ≤ 1000000) :
    Calls Tryd.prog 8 #[.pointer (some ⟨D, 0, none⟩), .int .i64 i, .string s] w fun e w' => e = .returned .nilIface ∧ Aft w B D S ok (d.wrote i s) w' := by
  obtain ⟨vw, h1, h2⟩ := h.ex
  obtain ⟨ho, hl⟩ := can_iff.1 hc
  have h1' := h1
  rw [ho] at h1'
  refine (write_on i s h1' h.l0 h.l1 hl hi.1 hi.2 hs hn).mono fun e w' ⟨he, vw', hd, hk, hv⟩ => ⟨he, aft h h2 (vw' := vw') ?_ (hk.mono (fun k _ ho => ⟨(h2 k ho).2.1, (h2 k ho).2.2.2⟩)) ?_ ?_ ?_⟩
  · show Dk w' B D S vw' d.sure (d.wait ++ [(i, full s)]) (stepLeft d.left d.off) (stepOff d.left d.off)
    rw [ho, show stepOff d.left false = false by simp [stepOff, hl]]
    exact hd
  · rcases hv with hv | hv
    · exact .inl hv
    · exact .inr (.inr hv)
  · intro x hx
    rcases List.mem_append.1 hx with hx | hx
    · exact h.ats x hx
    · rw [List.mem_singleton.1 hx]
      exact hi
  · exact stepLeft_bd h.l0 h.l1
theorem a_write_off (i : Int) (s : ByteArray) (h : At w B D S ok d) (ho : d.off = true) :
    Calls Tryd.prog 8 #[.pointer (some ⟨D, 0, none⟩), .int .i64 i, .string s] w fun e w' => e = .returned (.iface 53 (.int .i64 20)) ∧ w' = w :=
  write_off i s (by rw [h.at3, ho])
theorem a_write_out (i : Int) (s : ByteArray) (h : At w B D S ok d) (ho : d.off = false) (hi : ¬ (d.here i ∧ s.size ≤ 512)) :
    Calls Tryd.prog 8 #[.pointer (some ⟨D, 0, none⟩), .int .i64 i, .string s] w fun e w' => e = .returned (.iface 53 (.int .i64 1)) ∧ w' = w :=
  write_out i s h.at0 (by rw [h.at3, ho]) (fun ⟨a, b, c⟩ => hi ⟨⟨a, b⟩, c⟩)
theorem a_write_dry (i : Int) (s : ByteArray) (h : At w B D S ok d) (ho : d.off = false) (hl : d.left = 0) (hi : d.here i) (hs : s.size ≤ 512) :
    Calls Tryd.prog 8 #[.pointer (some ⟨D, 0, none⟩), .int .i64 i, .string s] w fun e w' => e = .returned (.iface 53 (.int .i64 20)) ∧ Aft w B D S ok d.stepped w' := by
  obtain ⟨vw, h1, h2⟩ := h.ex
  have h1' := h1
  rw [ho, hl] at h1'
  refine (write_dry i s h1' hi.1 hi.2 hs).mono fun e w' ⟨he, hd, hk⟩ => ⟨he, aft h h2 (vw' := vw) ?_ (hk.mono (fun k _ ho => (h2 k ho).2.1)) (.inl rfl) h.ats (stepLeft_bd h.l0 h.l1)⟩
  show Dk w' B D S vw d.sure d.wait (stepLeft d.left d.off) (stepOff d.left d.off)
  rw [ho, hl]
  exact hd
theorem a_flush (h : At w B D S ok d) (hc : d.can = true) :
    Calls Tryd.prog 9 #[.pointer (some ⟨D, 0, none⟩)] w fun e w' => e = .returned .nilIface ∧ Aft w B D S ok d.flushed w' := by
  obtain ⟨vw, h1, h2⟩ := h.ex
  obtain ⟨ho, hl⟩ := can_iff.1 hc
  have h1' := h1
  rw [ho] at h1'
  refine (flush_on h1' h.ats h.l0 h.l1 hl).mono fun e w' ⟨he, hd, hk⟩ => ⟨he, aft h h2 (vw' := .slice none 0 0) ?_ (hk.mono (fun k _ ho => ⟨(h2 k ho).2.1, (h2 k ho).2.2.1⟩)) (.inr (.inl rfl)) (fun x hx => by cases hx) (stepLeft_bd h.l0 h.l1)⟩
  show Dk w' B D S _ (madeL [] true d.wait 0 d.sure) [] (stepLeft d.left d.off) (stepOff d.left d.off)
  rw [ho, show stepOff d.left false = false by simp [stepOff, hl]]
  exact hd
theorem a_flush_dry (h : At w B D S ok d) (hc : d.can = false) :
    Calls Tryd.prog 9 #[.pointer (some ⟨D, 0, none⟩)] w fun e w' => e = .returned (.iface 53 (.int .i64 20)) ∧ Aft w B D S ok d.stepped w' := by
  obtain ⟨vw, h1, h2⟩ := h.ex
  exact (flush_dry h1 h.l0 h.l1 hc).mono fun e w' ⟨he, hd, hk⟩ => ⟨he, aft h h2 (vw' := vw) hd (hk.mono (fun k _ ho => (h2 k ho).2.1)) (.inl rfl) h.ats (stepLeft_bd h.l0 h.l1)⟩
theorem a_fuel (n : Int) (h : At w B D S ok d) (hn : n < 9223372036854775808) :
    Calls Tryd.prog 7 #[.pointer (some ⟨D, 0, none⟩), .int .i64 n] w fun e w' => e = .returned (.tuple #[]) ∧ Aft w B D S ok (d.fueled n) w' := by
  obtain ⟨vw, h1, h2⟩ := h.ex
  exact (fuel_calls n h1).mono fun e w' ⟨he, hd, hk⟩ => ⟨he, aft h h2 (vw' := vw) hd (hk.mono (fun k _ ho => (h2 k ho).2.1)) (.inl rfl) h.ats (by show -1 ≤ max n (-1) ∧ max n (-1) < _; omega)⟩
theorem a_fall {A : Option Addr} {c : Nat} (keep : List Bool) (h : At w B D S ok d) (hk : KeepAt w A keep S) :
    Calls Tryd.prog 12 #[.pointer (some ⟨D, 0, none⟩), .slice A keep.length c] w fun e w' => e = .returned (.tuple #[]) ∧ Aft w B D S ok (d.fallen keep) w' := by
  obtain ⟨vw, h1, h2⟩ := h.ex
  exact (fall_calls keep h1 h.ats hk).mono fun e w' ⟨he, hd, hk⟩ => ⟨he, aft h h2 (vw' := .slice none 0 0) hd (hk.mono (fun k _ ho => ⟨(h2 k ho).2.1, (h2 k ho).2.2.1⟩)) (.inr (.inl rfl)) (fun x hx => by cases hx) (by show (-1 : Int) ≤ -1 ∧ (-1 : Int) < _; omega)⟩
theorem a_off (h : At w B D S ok d) : Calls Tryd.prog 10 #[.pointer (some ⟨D, 0, none⟩)] w fun e w' => e = .returned (.bool d.off) ∧ w' = w := off_calls h.at3
end
#print axioms a_fall
end Go.Proofs.YtpdnfaggdheneaaDoorS
