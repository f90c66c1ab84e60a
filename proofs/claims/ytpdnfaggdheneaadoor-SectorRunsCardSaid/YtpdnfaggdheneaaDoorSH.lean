/- Contracts that SectorRuns calls: a disk that is nil; every call whatever its outcome; the two disks side by side. -/
import Derived.Test.YtpdnfaggdheneaaDoorSQ3
import Derived.Test.YtpdnfaggdheneaaDoorSL
namespace Go.Proofs.YtpdnfaggdheneaaDoorS
open Go.RowKit Go.Maps Go.Proofs Go.Proofs.YtpdnfaggdheneaaDoorW.PrintWords Go.Proofs.YtpdnfaggdheneaaDoorC

/-! ### nil -/
theorem off_nil (w : World) : Calls Tryd.prog 10 #[.pointer none] w fun e w' => e = .returned (.bool true) ∧ w' = w := by
  go_enter Tryd.func10, Tryd.ntmps10
  go_wp2
  go_ret
  exact ⟨rfl, rfl⟩
theorem step_nil (w : World) : Calls Tryd.prog 22 #[.pointer none] w fun e w' => e = .returned (.bool false) ∧ w' = w := by
  go_enter Tryd.func22, Tryd.ntmps22
  go_wp2_with (go_at_call 10; refine (off_nil _).mono ?_; rintro e w' ⟨rfl, rfl⟩)
  go_ret
  exact ⟨rfl, rfl⟩
theorem read_nil (i : Int) (w : World) : Calls Tryd.prog 14 #[.pointer none, .int .i64 i] w fun e w' => e = .returned (.tuple #[.string ByteArray.empty, .iface 53 (.int .i64 20)]) ∧ w' = w := by
  go_enter Tryd.func14, Tryd.ntmps14
  go_wp2_with (go_at_call 10; refine (off_nil _).mono ?_; rintro e w' ⟨rfl, rfl⟩)
  go_ret2
  exact ⟨rfl, rfl⟩
theorem write_nil (i : Int) (s : ByteArray) (w : World) : Calls Tryd.prog 8 #[.pointer none, .int .i64 i, .string s] w fun e w' => e = .returned (.iface 53 (.int .i64 20)) ∧ w' = w := by
  go_enter Tryd.func8, Tryd.ntmps8
  go_wp2_with (go_at_call 10; refine (off_nil _).mono ?_; rintro e w' ⟨rfl, rfl⟩)
  go_ret
  exact ⟨rfl, rfl⟩
theorem flush_nil (w : World) : Calls Tryd.prog 9 #[.pointer none] w fun e w' => e = .returned (.iface 53 (.int .i64 20)) ∧ w' = w := by
  go_enter Tryd.func9, Tryd.ntmps9
  go_wp2_with (go_at_call 22; refine (step_nil _).mono ?_; rintro e w' ⟨rfl, rfl⟩)
  go_ret
  exact ⟨rfl, rfl⟩
theorem size_nil (w : World) : Calls Tryd.prog 15 #[.pointer none] w fun e w' => e = .returned (.int .i64 0) ∧ w' = w := by
  go_enter Tryd.func15, Tryd.ntmps15
  go_wp2
  go_ret
  exact ⟨rfl, rfl⟩
theorem pend_nil (w : World) : Calls Tryd.prog 16 #[.pointer none] w fun e w' => e = .returned (.int .i64 0) ∧ w' = w := by
  go_enter Tryd.func16, Tryd.ntmps16
  go_wp2
  go_ret
  exact ⟨rfl, rfl⟩
theorem size_calls {w : World} {D S n : Nat} (h : w.cell? ⟨D, 0, none⟩ = some (.slice (some ⟨S, 0, none⟩) n n)) : Calls Tryd.prog 15 #[.pointer (some ⟨D, 0, none⟩)] w fun e w' => e = .returned (.int .i64 (n : Int)) ∧ w' = w := by
  go_enter Tryd.func15, Tryd.ntmps15
  go_wp2
  go_ret
  exact ⟨rfl, rfl⟩
theorem pend_calls {w : World} {D n cv : Nat} {AV : Option Addr} (h : w.cell? ⟨D, 1, none⟩ = some (.slice AV n cv)) : Calls Tryd.prog 16 #[.pointer (some ⟨D, 0, none⟩)] w fun e w' => e = .returned (.int .i64 (n : Int)) ∧ w' = w := by
  go_enter Tryd.func16, Tryd.ntmps16
  go_wp2
  go_ret
  exact ⟨rfl, rfl⟩

/-! ### Whatever the outcome -/
def errV (c : Nat) : Value := if c = 0 then .nilIface else .iface 53 (.int .i64 (c : Int))
theorem code_any (c : Nat) (w : World) (hg : HasEt w) : Calls Tryd.prog 11 #[errV c] w fun e w' => e = .returned (.int .i64 (c : Int)) ∧ Below w.heap.size w w' := by
  unfold errV
  by_cases h : c = 0
  · rw [if_pos h, h]
    exact (code_nil w).mono fun e w' ⟨he, hw⟩ => ⟨he, by rw [hw]; exact Below.refl _ _⟩
  · rw [if_neg h]
    exact code_err (c : Int) w hg
/-- What a read of sector i gives, and which error. -/
noncomputable def Dsk.rd (d : Dsk) (i : Int) : ByteArray × Nat := if d.off = true then (ByteArray.empty, 20) else if 0 ≤ i ∧ i < d.sure.length then (d.get i, 0) else (ByteArray.empty, 1)
noncomputable def Dsk.wrt (d : Dsk) (i : Int) (s : ByteArray) : Dsk × Nat :=
  if d.off = true then (d.stepped, 20) else if (0 ≤ i ∧ i < d.sure.length) ∧ s.size ≤ 512 then (if d.can = true then (d.wrote i s, 0) else (d.stepped, 20)) else (d, 1)
noncomputable def Dsk.fls (d : Dsk) : Dsk × Nat := if d.can = true then (d.flushed, 0) else (d.stepped, 20)
section
variable {w : World} {B D S : Nat} {ok : Nat → Prop} {d : Dsk}
theorem b_read (i : Int) (h : At w B D S ok d) :
    Calls Tryd.prog 14 #[.pointer (some ⟨D, 0, none⟩), .int .i64 i] w fun e w' => e = .returned (.tuple #[.string (d.rd i).1, errV (d.rd i).2]) ∧ Aft w B D S ok d w' := by
  unfold Dsk.rd
  by_cases ho : d.off = true
  · rw [if_pos ho]
    exact (a_read_off i h ho).mono fun e w' ⟨he, hw⟩ => ⟨he, by rw [hw]; exact ⟨h, Keep.refl _ _⟩⟩
  · rw [if_neg ho]
    have ho' : d.off = false := by simpa using ho
    by_cases hi : 0 ≤ i ∧ i < d.sure.length
    · rw [if_pos hi]
      exact a_read i h ho' hi
    · rw [if_neg hi]
      exact (a_read_out i h ho' hi).mono fun e w' ⟨he, hw⟩ => ⟨he, by rw [hw]; exact ⟨h, Keep.refl _ _⟩⟩
theorem no_of_off {d : Dsk} (ho : d.off = true) : d.can = false := by
  unfold Dsk.can stepB
  rw [ho]
  rfl
theorem b_write (i : Int) (s : ByteArray) (h : At w B D S ok d) (hn : d.wait.length ≤ 1000000) :
    Calls Tryd.prog 8 #[.pointer (some ⟨D, 0, none⟩), .int .i64 i, .string s] w fun e w' => e = .returned (errV (d.wrt i s).2) ∧ Aft w B D S ok (d.wrt i s).1 w' := by
  unfold Dsk.wrt
  by_cases ho : d.off = true
  · rw [if_pos ho]
    refine (a_write_off i s h ho).mono fun e w' ⟨he, hw⟩ => ⟨he, ?_⟩
    subst hw
    have : d.stepped = d := by
      obtain ⟨su, wa, l, o⟩ := d
      simp only at ho
      subst ho
      simp [Dsk.stepped, stepLeft, stepOff]
    show Aft w' B D S ok d.stepped w'
    rw [this]
    exact ⟨h, Keep.refl _ _⟩
  · rw [if_neg ho]
    have ho' : d.off = false := by simpa using ho
    by_cases hi : (0 ≤ i ∧ i < d.sure.length) ∧ s.size ≤ 512
    · rw [if_pos hi]
      by_cases hc : d.can = true
      · rw [if_pos hc]
        exact a_write i s h hc hi.1 hi.2 hn
      · rw [if_neg hc]
        exact a_write_no i s h (by simpa using hc) hi.1 hi.2
    · rw [if_neg hi]
      exact (a_write_out i s h ho' hi).mono fun e w' ⟨he, hw⟩ => ⟨he, by rw [hw]; exact ⟨h, Keep.refl _ _⟩⟩
theorem b_flush (h : At w B D S ok d) :
    Calls Tryd.prog 9 #[.pointer (some ⟨D, 0, none⟩)] w fun e w' => e = .returned (errV d.fls.2) ∧ Aft w B D S ok d.fls.1 w' := by
  unfold Dsk.fls
  by_cases hc : d.can = true
  · rw [if_pos hc]
    exact a_flush h hc
  · rw [if_neg hc]
    exact a_flush_dry h (by simpa using hc)
variable {DR BM m : Nat}
theorem p_read (i : Int) (h : RAt w B DR BM ok d m) :
    Calls Tryd.prog 20 #[.pointer (some ⟨DR, 0, none⟩), .int .i64 i] w fun e w' => e = .returned (.tuple #[.string (d.rd i).1, .int .i64 ((d.rd i).2 : Int)]) ∧ RAft w B DR BM ok d m w' := by
  unfold Dsk.rd
  by_cases ho : d.off = true
  · rw [if_pos ho]
    exact (q_read_off i h ho).mono fun e w' ⟨he, hw⟩ => ⟨he, by rw [hw]; exact ⟨h, Keep.refl _ _⟩⟩
  · rw [if_neg ho]
    have ho' : d.off = false := by simpa using ho
    by_cases hi : 0 ≤ i ∧ i < d.sure.length
    · rw [if_pos hi]
      exact q_read i h ho' hi
    · rw [if_neg hi]
      exact (q_read_out i h ho' hi).mono fun e w' ⟨he, hw⟩ => ⟨he, by rw [hw]; exact ⟨h, Keep.refl _ _⟩⟩
theorem RAft.mono {w' : World} {d' : Dsk} (h : RAft w B DR BM ok d' m w') {m' : Nat} (hm : m ≤ m') : RAft w B DR BM ok d' m' w' := ⟨h.disk.mono hm, h.keep⟩
theorem p_write (i : Int) (s : ByteArray) (h : RAt w B DR BM ok d m) (hm : m ≤ 1000000) :
    Calls Tryd.prog 17 #[.pointer (some ⟨DR, 0, none⟩), .int .i64 i, .string s] w fun e w' => e = .returned (.int .i64 ((d.wrt i s).2 : Int)) ∧ RAft w B DR BM ok (d.wrt i s).1 (m + 1) w' := by
  unfold Dsk.wrt
  by_cases ho : d.off = true
  · rw [if_pos ho]
    exact (q_write_no i s h (no_of_off ho) (.inl ho)).mono fun e w' ⟨he, hw⟩ => ⟨he, hw.mono (by omega)⟩
  · rw [if_neg ho]
    have ho' : d.off = false := by simpa using ho
    by_cases hi : (0 ≤ i ∧ i < d.sure.length) ∧ s.size ≤ 512
    · rw [if_pos hi]
      by_cases hc : d.can = true
      · rw [if_pos hc]
        exact q_write i s h hc hi.1 hi.2 hm
      · rw [if_neg hc]
        exact (q_write_no i s h (by simpa using hc) (.inr hi)).mono fun e w' ⟨he, hw⟩ => ⟨he, hw.mono (by omega)⟩
    · rw [if_neg hi]
      exact (q_write_out i s h ho' hi).mono fun e w' ⟨he, hw⟩ => ⟨he, by rw [hw]; exact ⟨h.mono (by omega), Keep.refl _ _⟩⟩
theorem p_flush (h : RAt w B DR BM ok d m) (hm : m ≤ 1000000) :
    Calls Tryd.prog 18 #[.pointer (some ⟨DR, 0, none⟩)] w fun e w' => e = .returned (.int .i64 (d.fls.2 : Int)) ∧ RAft w B DR BM ok d.fls.1 m w' := by
  unfold Dsk.fls
  by_cases hc : d.can = true
  · rw [if_pos hc]
    exact q_flush h hc hm
  · rw [if_neg hc]
    exact q_flush_no h (by simpa using hc)
end
theorem wrt_len (d : Dsk) (i : Int) (s : ByteArray) : (d.wrt i s).1.sure.length = d.sure.length ∧ (d.wrt i s).1.wait.length ≤ d.wait.length + 1 := by
  unfold Dsk.wrt
  split
  · exact ⟨rfl, Nat.le_succ _⟩
  · split
    · split
      · exact ⟨rfl, by show (d.wait ++ [_]).length ≤ _; rw [List.length_append]; exact Nat.le_refl _⟩
      · exact ⟨rfl, Nat.le_succ _⟩
    · exact ⟨rfl, Nat.le_succ _⟩
theorem fls_len (d : Dsk) : d.fls.1.sure.length = d.sure.length ∧ d.fls.1.wait.length ≤ d.wait.length := by
  unfold Dsk.fls
  split
  · exact ⟨madeL_length _ _ _ _ _, Nat.zero_le _⟩
  · exact ⟨rfl, Nat.le_refl _⟩

/-! ### The two disks side by side -/
structure Both (w : World) (B D S B' DR BM : Nat) (base : Nat → Prop) (dd dr : Dsk) (m : Nat) : Prop where
  out : ∃ okD okR, At w B D S okD dd ∧ RAt w B' DR BM okR dr m ∧ (∀ k, k < w.heap.size → okD k ∨ okR k) ∧ ∀ k, base k → okD k ∧ okR k
section
variable {w : World} {B D S B' DR BM m : Nat} {base : Nat → Prop} {dd dr : Dsk}
theorem Both.lt (h : Both w B D S B' DR BM base dd dr m) : ∀ k, base k → k < w.heap.size := fun k hk => by
  obtain ⟨okD, okR, h1, _, _, h4⟩ := h.out
  exact h1.lt k (h4 k hk).1
theorem Both.disk (h : Both w B D S B' DR BM base dd dr m) : ∃ okD, At w B D S okD dd ∧ (∀ k, base k → okD k) ∧ ∀ d' w', Aft w B D S okD d' w' → Both w' B D S B' DR BM base d' dr m ∧ Keep w w' base := by
  obtain ⟨okD, okR, h1, h2, h3, h4⟩ := h.out
  refine ⟨okD, h1, fun k hk => (h4 k hk).1, fun d' w' ha => ⟨⟨okD, fun k => okR k ∨ (w.heap.size ≤ k ∧ k < w'.heap.size), ha.disk, h2.grow (ha.keep.mono (fun k hk hn => (h3 k hk).resolve_right hn)) (fun _ h => h), fun k hk => ?_, fun k hb => ⟨(h4 k hb).1, .inl (h4 k hb).2⟩⟩, ha.keep.mono (fun k _ hb => (h4 k hb).1)⟩⟩
  by_cases hl : k < w.heap.size
  · rcases h3 k hl with h | h
    · exact .inl h
    · exact .inr (.inl h)
  · exact .inr (.inr ⟨by omega, hk⟩)
theorem Both.ref (h : Both w B D S B' DR BM base dd dr m) : ∃ okR, RAt w B' DR BM okR dr m ∧ (∀ k, base k → okR k) ∧ ∀ d' m' w', RAft w B' DR BM okR d' m' w' → Both w' B D S B' DR BM base dd d' m' ∧ Keep w w' base := by
  obtain ⟨okD, okR, h1, h2, h3, h4⟩ := h.out
  refine ⟨okR, h2, fun k hk => (h4 k hk).2, fun d' m' w' ha => ⟨⟨fun k => okD k ∨ (w.heap.size ≤ k ∧ k < w'.heap.size), okR, h1.grow (ha.keep.mono (fun k hk hn => (h3 k hk).resolve_left hn)) (fun _ h => h), ha.disk, fun k hk => ?_, fun k hb => ⟨.inl (h4 k hb).1, (h4 k hb).2⟩⟩, ha.keep.mono (fun k _ hb => (h4 k hb).2)⟩⟩
  by_cases hl : k < w.heap.size
  · rcases h3 k hl with h | h
    · exact .inl (.inl h)
    · exact .inr h
  · exact .inl (.inr ⟨by omega, hk⟩)
/-- New blocks alone; some of them are the law's own. -/
theorem Both.more (h : Both w B D S B' DR BM base dd dr m) {w' : World} {base' : Nat → Prop} (hk : Keep w w' (fun k => k < w.heap.size)) (hb : ∀ k, base' k → base k ∨ (w.heap.size ≤ k ∧ k < w'.heap.size)) : Both w' B D S B' DR BM base' dd dr m := by
  obtain ⟨okD, okR, h1, h2, h3, h4⟩ := h.out
  refine ⟨fun k => okD k ∨ (w.heap.size ≤ k ∧ k < w'.heap.size), fun k => okR k ∨ (w.heap.size ≤ k ∧ k < w'.heap.size), h1.grow (hk.mono (fun k hl _ => hl)) (fun _ h => h), h2.grow (hk.mono (fun k hl _ => hl)) (fun _ h => h), fun k hl => ?_, fun k hb' => ?_⟩
  · by_cases hlt : k < w.heap.size
    · rcases h3 k hlt with h | h
      · exact .inl (.inl h)
      · exact .inr (.inl h)
    · exact .inl (.inr ⟨by omega, hl⟩)
  · rcases hb k hb' with hb | hb
    · exact ⟨.inl (h4 k hb).1, .inl (h4 k hb).2⟩
    · exact ⟨.inr hb, .inr hb⟩
theorem Both.start {w0 w1 w2 : World} {d1 d2 : Dsk} (h0 : At w1 B D S (fun k => k < w0.heap.size) d1) (h : RAft w1 B' DR BM (fun k => k < w1.heap.size) d2 m w2) (hs : w0.heap.size ≤ w1.heap.size) : Both w2 B D S B' DR BM (fun k => k < w0.heap.size) d1 d2 m := by
  refine ⟨fun k => k < w0.heap.size ∨ (w1.heap.size ≤ k ∧ k < w2.heap.size), fun k => k < w1.heap.size, h0.grow (h.keep.mono (fun k hl _ => hl)) (fun _ h => h), h.disk, fun k hk => ?_, fun k hk => ⟨.inl hk, Nat.lt_of_lt_of_le hk hs⟩⟩
  by_cases hl : k < w1.heap.size
  · exact .inr hl
  · exact .inl (.inr ⟨by omega, hk⟩)
end
#print axioms Both.start
end Go.Proofs.YtpdnfaggdheneaaDoorS
