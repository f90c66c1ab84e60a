/- Knots: the heap's functions walked. -/
import Derived.Test.YtgbeigippahbaaaKW
import Derived.Test.YtgbeigippahbaaaKHP
import Derived.Deep.QuietTactic
import Derived.BigQuiet
import Derived.Deep.LoopGhost
import Derived.StillTailTactics
import Derived.RegionTactic
import Derived.BigRegion
namespace Go.Proofs.YtgbeigippahbaaaK
open Go.RowKit Go.Proofs Go.Proofs.YtgbeigippahbaaaW.PrintWords Go.Proofs.YtgbeigippahbaaaW.PrintLast

/-- The heap's own list, behind its pointer. -/
structure RAt (w : World) (B R : Nat) (v : Value) (xs : List Nat) : Prop where
  cell : w.heap[R]? = some (.cells #[v] 36 (0, 0))
  own : w.ownsRow B 3 1 v xs.length (xs.map iv)
  ne : v.ownBlock ≠ some R
  base : B ≤ R
structure RStep (w w' : World) (R : Nat) (v v' : Value) : Prop where
  keep : Keep w w' (fun k => k ≠ R ∧ v.ownBlock ≠ some k)
  place : v'.ownBlock = v.ownBlock ∨ ∃ k, v'.ownBlock = some k ∧ w.heap.size ≤ k
theorem RStep.refl (w : World) (R : Nat) (v : Value) : RStep w w R v v := ⟨Keep.refl _ _, .inl rfl⟩
theorem RStep.trans {a b c : World} {R : Nat} {v v1 v2 : Value} (h : RStep a b R v v1) (h' : RStep b c R v1 v2) : RStep a c R v v2 := by
  have hp : ∀ k, k < a.heap.size → v.ownBlock ≠ some k → v1.ownBlock ≠ some k := fun k hk ho e => by
    rcases h.place with hp | ⟨j, hj, hle⟩
    · exact ho (hp ▸ e)
    · rw [hj] at e
      injection e with e
      omega
  refine ⟨⟨h'.keep.os.trans h.keep.os, h'.keep.tape.trans h.keep.tape, h'.keep.output.trans h.keep.output, Nat.le_trans h.keep.size h'.keep.size, fun k hk ho => (h'.keep.block k (Nat.lt_of_lt_of_le hk h.keep.size) ⟨ho.1, hp k hk ho.2⟩).trans (h.keep.block k hk ho)⟩, ?_⟩
  rcases h'.place with h2 | ⟨j, hj, hle⟩
  · rw [h2]; exact h.place
  · exact .inr ⟨j, hj, Nat.le_trans h.keep.size hle⟩
theorem load_ready {w : World} {R : Nat} {v : Value} (h : w.heap[R]? = some (.cells #[v] 36 (0, 0))) : w.cell? ⟨R, 0, none⟩ = some v := (cell_of_row w R 0 _ _ (0, 0) h).trans rfl
theorem tableV (name : String) (f : FuncId) (h : (Try.prog.info? 35).map (fun i => (i.methods.find? (·.name == name)).map (fun m => (m.path.toList, m.path.isEmpty, m.func))) = some (some ([], true, some (f, false)))) (hw : ∀ a w, (Builtin.ssaWrapNilChk_ #[35] 35 #[.pointer (some a), strVal "", strVal ((name.splitOn ".").getLastD name)]).run Try.prog w = .ok (.pointer (some a)) w) (a : Addr) (w : World) {v : Value} (hv : (loadVar 36 a).run Try.prog w = .ok v w) :
    (Go.method 172 35 (.pointer (some a)) name).run Try.prog w = .ok (f, v) w := by
  obtain ⟨i, hi, hz⟩ := Option.map_eq_some_iff.1 h
  obtain ⟨m, hm, hz⟩ := Option.map_eq_some_iff.1 hz
  injection hz with h1 h2
  injection h2 with h2 h3
  show (Go.method (171 + 1) 35 (.pointer (some a)) name).run Try.prog w = _
  unfold Go.method
  have ht : ∀ w, (typeInfo 35).run Try.prog w = .ok i w := fun w => by simp [typeInfo, Sem.run_bind, hi]
  simp only [Sem.run_bind, ht, Result.andThen_ok, hm, h1, h2, h3, follow, Sem.run_pure, receiverAt, run_underlying Try.underlying35, Place.get, if_true, hw, asAddr, hv]
theorem ready_load {w : World} {R : Nat} {v : Value} (h : w.heap[R]? = some (.cells #[v] 36 (0, 0))) : (loadVar 36 ⟨R, 0, none⟩).run Try.prog w = .ok v w := by
  have hagg : (isAgg 36).run Try.prog w = .ok false w := by
    unfold isAgg
    rw [Sem.run_bind, run_underlying Try.underlying36 w]
    rfl
  simp [loadVar, Sem.run_bind, hagg, load_ready h]
theorem meth_len {w : World} {R : Nat} {v : Value} (h : w.heap[R]? = some (.cells #[v] 36 (0, 0))) : (Go.method 172 35 (.pointer (some ⟨R, 0, none⟩)) "Len").run Try.prog w = .ok (16, v) w :=
  tableV "Len" _ (by kernel_rfl) (fun _ _ => by kernel_rfl) _ _ (ready_load h)
theorem meth_less {w : World} {R : Nat} {v : Value} (h : w.heap[R]? = some (.cells #[v] 36 (0, 0))) : (Go.method 172 35 (.pointer (some ⟨R, 0, none⟩)) "Less").run Try.prog w = .ok (38, v) w :=
  tableV "Less" _ (by kernel_rfl) (fun _ _ => by kernel_rfl) _ _ (ready_load h)
theorem meth_swap {w : World} {R : Nat} {v : Value} (h : w.heap[R]? = some (.cells #[v] 36 (0, 0))) : (Go.method 172 35 (.pointer (some ⟨R, 0, none⟩)) "Swap").run Try.prog w = .ok (41, v) w :=
  tableV "Swap" _ (by kernel_rfl) (fun _ _ => by kernel_rfl) _ _ (ready_load h)
theorem meth_push (a : Addr) (w : World) : (Go.method 172 35 (.pointer (some a)) "Push").run Try.prog w = .ok (40, .pointer (some a)) w := by kernel_rfl
theorem meth_pop (a : Addr) (w : World) : (Go.method 172 35 (.pointer (some a)) "Pop").run Try.prog w = .ok (39, .pointer (some a)) w := by kernel_rfl
theorem nil_len (a : Addr) (w : World) : (nilAhead 172 35 (.pointer (some a)) "Len").run Try.prog w = .ok (some false) w := by kernel_rfl
theorem nil_less (a : Addr) (w : World) : (nilAhead 172 35 (.pointer (some a)) "Less").run Try.prog w = .ok (some false) w := by kernel_rfl
theorem nil_swap (a : Addr) (w : World) : (nilAhead 172 35 (.pointer (some a)) "Swap").run Try.prog w = .ok (some false) w := by kernel_rfl
theorem nil_push (a : Addr) (w : World) : (nilAhead 172 35 (.pointer (some a)) "Push").run Try.prog w = .ok (some false) w := by kernel_rfl
theorem nil_pop (a : Addr) (w : World) : (nilAhead 172 35 (.pointer (some a)) "Pop").run Try.prog w = .ok (some false) w := by kernel_rfl
theorem drewN_zero (w : World) : w = w.drewN 0 := rfl
/-- Its length. -/
theorem len_calls {w : World} {A : Option Addr} {n c : Nat} (hn : n ≤ 9223372036854775807) : Calls Try.prog 16 #[.slice A n c] w fun e w' => e = .returned (.int .i64 (n : Int)) ∧ w = w' := by
  go_enter Try.func16, Try.ntmps16
  go_wp2
  go_ret
  exact ⟨rfl, rfl⟩
def LessEnd (w : World) (b : Bool) (e : Ending) (w' : World) : Prop := e = .returned (.bool b) ∧ ∃ k, w' = w.drewN k
theorem less_calls {w : World} {g n c i j x y : Nat} {b : Bool} (hi : i < n) (hj : j < n) (hc : w.cell? ⟨g, i, none⟩ = some (.int .i64 (x : Int))) (hc' : w.cell? ⟨g, j, none⟩ = some (.int .i64 (y : Int))) (hb : decide (x < y) = b) :
    Calls Try.prog 38 #[.slice (some ⟨g, 0, none⟩) n c, .int .i64 (i : Int), .int .i64 (j : Int)] w (LessEnd w b) := by
  go_enter Try.func38, Try.ntmps38
  go_wp2
  go_quiet (fail)
  go_wp2
  go_ret
  exact ⟨by rw [← hb]; rfl, _, rfl⟩
def SwapEnd (w : World) (B g n c : Nat) (xs : List Nat) (e : Ending) (w' : World) : Prop := e = .returned (.tuple #[]) ∧ Keep w w' (fun k => k ≠ g) ∧ w'.ownsRow B 3 1 (.slice (some ⟨g, 0, none⟩) n c) n (xs.map iv)
theorem map_swL (xs : List Nat) (i j : Nat) : ((xs.map iv).set i (iv (at0 xs j))).set j (iv (at0 xs i)) = (swL xs i j).map iv := by
  unfold swL
  rw [List.map_set, List.map_set]
theorem swap_stored {w : World} {B g n c : Nat} {xs : List Nat} (h : w.ownsRow B 3 1 (.slice (some ⟨g, 0, none⟩) n c) n (xs.map iv)) (i j : Nat) :
    Keep w (((w.setCell ⟨g, i, none⟩ (iv (at0 xs j))).setCell ⟨g, j, none⟩ (iv (at0 xs i))).drew) (fun k => k ≠ g) ∧ (((w.setCell ⟨g, i, none⟩ (iv (at0 xs j))).setCell ⟨g, j, none⟩ (iv (at0 xs i))).drew).ownsRow B 3 1 (.slice (some ⟨g, 0, none⟩) n c) n ((swL xs i j).map iv) := by
  obtain ⟨h1, k1⟩ := h.stored i (iv (at0 xs j))
  obtain ⟨h2, k2⟩ := h1.stored j (iv (at0 xs i))
  refine ⟨((Keep.setCell (ok := fun k => k ≠ g) _ _ _ (fun h => h rfl)).trans (Keep.setCell (ok := fun k => k ≠ g) _ _ _ (fun h => h rfl))).trans (Keep.drew _ _), ?_⟩
  rw [map_swL] at h2
  exact h2
theorem own_frozen {w : World} {B g n c k : Nat} {ys : List Value} (h : w.ownsRow B 3 1 (.slice (some ⟨g, 0, none⟩) n c) n ys) (hn : 0 < n) : w.frozen? ⟨g, k, none⟩ = false := by
  rcases h.2 with ⟨e, _⟩ | ⟨g', cap', cur, hv, _, hh, _⟩
  · cases e
  · cases hv
    exact frozen_at hh
theorem own_at {w : World} {B g n c : Nat} {xs : List Nat} (h : w.ownsRow B 3 1 (.slice (some ⟨g, 0, none⟩) n c) n (xs.map iv)) {k : Nat} (hk : k < n) (hx : xs.length = n) : w.cell? ⟨g, k, none⟩ = some (.int .i64 (at0 xs k : Int)) := by
  rw [h.cellAt k (by omega), List.getElem?_map, at0_get (by omega), List.getElem?_eq_getElem (by omega)]
  rfl
theorem swap_calls {w : World} {B g n c i j : Nat} {xs : List Nat} (h : w.ownsRow B 3 1 (.slice (some ⟨g, 0, none⟩) n c) n (xs.map iv)) (hx : xs.length = n) (hi : i < n) (hj : j < n) :
    Calls Try.prog 41 #[.slice (some ⟨g, 0, none⟩) n c, .int .i64 (i : Int), .int .i64 (j : Int)] w (SwapEnd w B g n c (swL xs i j)) := by
  have H := Lib.hid (swap_stored h i j)
  have f1 : w.frozen? ⟨g, i, none⟩ = false := own_frozen h (by omega)
  have f2 : w.frozen? ⟨g, j, none⟩ = false := own_frozen h (by omega)
  have c1 := own_at h hi hx
  have c2 := own_at h hj hx
  obtain ⟨x, hx'⟩ : ∃ x, x = at0 xs i := ⟨_, rfl⟩
  obtain ⟨y, hy'⟩ : ∃ y, y = at0 xs j := ⟨_, rfl⟩
  rw [← hx'] at c1
  rw [← hy'] at c2
  have HX := Lib.hid hx'
  have HY := Lib.hid hy'
  have HC := own_cap h
  have hcc : n ≤ 9223372036854775807 := own_len h
  clear hx' hy' h hx
  by_cases hij : i = j
  · subst hij
    go_enter Try.func41, Try.ntmps41
    go_region
    all_goals
      go_end0
      rw [HX.out]
      exact ⟨rfl, H.out.1, H.out.2⟩
  · go_enter Try.func41, Try.ntmps41
    go_region
    all_goals
      go_end0
      rw [HX.out, HY.out]
      exact ⟨rfl, H.out.1, H.out.2⟩
theorem RAt.form {w : World} {B R : Nat} {v : Value} {xs : List Nat} (h : RAt w B R v xs) (hx : 0 < xs.length) : ∃ g c, v = .slice (some ⟨g, 0, none⟩) xs.length c ∧ g ≠ R := by
  obtain ⟨g, c, hv, _⟩ := h.own.form hx
  exact ⟨g, c, hv, fun e => h.ne (by rw [hv, e]; rfl)⟩
theorem RAt.drewN {w : World} {B R : Nat} {v : Value} {xs : List Nat} (h : RAt w B R v xs) (k : Nat) : RAt (w.drewN k) B R v xs := ⟨h.cell, h.own, h.ne, h.base⟩
/-- The list with other numbers. -/
theorem RAt.swapped {w w' : World} {B R g c : Nat} {xs ys : List Nat} (h : RAt w B R (.slice (some ⟨g, 0, none⟩) xs.length c) xs) (hk : Keep w w' (fun k => k ≠ g)) (ho : w'.ownsRow B 3 1 (.slice (some ⟨g, 0, none⟩) xs.length c) xs.length (ys.map iv)) (hl : ys.length = xs.length) : RAt w' B R (.slice (some ⟨g, 0, none⟩) xs.length c) ys ∧ RStep w w' R (.slice (some ⟨g, 0, none⟩) xs.length c) (.slice (some ⟨g, 0, none⟩) xs.length c) :=
  ⟨⟨hk.heap h.cell (fun e => h.ne (by rw [e]; rfl)), by rw [hl]; exact ho, h.ne, h.base⟩, ⟨hk.mono (fun k _ ho e => ho.2 (by rw [e]; rfl)), .inl rfl⟩⟩
abbrev hv (R : Nat) : Value := .iface 35 (.pointer (some ⟨R, 0, none⟩))
def HeapEnd (w : World) (B R : Nat) (v : Value) (xs : List Nat) (m : Nat) (e : Ending) (w' : World) : Prop :=
  e = .returned (.tuple #[]) ∧ ∃ ys, RAt w' B R v ys ∧ ys.Perm xs ∧ Hp (at0 ys) m ∧ RStep w w' R v v
set_option maxRecDepth 100000 in
theorem up_calls {w : World} {B R j : Nat} {v : Value} {xs : List Nat} (h : RAt w B R v xs) (hj : j < xs.length) (hu : UpI (at0 xs) xs.length j) :
    Calls Try.prog 20 #[hv R, .int .i64 (j : Int)] w (HeapEnd w B R v xs xs.length) := by
  obtain ⟨g, c, rfl, hgR⟩ := h.form (by omega)
  have hlen := own_len h.own
  obtain ⟨n, hn⟩ : ∃ n, n = xs.length := ⟨_, rfl⟩
  rw [← hn] at hlen hj hu h ⊢
  have H0 := Lib.hid (show RAt w B R (.slice (some ⟨g, 0, none⟩) n c) xs ∧ xs.Perm xs ∧ UpI (at0 xs) n j ∧ RStep w w R (.slice (some ⟨g, 0, none⟩) n c) (.slice (some ⟨g, 0, none⟩) n c) from ⟨h, List.Perm.refl _, hu, RStep.refl _ _ _⟩)
  have HN := Lib.hid hn
  clear hn h hu
  have n1 := nil_less ⟨R, 0, none⟩
  have n2 := nil_swap ⟨R, 0, none⟩
  go_enter Try.func20, Try.ntmps20
  go_wp2
  go_loopw [1] (fun jv wr => ∃ (j : Nat) (ys : List Nat), jv = .int .i64 (j : Int) ∧ j < n ∧ Hid (RAt wr B R (.slice (some ⟨g, 0, none⟩) n c) ys ∧ ys.Perm xs ∧ UpI (at0 ys) n j ∧ RStep w wr R (.slice (some ⟨g, 0, none⟩) n c) (.slice (some ⟨g, 0, none⟩) n c))) (fun jv _ => (intOf jv).toNat)
  case atStart => exact ⟨j, xs, rfl, hj, H0⟩
  case round =>
    clear H0 hj
    obtain ⟨j, ys, rfl, hj, HR⟩ := hrel
    have hyn : ys.length = n := by rw [HN.out]; exact HR.out.2.1.length_eq
    by_cases h0 : j = 0
    · subst h0
      go_wp2_with fail
      go_end0
      exact ⟨rfl, ys, HR.out.1, HR.out.2.1, up_stop HR.out.2.2.1 (fun h => by omega), HR.out.2.2.2⟩
    · obtain ⟨j1, hj1⟩ : ∃ j1, j = j1 + 1 := ⟨j - 1, by omega⟩
      obtain ⟨i, hi⟩ : ∃ i, i = j1 / 2 := ⟨_, rfl⟩
      have hw1 : IntKind.i64.wrap ((j : Int) - 1) = (j1 : Int) := by rw [IntWalk.i64_in _ (by omega)]; omega
      have hd : (j1 : Int) / 2 = (i : Int) := by omega
      have hij : i < j := by omega
      have hin : i < n := by omega
      have hij' : decide ((i : Int) = (j : Int)) = false := decide_eq_false (by omega)
      have HI := Lib.hid (show i = (j - 1) / 2 by omega)
      have HYN := Lib.hid hyn
      have hown := HR.out.1.own
      rw [hyn] at hown
      have c1 := own_at hown hj hyn
      have c2 := own_at hown hin hyn
      have m1 := meth_less HR.out.1.cell
      have HO := Lib.hid hown
      clear hi hyn hj1 hown
      by_cases hl : at0 ys j < at0 ys i
      · have HR1 := Lib.hid (fun k => HR.out.1.drewN k)
        have HO1 := Lib.hid (show ∀ k, (wr.drewN k).ownsRow B 3 1 (.slice (some ⟨g, 0, none⟩) n c) n (ys.map iv) from fun k => HO.out)
        go_wp2_with (first | (go_at_call 38; refine (less_calls (b := true) hj hin c1 c2 (decide_eq_true hl)).mono ?_; rintro e w1 ⟨rfl, k1, rfl⟩; have m2 := meth_swap (HR1.out k1).cell) | (go_at_call 41; refine (swap_calls (HO1.out k1) HYN.out hin hj).mono ?_; rintro e w2 ⟨rfl, hk, ho⟩; have HK := Lib.hid hk; have HW := Lib.hid ho; clear hk ho))
        go_roundw
        case rel =>
          obtain ⟨r1, r2⟩ := RAt.swapped (ys := swL ys i j) (by have := HR1.out k1; rw [HYN.out]; exact this) HK.out (by rw [HYN.out]; exact HW.out) (swL_len _ _ _)
          refine ⟨i, swL ys i j, rfl, hin, Lib.hid ⟨?_, (swL_perm (by rw [HYN.out]; exact hin) (by rw [HYN.out]; exact hj)).trans HR.out.2.1, ?_, ?_⟩⟩
          · have := r1
            rw [HYN.out] at this
            exact this
          · rw [at0_swL (by rw [HYN.out]; exact hin) (by rw [HYN.out]; exact hj)]
            exact up_step HR.out.2.2.1 (by omega) hj HI.out hl
          · have h3 : RStep wr (wr.drewN k1) R (.slice (some ⟨g, 0, none⟩) n c) (.slice (some ⟨g, 0, none⟩) n c) := ⟨Keep.drewN _ _ _, .inl rfl⟩
            rw [HYN.out] at r2
            exact (HR.out.2.2.2.trans h3).trans r2
        case measure => simp [intOf]; omega
      · go_wp2_with (first | (go_at_call 38; refine (less_calls (b := false) hj hin c1 c2 (decide_eq_false hl)).mono ?_; rintro e w1 ⟨rfl, k1, rfl⟩))
        go_end0
        exact ⟨rfl, ys, HR.out.1.drewN k1, HR.out.2.1, up_stop HR.out.2.2.1 (fun h => by rw [← HI.out]; omega), HR.out.2.2.2.trans ⟨Keep.drewN _ _ _, .inl rfl⟩⟩
def DownEnd (w : World) (B R : Nat) (v : Value) (xs : List Nat) (m : Nat) (e : Ending) (w' : World) : Prop :=
  (∃ b, e = .returned (.bool b)) ∧ ∃ ys, RAt w' B R v ys ∧ ys.Perm xs ∧ at0 ys m = at0 xs m ∧ Hp (at0 ys) m ∧ RStep w w' R v v
def Lesser (a : Nat → Nat) (m i j : Nat) : Prop := 1 ≤ j ∧ j < m ∧ (j - 1) / 2 = i ∧ ∀ k, 1 ≤ k → k < m → (k - 1) / 2 = i → a j ≤ a k
set_option maxRecDepth 100000 in
set_option maxHeartbeats 4000000 in
theorem down_calls {w : World} {B R m : Nat} {v : Value} {xs : List Nat} (h : RAt w B R v xs) (hm : m < xs.length) (hs : xs.length ≤ 1000000) (hu : DnI (at0 xs) m 0) :
    Calls Try.prog 21 #[hv R, .int .i64 0, .int .i64 (m : Int)] w (DownEnd w B R v xs m) := by
  obtain ⟨g, c, rfl, hgR⟩ := h.form (by omega)
  obtain ⟨n, hn⟩ : ∃ n, n = xs.length := ⟨_, rfl⟩
  rw [← hn] at hm h hs ⊢
  have H0 := Lib.hid (show RAt w B R (.slice (some ⟨g, 0, none⟩) n c) xs ∧ xs.Perm xs ∧ at0 xs m = at0 xs m ∧ DnI (at0 xs) m 0 ∧ RStep w w R (.slice (some ⟨g, 0, none⟩) n c) (.slice (some ⟨g, 0, none⟩) n c) from ⟨h, List.Perm.refl _, rfl, hu, RStep.refl _ _ _⟩)
  have HN := Lib.hid hn
  clear hn h hu
  have n1 := nil_less ⟨R, 0, none⟩
  have n2 := nil_swap ⟨R, 0, none⟩
  go_enter Try.func21, Try.ntmps21
  go_wp2
  go_loopw [7] (fun iw wr => ∃ (i : Nat) (ys : List Nat), iw = .int .i64 (i : Int) ∧ i ≤ n ∧ Hid (RAt wr B R (.slice (some ⟨g, 0, none⟩) n c) ys ∧ ys.Perm xs ∧ at0 ys m = at0 xs m ∧ DnI (at0 ys) m i ∧ RStep w wr R (.slice (some ⟨g, 0, none⟩) n c) (.slice (some ⟨g, 0, none⟩) n c))) (fun iw _ => n - (intOf iw).toNat)
  case atStart => exact ⟨0, xs, rfl, by omega, Lib.hid ⟨H0.out.1, List.Perm.refl _, rfl, H0.out.2.2.2⟩⟩
  case round =>
    clear H0
    obtain ⟨i, ys, rfl, hi, HR⟩ := hrel
    have hyn : ys.length = n := by rw [HN.out]; exact HR.out.2.1.length_eq
    obtain ⟨i2, hi2⟩ : ∃ i2, i2 = 2 * i := ⟨_, rfl⟩
    obtain ⟨j1, hj1⟩ : ∃ j1, j1 = i2 + 1 := ⟨_, rfl⟩
    have hw1 : IntKind.i64.wrap (2 * (i : Int)) = (i2 : Int) := by rw [IntWalk.i64_in _ (by omega)]; omega
    have hw2 : IntKind.i64.wrap ((i2 : Int) + 1) = (j1 : Int) := by rw [IntWalk.i64_in _ (by omega)]; omega
    have hjb : j1 ≤ 10000000 := by omega
    have HJ := Lib.hid (show j1 = 2 * i + 1 by omega)
    have HYN := Lib.hid hyn
    have hown := HR.out.1.own
    rw [hyn] at hown
    have HO := Lib.hid hown
    clear hi2 hj1 hyn hown
    by_cases hlt : j1 < m
    · have d0 : decide ((j1 : Int) ≥ (m : Int)) = false := decide_eq_false (by omega)
      obtain ⟨j2, hj2⟩ : ∃ j2, j2 = j1 + 1 := ⟨_, rfl⟩
      have hw3 : IntKind.i64.wrap ((j1 : Int) + 1) = (j2 : Int) := by rw [IntWalk.i64_in _ (by omega)]; omega
      have H2 := Lib.hid hj2
      clear hj2
      have m1 := meth_less HR.out.1.cell
      by_cases h2 : j2 < m
      · have d2 : decide ((j2 : Int) < (m : Int)) = true := decide_eq_true (by omega)
        have c1 := own_at HO.out (show j2 < n by omega) HYN.out
        have c2 := own_at HO.out (show j1 < n by omega) HYN.out
        by_cases hl : at0 ys j2 < at0 ys j1
        · as_aux_lemma =>
          go_upto_region 8 with (first | (go_at_call 38; refine (less_calls (b := true) (show j2 < n by omega) (show j1 < n by omega) c1 c2 (decide_eq_true hl)).mono ?_; rintro e w1 ⟨rfl, k1, rfl⟩))
          have RW := Lib.hid (show RAt (wr.drewN k1) B R (.slice (some ⟨g, 0, none⟩) n c) ys from (HR.out.1.drewN k1))
          have OW := Lib.hid (show ((wr.drewN k1)).ownsRow B 3 1 (.slice (some ⟨g, 0, none⟩) n c) n (ys.map iv) from HO.out)
          have SW := Lib.hid (show RStep wr (wr.drewN k1) R (.slice (some ⟨g, 0, none⟩) n c) (.slice (some ⟨g, 0, none⟩) n c) from ⟨Keep.drewN _ _ _, .inl rfl⟩)
          have HL := Lib.hid (show Lesser (at0 ys) m i j2 from ⟨by have := H2.out; omega, h2, by have := HJ.out; have := H2.out; omega, fun k a1 a2 a3 => by have := HJ.out; have := H2.out; rcases (show k = j1 ∨ k = j2 by omega) with rfl | rfl <;> omega⟩)
          have hjm : j2 < m := HL.out.2.1
          have hin : i < n := by have := HJ.out; omega
          have hjn : j2 < n := by omega
          have hji : i < j2 := by have := HL.out.2.2.1; have := HL.out.1; omega
          have q1 := own_at OW.out hjn HYN.out
          have q2 := own_at OW.out hin HYN.out
          have m3 := meth_less RW.out.cell
          by_cases hf : at0 ys j2 < at0 ys i
          · have RW' := Lib.hid (fun k => RW.out.drewN k)
            have OW' := Lib.hid (show ∀ k, (((wr.drewN k1)).drewN k).ownsRow B 3 1 (.slice (some ⟨g, 0, none⟩) n c) n (ys.map iv) from fun k => OW.out)
            go_wp2_with (first | (go_at_call 38; refine (less_calls (b := true) hjn hin q1 q2 (decide_eq_true hf)).mono ?_; rintro e w1 ⟨rfl, k2, hk2⟩; have RQ := Lib.hid (hk2 ▸ RW'.out k2); have OQ := Lib.hid (hk2 ▸ OW'.out k2); have SQ := Lib.hid (show RStep (wr.drewN k1) w1 R (.slice (some ⟨g, 0, none⟩) n c) (.slice (some ⟨g, 0, none⟩) n c) by rw [hk2]; exact ⟨Keep.drewN _ _ _, .inl rfl⟩); have m4 := meth_swap RQ.out.cell; clear hk2) | (go_at_call 41; refine (swap_calls OQ.out HYN.out hin hjn).mono ?_; rintro e w2 ⟨rfl, hk, ho⟩; have HK := Lib.hid hk; have HW := Lib.hid ho; clear hk ho))
            go_roundw
            case rel =>
              obtain ⟨r1, r2⟩ := RAt.swapped (ys := swL ys i j2) (by have := RQ.out; rw [HYN.out]; exact this) HK.out (by rw [HYN.out]; exact HW.out) (swL_len _ _ _)
              have hi' : i < ys.length := by rw [HYN.out]; exact hin
              have hj' : j2 < ys.length := by rw [HYN.out]; exact hjn
              refine ⟨j2, swL ys i j2, rfl, by omega, Lib.hid ⟨?_, (swL_perm hi' hj').trans HR.out.2.1, ?_, ?_, ?_⟩⟩
              · have := r1
                rw [HYN.out] at this
                exact this
              · rw [at0_swL hi' hj', sw_o (by omega) (by omega)]
                exact HR.out.2.2.1
              · rw [at0_swL hi' hj']
                exact dn_step HR.out.2.2.2.1 HL.out.1 hjm HL.out.2.2.1 HL.out.2.2.2 hf
              · rw [HYN.out] at r2
                exact ((HR.out.2.2.2.2.trans SW.out).trans SQ.out).trans r2
            case measure => simp [intOf]; omega
          · go_wp2_with (first | (go_at_call 38; refine (less_calls (b := false) hjn hin q1 q2 (decide_eq_false hf)).mono ?_; rintro e w1 ⟨rfl, k2, hk2⟩; have RQ := Lib.hid (show RAt w1 B R (.slice (some ⟨g, 0, none⟩) n c) ys by rw [hk2]; exact RW.out.drewN k2); have SQ := Lib.hid (show RStep (wr.drewN k1) w1 R (.slice (some ⟨g, 0, none⟩) n c) (.slice (some ⟨g, 0, none⟩) n c) by rw [hk2]; exact ⟨Keep.drewN _ _ _, .inl rfl⟩); clear hk2))
            go_ret
            exact ⟨⟨_, rfl⟩, ys, RQ.out, HR.out.2.1, HR.out.2.2.1, dn_stop HR.out.2.2.2.1 (fun k h1 h2 h3 => by have := HL.out.2.2.2 k h1 h2 h3; omega), (HR.out.2.2.2.2.trans SW.out).trans SQ.out⟩
        · as_aux_lemma =>
          go_upto_region 8 with (first | (go_at_call 38; refine (less_calls (b := false) (show j2 < n by omega) (show j1 < n by omega) c1 c2 (decide_eq_false hl)).mono ?_; rintro e w1 ⟨rfl, k1, rfl⟩))
          have RW := Lib.hid (show RAt (wr.drewN k1) B R (.slice (some ⟨g, 0, none⟩) n c) ys from (HR.out.1.drewN k1))
          have OW := Lib.hid (show ((wr.drewN k1)).ownsRow B 3 1 (.slice (some ⟨g, 0, none⟩) n c) n (ys.map iv) from HO.out)
          have SW := Lib.hid (show RStep wr (wr.drewN k1) R (.slice (some ⟨g, 0, none⟩) n c) (.slice (some ⟨g, 0, none⟩) n c) from ⟨Keep.drewN _ _ _, .inl rfl⟩)
          have HL := Lib.hid (show Lesser (at0 ys) m i j1 from ⟨by have := HJ.out; omega, hlt, by have := HJ.out; omega, fun k a1 a2 a3 => by have := HJ.out; have := H2.out; rcases (show k = j1 ∨ k = j2 by omega) with rfl | rfl <;> omega⟩)
          have hjm : j1 < m := HL.out.2.1
          have hin : i < n := by have := HJ.out; omega
          have hjn : j1 < n := by omega
          have hji : i < j1 := by have := HL.out.2.2.1; have := HL.out.1; omega
          have q1 := own_at OW.out hjn HYN.out
          have q2 := own_at OW.out hin HYN.out
          have m3 := meth_less RW.out.cell
          by_cases hf : at0 ys j1 < at0 ys i
          · have RW' := Lib.hid (fun k => RW.out.drewN k)
            have OW' := Lib.hid (show ∀ k, (((wr.drewN k1)).drewN k).ownsRow B 3 1 (.slice (some ⟨g, 0, none⟩) n c) n (ys.map iv) from fun k => OW.out)
            go_wp2_with (first | (go_at_call 38; refine (less_calls (b := true) hjn hin q1 q2 (decide_eq_true hf)).mono ?_; rintro e w1 ⟨rfl, k2, hk2⟩; have RQ := Lib.hid (hk2 ▸ RW'.out k2); have OQ := Lib.hid (hk2 ▸ OW'.out k2); have SQ := Lib.hid (show RStep (wr.drewN k1) w1 R (.slice (some ⟨g, 0, none⟩) n c) (.slice (some ⟨g, 0, none⟩) n c) by rw [hk2]; exact ⟨Keep.drewN _ _ _, .inl rfl⟩); have m4 := meth_swap RQ.out.cell; clear hk2) | (go_at_call 41; refine (swap_calls OQ.out HYN.out hin hjn).mono ?_; rintro e w2 ⟨rfl, hk, ho⟩; have HK := Lib.hid hk; have HW := Lib.hid ho; clear hk ho))
            go_roundw
            case rel =>
              obtain ⟨r1, r2⟩ := RAt.swapped (ys := swL ys i j1) (by have := RQ.out; rw [HYN.out]; exact this) HK.out (by rw [HYN.out]; exact HW.out) (swL_len _ _ _)
              have hi' : i < ys.length := by rw [HYN.out]; exact hin
              have hj' : j1 < ys.length := by rw [HYN.out]; exact hjn
              refine ⟨j1, swL ys i j1, rfl, by omega, Lib.hid ⟨?_, (swL_perm hi' hj').trans HR.out.2.1, ?_, ?_, ?_⟩⟩
              · have := r1
                rw [HYN.out] at this
                exact this
              · rw [at0_swL hi' hj', sw_o (by omega) (by omega)]
                exact HR.out.2.2.1
              · rw [at0_swL hi' hj']
                exact dn_step HR.out.2.2.2.1 HL.out.1 hjm HL.out.2.2.1 HL.out.2.2.2 hf
              · rw [HYN.out] at r2
                exact ((HR.out.2.2.2.2.trans SW.out).trans SQ.out).trans r2
            case measure => simp [intOf]; omega
          · go_wp2_with (first | (go_at_call 38; refine (less_calls (b := false) hjn hin q1 q2 (decide_eq_false hf)).mono ?_; rintro e w1 ⟨rfl, k2, hk2⟩; have RQ := Lib.hid (show RAt w1 B R (.slice (some ⟨g, 0, none⟩) n c) ys by rw [hk2]; exact RW.out.drewN k2); have SQ := Lib.hid (show RStep (wr.drewN k1) w1 R (.slice (some ⟨g, 0, none⟩) n c) (.slice (some ⟨g, 0, none⟩) n c) by rw [hk2]; exact ⟨Keep.drewN _ _ _, .inl rfl⟩); clear hk2))
            go_ret
            exact ⟨⟨_, rfl⟩, ys, RQ.out, HR.out.2.1, HR.out.2.2.1, dn_stop HR.out.2.2.2.1 (fun k h1 h2 h3 => by have := HL.out.2.2.2 k h1 h2 h3; omega), (HR.out.2.2.2.2.trans SW.out).trans SQ.out⟩
      · as_aux_lemma =>
        have d2 : decide ((j2 : Int) < (m : Int)) = false := decide_eq_false (by omega)
        go_upto_region 8 with fail
        have RW := Lib.hid (show RAt wr B R (.slice (some ⟨g, 0, none⟩) n c) ys from HR.out.1)
        have OW := Lib.hid (show (wr).ownsRow B 3 1 (.slice (some ⟨g, 0, none⟩) n c) n (ys.map iv) from HO.out)
        have SW := Lib.hid (show RStep wr wr R (.slice (some ⟨g, 0, none⟩) n c) (.slice (some ⟨g, 0, none⟩) n c) from RStep.refl _ _ _)
        have HL := Lib.hid (show Lesser (at0 ys) m i j1 from ⟨by have := HJ.out; omega, hlt, by have := HJ.out; omega, fun k a1 a2 a3 => by have := HJ.out; have := H2.out; rcases (show k = j1 by omega) with rfl; omega⟩)
        have hjm : j1 < m := HL.out.2.1
        have hin : i < n := by have := HJ.out; omega
        have hjn : j1 < n := by omega
        have hji : i < j1 := by have := HL.out.2.2.1; have := HL.out.1; omega
        have q1 := own_at OW.out hjn HYN.out
        have q2 := own_at OW.out hin HYN.out
        have m3 := meth_less RW.out.cell
        by_cases hf : at0 ys j1 < at0 ys i
        · have RW' := Lib.hid (fun k => RW.out.drewN k)
          have OW' := Lib.hid (show ∀ k, ((wr).drewN k).ownsRow B 3 1 (.slice (some ⟨g, 0, none⟩) n c) n (ys.map iv) from fun k => OW.out)
          go_wp2_with (first | (go_at_call 38; refine (less_calls (b := true) hjn hin q1 q2 (decide_eq_true hf)).mono ?_; rintro e w1 ⟨rfl, k2, hk2⟩; have RQ := Lib.hid (hk2 ▸ RW'.out k2); have OQ := Lib.hid (hk2 ▸ OW'.out k2); have SQ := Lib.hid (show RStep wr w1 R (.slice (some ⟨g, 0, none⟩) n c) (.slice (some ⟨g, 0, none⟩) n c) by rw [hk2]; exact ⟨Keep.drewN _ _ _, .inl rfl⟩); have m4 := meth_swap RQ.out.cell; clear hk2) | (go_at_call 41; refine (swap_calls OQ.out HYN.out hin hjn).mono ?_; rintro e w2 ⟨rfl, hk, ho⟩; have HK := Lib.hid hk; have HW := Lib.hid ho; clear hk ho))
          go_roundw
          case rel =>
            obtain ⟨r1, r2⟩ := RAt.swapped (ys := swL ys i j1) (by have := RQ.out; rw [HYN.out]; exact this) HK.out (by rw [HYN.out]; exact HW.out) (swL_len _ _ _)
            have hi' : i < ys.length := by rw [HYN.out]; exact hin
            have hj' : j1 < ys.length := by rw [HYN.out]; exact hjn
            refine ⟨j1, swL ys i j1, rfl, by omega, Lib.hid ⟨?_, (swL_perm hi' hj').trans HR.out.2.1, ?_, ?_, ?_⟩⟩
            · have := r1
              rw [HYN.out] at this
              exact this
            · rw [at0_swL hi' hj', sw_o (by omega) (by omega)]
              exact HR.out.2.2.1
            · rw [at0_swL hi' hj']
              exact dn_step HR.out.2.2.2.1 HL.out.1 hjm HL.out.2.2.1 HL.out.2.2.2 hf
            · rw [HYN.out] at r2
              exact ((HR.out.2.2.2.2.trans SW.out).trans SQ.out).trans r2
          case measure => simp [intOf]; omega
        · go_wp2_with (first | (go_at_call 38; refine (less_calls (b := false) hjn hin q1 q2 (decide_eq_false hf)).mono ?_; rintro e w1 ⟨rfl, k2, hk2⟩; have RQ := Lib.hid (show RAt w1 B R (.slice (some ⟨g, 0, none⟩) n c) ys by rw [hk2]; exact RW.out.drewN k2); have SQ := Lib.hid (show RStep wr w1 R (.slice (some ⟨g, 0, none⟩) n c) (.slice (some ⟨g, 0, none⟩) n c) by rw [hk2]; exact ⟨Keep.drewN _ _ _, .inl rfl⟩); clear hk2))
          go_ret
          exact ⟨⟨_, rfl⟩, ys, RQ.out, HR.out.2.1, HR.out.2.2.1, dn_stop HR.out.2.2.2.1 (fun k h1 h2 h3 => by have := HL.out.2.2.2 k h1 h2 h3; omega), (HR.out.2.2.2.2.trans SW.out).trans SQ.out⟩
    · have d0 : decide ((j1 : Int) ≥ (m : Int)) = true := decide_eq_true (by omega)
      go_wp2_with fail
      go_ret
      exact ⟨⟨_, rfl⟩, ys, HR.out.1, HR.out.2.1, HR.out.2.2.1, dn_stop HR.out.2.2.2.1 (fun k h1 h2 h3 => by have := HJ.out; omega), HR.out.2.2.2.2⟩
--END DOWN
#print axioms down_calls
end Go.Proofs.YtgbeigippahbaaaK
