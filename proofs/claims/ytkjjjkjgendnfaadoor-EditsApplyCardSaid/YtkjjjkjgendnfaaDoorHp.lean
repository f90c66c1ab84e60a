/- The hunks of a way: they are edits of the one list, the other list comes of them, and they cost what the way costs. Plain Lean, no program. -/
import Derived.Test.YtkjjjkjgendnfaaDoorMw
import Derived.Lib.Strings
namespace Go.Proofs.YtkjjjkjgendnfaaDoorE

/-! ### Hunks, and what comes of them -/
def okHk (n e : Int) (h : Hk) : Prop := e < h.1 ∧ h.1 ≤ n ∧ 0 ≤ h.2.1 ∧ h.2.1 ≤ n - h.1 ∧ ¬ (h.2.1 = 0 ∧ h.2.2.length = 0)
def RightL (n : Int) : Int → List Hk → Prop
  | _, [] => True
  | e, h :: H => okHk n e h ∧ RightL n (h.1 + h.2.1) H
def endOf (e : Int) : List Hk → Int
  | [] => e
  | h :: H => endOf (h.1 + h.2.1) H
theorem endOf_snoc (e : Int) (H : List Hk) (h : Hk) : endOf e (H ++ [h]) = h.1 + h.2.1 := by
  induction H generalizing e with
  | nil => rfl
  | cons g H ih => exact ih _
theorem RightL_snoc {n e : Int} {H : List Hk} {h : Hk} : RightL n e (H ++ [h]) ↔ RightL n e H ∧ okHk n (endOf e H) h := by
  induction H generalizing e with
  | nil => simp [RightL, endOf]
  | cons g H ih => simp only [List.cons_append, RightL, endOf, ih, and_assoc]
def ap1 (A : List ByteArray) (st : List ByteArray × Int) (h : Hk) : List ByteArray × Int := (st.1 ++ (A.take h.1.toNat).drop st.2.toNat ++ h.2.2, h.1 + h.2.1)
def apL (A : List ByteArray) (H : List Hk) (st : List ByteArray × Int) : List ByteArray × Int := H.foldl (ap1 A) st
theorem apL_snoc (A : List ByteArray) (H : List Hk) (h : Hk) (st : List ByteArray × Int) : apL A (H ++ [h]) st = ap1 A (apL A H st) h := by simp [apL]
/-- What comes of hunks. -/
def applyL (A : List ByteArray) (H : List Hk) : List ByteArray := (apL A H ([], 0)).1 ++ A.drop (apL A H ([], 0)).2.toNat
def costL : List Hk → Int
  | [] => 0
  | h :: H => h.2.1 + h.2.2.length + costL H
theorem costL_snoc (H : List Hk) (h : Hk) : costL (H ++ [h]) = costL H + (h.2.1 + h.2.2.length) := by
  induction H with
  | nil => simp [costL]
  | cons g H ih => simp only [List.cons_append, costL, ih]; omega

theorem take_snoc {α : Type} (l : List α) (d : α) (n : Nat) (h : n < l.length) : l.take (n + 1) = l.take n ++ [l.getD n d] := by
  rw [List.take_succ_eq_append_getElem h, List.getD_eq_getElem?_getD, List.getElem?_eq_getElem h]
  rfl
theorem drop_take_snoc {α : Type} (l : List α) (d : α) (m n : Nat) (h : n < l.length) (hm : m ≤ n) : (l.take (n + 1)).drop m = (l.take n).drop m ++ [l.getD n d] := by
  rw [take_snoc l d n h, List.drop_append_of_le_length]
  rw [List.length_take]
  omega
theorem drop_take_self {α : Type} (l : List α) (n : Nat) : (l.take n).drop n = [] := by
  rw [List.drop_eq_nil_iff, List.length_take]
  omega

/-- The hunks so far: of the first X lines of A the first Y lines of B come of them. -/
structure InvH (A B : List ByteArray) (H : List Hk) (X Y : Nat) (n : Int) : Prop where
  x1 : X ≤ A.length
  y1 : Y ≤ B.length
  right : RightL A.length (-1) H
  at0 : 0 ≤ (apL A H ([], 0)).2
  at1 : (apL A H ([], 0)).2 ≤ X
  out : (apL A H ([], 0)).1 ++ (A.take X).drop (apL A H ([], 0)).2.toNat = B.take Y
  cost : costL H = n

theorem apL_end (A : List ByteArray) (H : List Hk) {X : Int} (h : (apL A H ([], 0)).2 < X) (hx : 0 ≤ X) : endOf (-1) H < X := by
  rcases List.eq_nil_or_concat H with e | ⟨H', c, e⟩
  · rw [e]; simp only [endOf]; omega
  · rw [List.concat_eq_append] at e
    rw [e, apL_snoc] at h
    rw [e, endOf_snoc]
    exact h
theorem apL_endNil {X : Int} (hx : 0 ≤ X) : endOf (-1) [] < X := by simp only [endOf]; omega

theorem InvH.nil (A B : List ByteArray) : InvH A B [] 0 0 0 := ⟨by omega, by omega, trivial, by simp [apL], by simp [apL], by simp [apL], rfl⟩
theorem InvH.keep {A B : List ByteArray} {H : List Hk} {X Y : Nat} {n : Int} (h : InvH A B H X Y n) (hx : X < A.length) (hy : Y < B.length) (he : A.getD X ByteArray.empty = B.getD Y ByteArray.empty) : InvH A B H (X + 1) (Y + 1) n := by
  refine ⟨by omega, by omega, h.right, h.at0, by have := h.at1; omega, ?_, h.cost⟩
  rw [drop_take_snoc A ByteArray.empty _ X hx (by have := h.at1; have := h.at0; omega), take_snoc B ByteArray.empty Y hy, ← List.append_assoc, h.out, he]
theorem InvH.newPut {A B : List ByteArray} {H : List Hk} {X Y : Nat} {n : Int} (h : InvH A B H X Y n) (hy : Y < B.length) (hX : endOf (-1) H < X) : InvH A B (H ++ [((X : Int), 0, [B.getD Y ByteArray.empty])]) X (Y + 1) (n + 1) := by
  have hx := h.x1
  refine ⟨hx, by omega, RightL_snoc.2 ⟨h.right, hX, by simp only; omega, by simp, by simp only; omega, by simp⟩, ?_, ?_, ?_, ?_⟩
  · rw [apL_snoc]; simp only [ap1]; omega
  · rw [apL_snoc]; simp only [ap1]; omega
  · rw [apL_snoc]
    simp only [ap1]
    rw [show ((X : Int) + 0).toNat = X by omega, show ((X : Int)).toNat = X by omega, drop_take_self, List.append_nil, h.out, take_snoc B ByteArray.empty Y hy]
  · rw [costL_snoc, h.cost]; simp
theorem InvH.newCut {A B : List ByteArray} {H : List Hk} {X Y : Nat} {n : Int} (h : InvH A B H X Y n) (hx : X < A.length) (hX : endOf (-1) H < X) : InvH A B (H ++ [((X : Int), 1, [])]) (X + 1) Y (n + 1) := by
  refine ⟨by omega, h.y1, RightL_snoc.2 ⟨h.right, hX, by simp only; omega, by simp, by simp only; omega, by simp⟩, ?_, ?_, ?_, ?_⟩
  · rw [apL_snoc]; simp only [ap1]; omega
  · rw [apL_snoc]; simp only [ap1]; omega
  · rw [apL_snoc]
    simp only [ap1]
    rw [show ((X : Int) + 1).toNat = X + 1 by omega, show ((X : Int)).toNat = X by omega, drop_take_self, List.append_nil, List.append_nil, h.out]
  · rw [costL_snoc, h.cost]; simp
theorem InvH.morePut {A B : List ByteArray} {H : List Hk} {c : Hk} {X Y : Nat} {n : Int} (h : InvH A B (H ++ [c]) X Y n) (hy : Y < B.length) (hX : c.1 + c.2.1 = X) : InvH A B (H ++ [(c.1, c.2.1, c.2.2 ++ [B.getD Y ByteArray.empty])]) X (Y + 1) (n + 1) := by
  have ho := h.out
  have hr := RightL_snoc.1 h.right
  have hc := h.cost
  rw [apL_snoc] at ho
  rw [costL_snoc] at hc
  simp only [ap1] at ho
  rw [hX, show ((X : Int)).toNat = X by omega, drop_take_self, List.append_nil] at ho
  refine ⟨h.x1, by omega, RightL_snoc.2 ⟨hr.1, hr.2.1, hr.2.2.1, hr.2.2.2.1, hr.2.2.2.2.1, by simp⟩, ?_, ?_, ?_, ?_⟩
  · rw [apL_snoc]; simp only [ap1]; omega
  · rw [apL_snoc]; simp only [ap1]; omega
  · rw [apL_snoc]
    simp only [ap1]
    rw [hX, show ((X : Int)).toNat = X by omega, drop_take_self, List.append_nil, ← List.append_assoc, ho, take_snoc B ByteArray.empty Y hy]
  · rw [costL_snoc]; simp; omega
theorem InvH.moreCut {A B : List ByteArray} {H : List Hk} {c : Hk} {X Y : Nat} {n : Int} (h : InvH A B (H ++ [c]) X Y n) (hx : X < A.length) (hX : c.1 + c.2.1 = X) : InvH A B (H ++ [(c.1, c.2.1 + 1, c.2.2)]) (X + 1) Y (n + 1) := by
  have ho := h.out
  have hr := RightL_snoc.1 h.right
  have hc := h.cost
  have h1 := hr.2.2.2.1
  rw [apL_snoc] at ho
  rw [costL_snoc] at hc
  simp only [ap1] at ho
  rw [hX, show ((X : Int)).toNat = X by omega, drop_take_self, List.append_nil] at ho
  refine ⟨by omega, h.y1, RightL_snoc.2 ⟨hr.1, hr.2.1, hr.2.2.1, by simp only; omega, by simp only; omega, by simp only; omega⟩, ?_, ?_, ?_, ?_⟩
  · rw [apL_snoc]; simp only [ap1]; omega
  · rw [apL_snoc]; simp only [ap1]; omega
  · rw [apL_snoc]
    simp only [ap1]
    rw [show (c.1 + (c.2.1 + 1)).toNat = X + 1 by omega, drop_take_self, List.append_nil, ho]
  · rw [costL_snoc]; simp only; omega

/-! ### The hunks of steps, as a fold -/
def hstep (P : Int) (b : List ByteArray) (st : List Hk × Option Hk) (s : St) : List Hk × Option Hk := ((openH (P + s.1) st.1 st.2).1, some (addH b s (openH (P + s.1) st.1 st.2).2))
theorem hunksGo_fold (P : Int) (b : List ByteArray) : ∀ (l : List St) (init : List Hk) (c : Option Hk), hunksGo P b l init c = (l.foldl (hstep P b) (init, c)).1 ++ (l.foldl (hstep P b) (init, c)).2.toList
  | [], _, _ => rfl
  | s :: l, init, c => by
    rw [hunksGo, hunksGo_fold P b l]
    rfl

/-- The middle parts a and b of A and B, from P on. -/
structure Mids (A B a b : List ByteArray) (P : Nat) : Prop where
  la : P + a.length ≤ A.length
  lb : P + b.length ≤ B.length
  ga : ∀ i, i < a.length → a.getD i ByteArray.empty = A.getD (P + i) ByteArray.empty
  gb : ∀ i, i < b.length → b.getD i ByteArray.empty = B.getD (P + i) ByteArray.empty
theorem bytes_eq {x y : ByteArray} (h : x.toList = y.toList) : x = y := by
  rw [ByteArray.toList_eq, ByteArray.toList_eq] at h
  exact ByteArray.ext (Array.ext' h)
theorem Mids.alike {A B a b : List ByteArray} {P : Nat} (m : Mids A B a b P) {i j : Nat} (h : alB a b i j = true) : i < a.length ∧ j < b.length ∧ A.getD (P + i) ByteArray.empty = B.getD (P + j) ByteArray.empty := by
  simp only [alB, Go.Proofs.YtkjjjkjgendnfaaDoorE.alike, Bool.and_eq_true, decide_eq_true_eq, beq_iff_eq] at h
  obtain ⟨h1, h2, h3⟩ := h
  refine ⟨h1, h2, ?_⟩
  rw [← m.ga i h1, ← m.gb j h2]
  exact bytes_eq h3
theorem Way.pos {a b : List ByteArray} {S : List St} {x y : Int} (h : Way a b S x y) : 0 ≤ x ∧ 0 ≤ y := by
  induction h with
  | nil _ => omega
  | put _ _ ih => omega
  | cut _ _ ih => omega
theorem Way.bounds {a b : List ByteArray} {S : List St} {x y : Int} (h : Way a b S x y) : ∀ s, s ∈ S → 0 ≤ s.1 ∧ s.1 ≤ x ∧ 0 ≤ s.2.1 ∧ (s.2.2 = true → s.2.1 < y) := by
  induction h with
  | nil _ => intro s hs; cases hs
  | put hw _ ih =>
    have := hw.pos
    intro s hs
    rcases List.mem_append.1 hs with e | e
    · have := ih s e
      refine ⟨this.1, by omega, this.2.2.1, fun hp => by have := this.2.2.2 hp; omega⟩
    · rw [List.mem_singleton] at e
      subst e
      exact ⟨this.1, by simp only; omega, this.2, fun _ => by simp only; omega⟩
  | cut hw _ ih =>
    have := hw.pos
    intro s hs
    rcases List.mem_append.1 hs with e | e
    · have := ih s e
      refine ⟨this.1, by omega, this.2.2.1, fun hp => by have := this.2.2.2 hp; omega⟩
    · rw [List.mem_singleton] at e
      subst e
      exact ⟨this.1, by simp only; omega, this.2, fun hp => by cases hp⟩
theorem InvH.run {A B a b : List ByteArray} {P : Nat} (m : Mids A B a b P) {H : List Hk} {c : Int} {x y : Int} (x0 : 0 ≤ x) (y0 : 0 ≤ y) : ∀ (n : Nat), Alike a b x y n → InvH A B H (P + x.toNat) (P + y.toNat) c → InvH A B H (P + x.toNat + n) (P + y.toNat + n) c
  | 0, _, h => h
  | n + 1, ha, h => by
    have h1 := InvH.run m x0 y0 n (fun q hq => ha q (by omega)) h
    obtain ⟨e1, e2, e3⟩ := m.alike (ha n (by omega))
    have := m.la
    have := m.lb
    exact h1.keep (by omega) (by omega) (by rw [Nat.add_assoc, Nat.add_assoc]; exact e3)
/-- What comes of a way's steps. -/
theorem InvH.way {A B a b : List ByteArray} {P : Nat} (m : Mids A B a b P) (h0 : InvH A B [] P P 0) {S : List St} {x y : Int} (h : Way a b S x y) : x ≤ a.length → y ≤ b.length →
    InvH A B ((S.foldl (hstep P b) ([], none)).1 ++ (S.foldl (hstep P b) ([], none)).2.toList) (P + x.toNat) (P + y.toNat) S.length ∧ ((S.foldl (hstep P b) ([], none)).2 = none → (S.foldl (hstep P b) ([], none)).1 = []) := by
  have ml := m.la
  have mr := m.lb
  induction h with
  | @nil n ha =>
    intro hx hy
    refine ⟨?_, fun _ => rfl⟩
    have := InvH.run m (x := 0) (y := 0) (by omega) (by omega) n ha (H := []) (c := 0) h0
    simpa using this
  | @put S x' y' n hw ha ih =>
    intro hx hy
    obtain ⟨p0, p1⟩ := hw.pos
    obtain ⟨i1, i2⟩ := ih (by omega) (by omega)
    rw [List.foldl_append]
    generalize S.foldl (hstep P b) ([], none) = st at *
    obtain ⟨init, cur⟩ := st
    have hb : b.getD y'.toNat ByteArray.empty = B.getD (P + y'.toNat) ByteArray.empty := m.gb _ (by omega)
    have hP : (P : Int) + x' = ((P + x'.toNat : Nat) : Int) := by omega
    have key : InvH A B ((hstep P b (init, cur) (x', y', true)).1 ++ (hstep P b (init, cur) (x', y', true)).2.toList) (P + x'.toNat) (P + y'.toNat + 1) (S.length + 1) := by
      cases cur with
      | none =>
        have hi : init = [] := i2 rfl
        subst hi
        have := i1.newPut (by omega) (apL_endNil (by omega))
        rw [← hP, ← hb] at this
        simpa [hstep, openH, addH] using this
      | some c =>
        by_cases e : c.1 + c.2.1 = (P : Int) + x'
        · have := i1.morePut (H := init) (c := c) (by omega) (by omega)
          rw [← hb] at this
          simpa [hstep, openH, addH, e] using this
        · have hlt : endOf (-1) (init ++ [c]) < ((P + x'.toNat : Nat) : Int) := by
            have h1 := i1.at1
            simp only [Option.toList_some] at h1
            rw [apL_snoc] at h1
            simp only [ap1] at h1
            rw [endOf_snoc]
            omega
          have := i1.newPut (by omega) hlt
          rw [← hP, ← hb] at this
          simpa [hstep, openH, addH, e] using this
    refine ⟨?_, fun hn => by simp [hstep] at hn⟩
    have := InvH.run m (x := x') (y := y' + 1) p0 (by omega) n ha (by rw [show P + (y' + 1).toNat = P + y'.toNat + 1 by omega]; exact key)
    simp only [List.foldl_cons, List.foldl_nil, List.length_append, List.length_singleton]
    rw [show P + (x' + (n : Int)).toNat = P + x'.toNat + n by omega, show P + (y' + 1 + (n : Int)).toNat = P + (y' + 1).toNat + n by omega]
    exact this
  | @cut S x' y' n hw ha ih =>
    intro hx hy
    obtain ⟨p0, p1⟩ := hw.pos
    obtain ⟨i1, i2⟩ := ih (by omega) (by omega)
    rw [List.foldl_append]
    generalize S.foldl (hstep P b) ([], none) = st at *
    obtain ⟨init, cur⟩ := st
    have hP : (P : Int) + x' = ((P + x'.toNat : Nat) : Int) := by omega
    have key : InvH A B ((hstep P b (init, cur) (x', y', false)).1 ++ (hstep P b (init, cur) (x', y', false)).2.toList) (P + x'.toNat + 1) (P + y'.toNat) (S.length + 1) := by
      cases cur with
      | none =>
        have hi : init = [] := i2 rfl
        subst hi
        have := i1.newCut (by omega) (apL_endNil (by omega))
        rw [← hP] at this
        simpa [hstep, openH, addH] using this
      | some c =>
        by_cases e : c.1 + c.2.1 = (P : Int) + x'
        · have := i1.moreCut (H := init) (c := c) (by omega) (by omega)
          simpa [hstep, openH, addH, e] using this
        · have hlt : endOf (-1) (init ++ [c]) < ((P + x'.toNat : Nat) : Int) := by
            have h1 := i1.at1
            simp only [Option.toList_some] at h1
            rw [apL_snoc] at h1
            simp only [ap1] at h1
            rw [endOf_snoc]
            omega
          have := i1.newCut (by omega) hlt
          rw [← hP] at this
          simpa [hstep, openH, addH, e] using this
    refine ⟨?_, fun hn => by simp [hstep] at hn⟩
    have := InvH.run m (x := x' + 1) (y := y') (by omega) p1 n ha (by rw [show P + (x' + 1).toNat = P + x'.toNat + 1 by omega]; exact key)
    simp only [List.foldl_cons, List.foldl_nil, List.length_append, List.length_singleton]
    rw [show P + (x' + 1 + (n : Int)).toNat = P + (x' + 1).toNat + n by omega, show P + (y' + (n : Int)).toNat = P + y'.toNat + n by omega]
    exact this
end Go.Proofs.YtkjjjkjgendnfaaDoorE
