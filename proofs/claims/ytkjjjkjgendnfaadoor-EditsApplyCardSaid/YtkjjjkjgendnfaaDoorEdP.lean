/- What edits.walk and edits.back compute, as plain Lean functions on lists, without the program. -/
namespace Go.Proofs.YtkjjjkjgendnfaaDoorE

abbrev St := Int × Int × Bool

/-- Is the way into diagonal k, with d edits, a put (from diagonal k + 1)? -/
def decB (far : Int → Int) (k d : Int) : Bool := (k == -d) || ((k != d) && decide (far (k - 1) < far (k + 1)))

/-- The steps from the end to the beginning: T i is what was the farthest when round i began. -/
def backL (T : Nat → Int → Int) : Nat → Int → Int → List St → List St
  | 0, _, _, l => l
  | d + 1, x, y, l =>
    let k := x - y
    let p := decB (T (d + 1)) k ((d : Int) + 1)
    let x' := if p then T (d + 1) (k + 1) else T (d + 1) (k - 1)
    let y' := if p then x' - k - 1 else x' - k + 1
    backL T d x' y' (l ++ [(x', y', p)])

theorem backL_put {T : Nat → Int → Int} {d : Nat} {x y : Int} {l : List St} (h : decB (T (d + 1)) (x - y) ((d : Int) + 1) = true) :
    backL T (d + 1) x y l = backL T d (T (d + 1) (x - y + 1)) (T (d + 1) (x - y + 1) - (x - y) - 1) (l ++ [(T (d + 1) (x - y + 1), T (d + 1) (x - y + 1) - (x - y) - 1, true)]) := by
  simp only [backL, h, if_true]
theorem backL_cut {T : Nat → Int → Int} {d : Nat} {x y : Int} {l : List St} (h : decB (T (d + 1)) (x - y) ((d : Int) + 1) = false) :
    backL T (d + 1) x y l = backL T d (T (d + 1) (x - y - 1)) (T (d + 1) (x - y - 1) - (x - y) + 1) (l ++ [(T (d + 1) (x - y - 1), T (d + 1) (x - y - 1) - (x - y) + 1, false)]) := by
  simp [backL, h]

/-- The diagonal k from x on, as far as the lines are alike. -/
def snake (a b : List ByteArray) (k : Int) : Nat → Int → Int
  | 0, x => x
  | f + 1, x => if x < a.length ∧ x - k < b.length ∧ 0 ≤ x - k ∧ (a.getD x.toNat ByteArray.empty).toList = (b.getD (x - k).toNat ByteArray.empty).toList then snake a b k f (x + 1) else x

def startX (far : Int → Int) (k d : Int) : Int := if decB far k d then far (k + 1) else far (k - 1) + 1
def nowX (a b : List ByteArray) (far : Int → Int) (k d : Int) : Int := snake a b k a.length (startX far k d)
def put1 (F : Int → Int) (k v : Int) : Int → Int := fun j => if j = k then v else F j

/-- One round: none: the end is met; else what is the farthest on each diagonal. r: diagonals that are left; j: those that are done. -/
def innerL (a b : List ByteArray) (far : Int → Int) (d : Nat) : Nat → Nat → (Int → Int) → Option (Int → Int)
  | 0, _, now => some now
  | r + 1, j, now =>
    let k : Int := 2 * (j : Int) - d
    let x := nowX a b far k d
    if (a.length : Int) ≤ x ∧ (b.length : Int) ≤ x - k then none else innerL a b far d r (j + 1) (put1 now k x)

def trailF (Ts : List (Int → Int)) (i : Nat) : Int → Int := Ts.getD i (fun _ => 0)

/-- The rounds: r: how many are left; Ts: what was the farthest when each of the rounds that are done began. -/
def outerL (a b : List ByteArray) : Nat → List (Int → Int) → (Int → Int) → Option (List St)
  | 0, _, _ => none
  | r + 1, Ts, far =>
    match innerL a b far Ts.length (Ts.length + 1) 0 (fun _ => 0) with
    | none => some (backL (trailF (Ts ++ [far])) Ts.length a.length b.length []).reverse
    | some now => outerL a b r (Ts ++ [far]) now

def roundsL (a b : List ByteArray) : Nat := min (a.length + b.length) 100 + 1
def walkO (a b : List ByteArray) : Option (List St) := outerL a b (roundsL a b) [] (put1 (fun _ => 0) 1 0)
def walkL (a b : List ByteArray) : List St × Bool := ((walkO a b).getD [], (walkO a b).isSome)

/-- Does the diagonal go on at x? -/
def snB (a b : List ByteArray) (k x : Int) : Bool := decide (x < a.length) && (decide (x - k < b.length) && (decide (0 ≤ x - k) && ((a.getD x.toNat ByteArray.empty).toList == (b.getD (x - k).toNat ByteArray.empty).toList)))
theorem snB_iff {a b : List ByteArray} {k x : Int} : snB a b k x = true ↔ (x < a.length ∧ x - k < b.length ∧ 0 ≤ x - k ∧ (a.getD x.toNat ByteArray.empty).toList = (b.getD (x - k).toNat ByteArray.empty).toList) := by
  simp [snB]
theorem snB_1 {a b : List ByteArray} {k x : Int} (h : ¬ x < (a.length : Int)) : snB a b k x = false := by simp [snB, h]
theorem snB_2 {a b : List ByteArray} {k x : Int} (h : ¬ x - k < (b.length : Int)) : snB a b k x = false := by simp [snB, h]
theorem snB_3 {a b : List ByteArray} {k x : Int} (h : ¬ 0 ≤ x - k) : snB a b k x = false := by
  unfold snB
  rw [decide_eq_false h]
  simp
theorem snB_4 {a b : List ByteArray} {k x : Int} (h1 : x < (a.length : Int)) (h2 : x - k < (b.length : Int)) (h3 : 0 ≤ x - k) : snB a b k x = ((a.getD x.toNat ByteArray.empty).toList == (b.getD (x - k).toNat ByteArray.empty).toList) := by
  unfold snB
  rw [decide_eq_true h1, decide_eq_true h2, decide_eq_true h3]
  simp
theorem snake_le (a b : List ByteArray) (k : Int) : ∀ (f : Nat) (x : Int), x ≤ snake a b k f x
  | 0, _ => Int.le_refl _
  | f + 1, x => by
    unfold snake
    split
    · have := snake_le a b k f (x + 1)
      omega
    · exact Int.le_refl _
theorem snake_up (a b : List ByteArray) (k : Int) : ∀ (f : Nat) (x M : Int), x ≤ M → (a.length : Int) ≤ M → snake a b k f x ≤ M
  | 0, _, _, h, _ => h
  | f + 1, x, M, h, h' => by
    unfold snake
    split
    · rename_i hc
      exact snake_up a b k f (x + 1) M (by omega) h'
    · exact h
theorem snake_go {a b : List ByteArray} {k x : Int} {f : Nat} (h1 : x < a.length) (h2 : x - k < b.length) (h3 : 0 ≤ x - k) (h4 : (a.getD x.toNat ByteArray.empty).toList = (b.getD (x - k).toNat ByteArray.empty).toList) : snake a b k (f + 1) x = snake a b k f (x + 1) := by
  rw [snake, if_pos ⟨h1, h2, h3, h4⟩]
theorem snake_stop {a b : List ByteArray} {k x : Int} {f : Nat} (h : ¬ (x < a.length ∧ x - k < b.length ∧ 0 ≤ x - k ∧ (a.getD x.toNat ByteArray.empty).toList = (b.getD (x - k).toNat ByteArray.empty).toList)) : snake a b k f x = x := by
  cases f with
  | zero => rfl
  | succ f => rw [snake, if_neg h]
theorem snake_goB {a b : List ByteArray} {k x : Int} {f : Nat} (h : snB a b k x = true) : snake a b k (f + 1) x = snake a b k f (x + 1) := by
  obtain ⟨h1, h2, h3, h4⟩ := snB_iff.1 h
  exact snake_go h1 h2 h3 h4
theorem snake_stopB {a b : List ByteArray} {k x : Int} {f : Nat} (h : snB a b k x = false) : snake a b k f x = x :=
  snake_stop (fun hh => by rw [snB_iff.2 hh] at h; cases h)
theorem startX_bounds {far : Int → Int} {k d M : Int} (h0 : ∀ j, 0 ≤ far j) (h1 : ∀ j, far j ≤ M) : 0 ≤ startX far k d ∧ startX far k d ≤ M + 1 := by
  unfold startX
  split
  · have := h0 (k + 1); have := h1 (k + 1); omega
  · have := h0 (k - 1); have := h1 (k - 1); omega
theorem nowX_bounds {a b : List ByteArray} {far : Int → Int} {k d M : Int} (h0 : ∀ j, 0 ≤ far j) (h1 : ∀ j, far j ≤ M) (ha : (a.length : Int) ≤ M) : 0 ≤ nowX a b far k d ∧ nowX a b far k d ≤ M + 1 := by
  obtain ⟨h2, h3⟩ := startX_bounds (k := k) (d := d) h0 h1
  exact ⟨Int.le_trans h2 (snake_le a b k _ _), snake_up a b k _ _ _ h3 (by omega)⟩
theorem put1_bounds {F : Int → Int} {k v M : Int} (h0 : ∀ j, 0 ≤ F j) (h1 : ∀ j, F j ≤ M) (v0 : 0 ≤ v) (v1 : v ≤ M) : (∀ j, 0 ≤ put1 F k v j) ∧ ∀ j, put1 F k v j ≤ M := by
  refine ⟨fun j => ?_, fun j => ?_⟩ <;> unfold put1 <;> split
  · exact v0
  · exact h0 j
  · exact v1
  · exact h1 j
theorem innerL_done {a b : List ByteArray} {far : Int → Int} {d r j : Nat} {now : Int → Int} (h1 : (a.length : Int) ≤ nowX a b far (2 * (j : Int) - d) d) (h2 : (b.length : Int) ≤ nowX a b far (2 * (j : Int) - d) d - (2 * (j : Int) - d)) : innerL a b far d (r + 1) j now = none := by
  rw [innerL, if_pos ⟨h1, h2⟩]
theorem innerL_go {a b : List ByteArray} {far : Int → Int} {d r j : Nat} {now : Int → Int} (h : ¬ ((a.length : Int) ≤ nowX a b far (2 * (j : Int) - d) d ∧ (b.length : Int) ≤ nowX a b far (2 * (j : Int) - d) d - (2 * (j : Int) - d))) :
    innerL a b far d (r + 1) j now = innerL a b far d r (j + 1) (put1 now (2 * (j : Int) - d) (nowX a b far (2 * (j : Int) - d) d)) := by
  rw [innerL, if_neg h]
theorem outerL_end {a b : List ByteArray} {r : Nat} {Ts : List (Int → Int)} {far : Int → Int} (h : innerL a b far Ts.length (Ts.length + 1) 0 (fun _ => 0) = none) : outerL a b (r + 1) Ts far = some (backL (trailF (Ts ++ [far])) Ts.length a.length b.length []).reverse := by
  simp only [outerL, h]
theorem outerL_go {a b : List ByteArray} {r : Nat} {Ts : List (Int → Int)} {far now : Int → Int} (h : innerL a b far Ts.length (Ts.length + 1) 0 (fun _ => 0) = some now) : outerL a b (r + 1) Ts far = outerL a b r (Ts ++ [far]) now := by
  simp only [outerL, h]
theorem trailF_snoc (Ts : List (Int → Int)) (far : Int → Int) : trailF (Ts ++ [far]) Ts.length = far := by simp [trailF]
theorem trailF_old {Ts : List (Int → Int)} {i : Nat} (far : Int → Int) (h : i < Ts.length) : trailF (Ts ++ [far]) i = trailF Ts i := by simp [trailF, List.getD_eq_getElem?_getD, List.getElem?_append_left h]

/-! ### The hunks of steps -/
abbrev Hk := Int × Int × List ByteArray
/-- The hunk that a step at a place belongs to: the one that is open, or a new one. -/
def openH (at_ : Int) (init : List Hk) : Option Hk → List Hk × Hk
  | none => (init, (at_, 0, []))
  | some c => if c.1 + c.2.1 = at_ then (init, c) else (init ++ [c], (at_, 0, []))
/-- Must a hunk be opened? -/
def needH (at_ : Int) : Option Hk → Bool
  | none => true
  | some c => c.1 + c.2.1 != at_
def addH (b : List ByteArray) (s : St) (c : Hk) : Hk := if s.2.2 then (c.1, c.2.1, c.2.2 ++ [b.getD s.2.1.toNat ByteArray.empty]) else (c.1, c.2.1 + 1, c.2.2)
def hunksGo (ahead : Int) (b : List ByteArray) : List St → List Hk → Option Hk → List Hk
  | [], init, c => init ++ c.toList
  | s :: l, init, c => hunksGo ahead b l (openH (ahead + s.1) init c).1 (some (addH b s (openH (ahead + s.1) init c).2))
def hunksL (ahead : Int) (l : List St) (b : List ByteArray) : List Hk := hunksGo ahead b l [] none
/-- May these steps be made into hunks (no number is out of its range, each line that is put is there)? -/
def stepsOk (ahead : Int) (l : List St) (b : List ByteArray) : Bool :=
  decide (l.length ≤ 100000) && (decide (0 ≤ ahead) && (decide (ahead ≤ 1000000000000000) && l.all fun s => decide (0 ≤ s.1) && (decide (s.1 ≤ 1000000000000000) && (!s.2.2 || (decide (0 ≤ s.2.1) && decide (s.2.1 < b.length))))))

/-! ### Diff -/
def alike (a b : List ByteArray) (i j : Nat) : Bool := (a.getD i ByteArray.empty).toList == (b.getD j ByteArray.empty).toList
def preB (a b : List ByteArray) (i : Nat) : Bool := decide (i < a.length) && (decide (i < b.length) && alike a b i i)
def preGo (a b : List ByteArray) : Nat → Nat → Nat
  | 0, i => i
  | f + 1, i => if preB a b i then preGo a b f (i + 1) else i
def preL (a b : List ByteArray) : Nat := preGo a b a.length 0
def sufB (a b : List ByteArray) (p i : Nat) : Bool := decide (i + p < a.length) && (decide (i + p < b.length) && alike a b (a.length - 1 - i) (b.length - 1 - i))
def sufGo (a b : List ByteArray) (p : Nat) : Nat → Nat → Nat
  | 0, i => i
  | f + 1, i => if sufB a b p i then sufGo a b p f (i + 1) else i
def sufL (a b : List ByteArray) (p : Nat) : Nat := sufGo a b p a.length 0
def mid (l : List ByteArray) (p s : Nat) : List ByteArray := (l.take (l.length - s)).drop p
def diffX (a b : List ByteArray) : List ByteArray := mid a (preL a b) (sufL a b (preL a b))
def diffY (a b : List ByteArray) : List ByteArray := mid b (preL a b) (sufL a b (preL a b))
def diffL (a b : List ByteArray) : List Hk :=
  if (diffX a b).length + (diffY a b).length = 0 then []
  else if (walkL (diffX a b) (diffY a b)).2 then hunksL (preL a b) (walkL (diffX a b) (diffY a b)).1 (diffY a b)
  else [((preL a b : Int), ((diffX a b).length : Int), diffY a b)]
theorem preGo_step {a b : List ByteArray} {f i : Nat} (h : preB a b i = true) : preGo a b (f + 1) i = preGo a b f (i + 1) := by simp [preGo, h]
theorem preGo_stop {a b : List ByteArray} {f i : Nat} (h : preB a b i = false) : preGo a b f i = i := by cases f <;> simp [preGo, h]
theorem sufGo_step {a b : List ByteArray} {p f i : Nat} (h : sufB a b p i = true) : sufGo a b p (f + 1) i = sufGo a b p f (i + 1) := by simp [sufGo, h]
theorem sufGo_stop {a b : List ByteArray} {p f i : Nat} (h : sufB a b p i = false) : sufGo a b p f i = i := by cases f <;> simp [sufGo, h]
theorem preB_le {a b : List ByteArray} {i : Nat} (h : preB a b i = true) : i < a.length ∧ i < b.length := by
  simp only [preB, Bool.and_eq_true, decide_eq_true_eq] at h
  exact ⟨h.1, h.2.1⟩
theorem sufB_le {a b : List ByteArray} {p i : Nat} (h : sufB a b p i = true) : i + p < a.length ∧ i + p < b.length := by
  simp only [sufB, Bool.and_eq_true, decide_eq_true_eq] at h
  exact ⟨h.1, h.2.1⟩

/-! ### The least cost, row by row -/
def initGo : Nat → Nat → List Int → List Int
  | 0, _, row => row
  | r + 1, j, row => initGo r (j + 1) (row.set j (j : Int))
def cellV (al : Bool) (old up left : Int) : Int := if al then old else if up < left then up + 1 else left + 1
def rowGo (a b : List ByteArray) (i : Nat) : Nat → Nat → List Int → Int → List Int
  | 0, _, row, _ => row
  | r + 1, j, row, old => rowGo a b i r (j + 1) (row.set (j + 1) (cellV (alike a b i j) old (row.getD (j + 1) 0) (row.getD j 0))) (row.getD (j + 1) 0)
def leastGo (a b : List ByteArray) : Nat → Nat → List Int → List Int
  | 0, _, row => row
  | r + 1, i, row => leastGo a b r (i + 1) (rowGo a b i b.length 0 (row.set 0 ((i : Int) + 1)) (row.getD 0 0))
def leastL (a b : List ByteArray) : Int := (leastGo a b a.length 0 (initGo (b.length + 1) 0 (List.replicate (b.length + 1) 0))).getD b.length 0
/-- All numbers of a row lie between 0 and M. -/
def Within (row : List Int) (M : Int) : Prop := ∀ p, 0 ≤ row.getD p 0 ∧ row.getD p 0 ≤ M
theorem Within.set {row : List Int} {M v : Int} (h : Within row M) (h0 : 0 ≤ v) (h1 : v ≤ M) (j : Nat) : Within (row.set j v) M := by
  intro p
  rw [List.getD_eq_getElem?_getD, List.getElem?_set]
  split
  · split
    · exact ⟨h0, h1⟩
    · have := h p; simp; omega
  · rw [← List.getD_eq_getElem?_getD]; exact h p
theorem Within.mono {row : List Int} {M M' : Int} (h : Within row M) (hm : M ≤ M') : Within row M' := fun p => ⟨(h p).1, by have := (h p).2; omega⟩
theorem Within.zeros (n : Nat) {M : Int} (h : 0 ≤ M) : Within (List.replicate n 0) M := by
  intro p
  rw [List.getD_eq_getElem?_getD, List.getElem?_replicate]
  split <;> simp <;> omega
theorem cellV_bounds {al : Bool} {old up left M : Int} (h0 : 0 ≤ old) (h1 : old ≤ M) (h2 : 0 ≤ up) (h3 : up < M) (h4 : 0 ≤ left) : 0 ≤ cellV al old up left ∧ cellV al old up left ≤ M := by
  unfold cellV
  split
  · omega
  · split <;> omega
end Go.Proofs.YtkjjjkjgendnfaaDoorE
