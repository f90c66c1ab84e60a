/- The plain law of SectorSure: what a disk's calls do to what is sure, to what was written last, to what was ever written. -/
import Derived.Test.YtpdnfaggdheneaaSF
namespace Go.Proofs.YtpdnfaggdheneaaS
open Go.RowKit Go.Proofs

theorem list_ext9 {l l' : List ByteArray} (h : l.length = 9) (h' : l'.length = 9) (e : ∀ k, k < 9 → l.getD k ByteArray.empty = l'.getD k ByteArray.empty) : l = l' := by
  apply List.ext_getElem (by rw [h, h'])
  intro k h1 h2
  have := e k (by omega)
  rw [List.getD_eq_getElem?_getD, List.getD_eq_getElem?_getD, List.getElem?_eq_getElem h1, List.getElem?_eq_getElem h2] at this
  exact this
theorem getD_set_eq {l : List ByteArray} {k : Nat} (h : k < l.length) (s : ByteArray) : (l.set k s).getD k ByteArray.empty = s := by
  rw [List.getD_eq_getElem?_getD, List.getElem?_set_self h]
  rfl
theorem getD_set_ne {l : List ByteArray} {k j : Nat} (h : k ≠ j) (s : ByteArray) : (l.set k s).getD j ByteArray.empty = l.getD j ByteArray.empty := by
  rw [List.getD_eq_getElem?_getD, List.getElem?_set_ne h, ← List.getD_eq_getElem?_getD]
/-- What is read of each sector. -/
def lastL (d : Dsk) : List ByteArray := (List.range 9).map fun k : Nat => d.get (k : Int)
theorem lastL_length (d : Dsk) : (lastL d).length = 9 := by simp [lastL]
theorem lastL_get (d : Dsk) {k : Nat} (hk : k < 9) : (lastL d).getD k ByteArray.empty = d.get (k : Int) := by
  unfold lastL
  rw [List.getD_eq_getElem?_getD, List.getElem?_map, List.getElem?_range hk]
  rfl
theorem get_wrote (d : Dsk) (i : Int) (s : ByteArray) (k : Int) : (d.wrote i s).get k = if i = k then full s else d.get k := by
  unfold Dsk.get Dsk.wrote
  rw [readL_snoc]
theorem lastL_wrote (d : Dsk) {i : Int} (h0 : 0 ≤ i) (h9 : i < 9) (s : ByteArray) : lastL (d.wrote i s) = (lastL d).set i.toNat (full s) := by
  apply list_ext9 (lastL_length _) (by rw [List.length_set]; exact lastL_length _)
  intro k hk
  rw [lastL_get _ hk, get_wrote]
  by_cases e : i = (k : Int)
  · subst e
    rw [if_pos rfl, Int.toNat_natCast, getD_set_eq (by rw [lastL_length]; exact hk)]
  · rw [if_neg e, getD_set_ne (by omega), lastL_get _ hk]
theorem lastL_stepped (d : Dsk) : lastL d.stepped = lastL d := rfl
theorem lastL_fueled (d : Dsk) (n : Int) : lastL (d.fueled n) = lastL d := rfl
theorem made_get (l : List Wr) : ∀ (k : Nat) (s : List ByteArray) (i : Nat), i < s.length → (∀ x, x ∈ l → 0 ≤ x.1) → (madeL [] true l k s).getD i ByteArray.empty = readL l (i : Int) (s.getD i ByteArray.empty) := by
  induction l with
  | nil => intro k s i _ _; rfl
  | cons x l ih =>
    intro k s i hi h
    have hx := h x List.mem_cons_self
    have e1 : readL (x :: l) (i : Int) (s.getD i ByteArray.empty) = readL l (i : Int) (if x.1 = (i : Int) then x.2 else s.getD i ByteArray.empty) := rfl
    rw [madeL, Bool.true_or, e1, ih (k + 1) _ i (by rw [mk1_length]; exact hi) (fun y hy => h y (List.mem_cons_of_mem _ hy))]
    congr 1
    show (s.set x.1.toNat x.2).getD i ByteArray.empty = _
    by_cases e : x.1 = (i : Int)
    · rw [if_pos e, e, Int.toNat_natCast, getD_set_eq hi]
    · rw [if_neg e, getD_set_ne (by omega)]
theorem made_in (P : Nat → ByteArray → Prop) (keep : List Bool) (all : Bool) (l : List Wr) : ∀ (k : Nat) (s : List ByteArray), (∀ i, i < s.length → P i (s.getD i ByteArray.empty)) → (∀ x, x ∈ l → P x.1.toNat x.2) → ∀ i, i < s.length → P i ((madeL keep all l k s).getD i ByteArray.empty) := by
  induction l with
  | nil => intro k s h _ i hi; exact h i hi
  | cons x l ih =>
    intro k s h hl i hi
    rw [madeL]
    refine ih (k + 1) _ (fun j hj => ?_) (fun y hy => hl y (List.mem_cons_of_mem _ hy)) i (by rw [mk1_length]; exact hi)
    rw [mk1_length] at hj
    unfold mk1
    split
    · by_cases e : x.1.toNat = j
      · rw [← e, getD_set_eq (by rw [e]; exact hj)]
        exact hl x List.mem_cons_self
      · rw [getD_set_ne e]
        exact h j hj
    · exact h j hj
/-- What holds of the disk and of what was ever written. -/
structure Inv (d : Dsk) (ev : Nat → ByteArray → Bool) (n : Nat) : Prop where
  nine : d.sure.length = 9
  szs : ∀ s, s ∈ d.sure → s.size = 512
  szw : ∀ x, x ∈ d.wait → x.2.size = 512
  ats : ∀ x, x ∈ d.wait → 0 ≤ x.1 ∧ x.1 < d.sure.length
  evs : ∀ k, k < 9 → ev k (d.sure.getD k ByteArray.empty) = true
  evw : ∀ x, x ∈ d.wait → ev x.1.toNat x.2 = true
  few : d.wait.length ≤ n
section
variable {d : Dsk} {ev : Nat → ByteArray → Bool} {n : Nat}
theorem Inv.mono (h : Inv d ev n) {n' : Nat} (hn : n ≤ n') : Inv d ev n' := ⟨h.nine, h.szs, h.szw, h.ats, h.evs, h.evw, Nat.le_trans h.few hn⟩
theorem Inv.same (h : Inv d ev n) {d' : Dsk} (h1 : d'.sure = d.sure) (h2 : d'.wait = d.wait) : Inv d' ev n := by
  cases d'
  cases d
  simp only at h1 h2
  subst h1 h2
  exact ⟨h.nine, h.szs, h.szw, h.ats, h.evs, h.evw, h.few⟩
theorem read_size (l : List Wr) : ∀ (i : Int) (s : ByteArray), s.size = 512 → (∀ x, x ∈ l → x.2.size = 512) → (readL l i s).size = 512 := by
  induction l with
  | nil => intro i s h _; exact h
  | cons x l ih =>
    intro i s h hl
    refine ih i (if x.1 = i then x.2 else s) ?_ (fun y hy => hl y (List.mem_cons_of_mem _ hy))
    split
    · exact hl x List.mem_cons_self
    · exact h
theorem Inv.size (h : Inv d ev n) {k : Nat} (hk : k < 9) : (d.sure.getD k ByteArray.empty).size = 512 := by
  have : k < d.sure.length := by rw [h.nine]; exact hk
  rw [List.getD_eq_getElem?_getD, List.getElem?_eq_getElem this]
  exact h.szs _ (List.getElem_mem _)
theorem Inv.gsize (h : Inv d ev n) {k : Int} (h0 : 0 ≤ k) (h9 : k < 9) : (d.get k).size = 512 :=
  read_size _ _ _ (h.size (by omega)) h.szw
def addE (ev : Nat → ByteArray → Bool) (i : Nat) (s : ByteArray) : Nat → ByteArray → Bool := fun k t => (decide (k = i) && decide (t = s)) || ev k t
theorem Inv.wrote (h : Inv d ev n) {i : Int} (h0 : 0 ≤ i) (h9 : i < 9) {s : ByteArray} (hs : s.size ≤ 512) : Inv (d.wrote i s) (addE ev i.toNat (full s)) (n + 1) := by
  refine ⟨h.nine, h.szs, fun x hx => ?_, fun x hx => ?_, fun k hk => ?_, fun x hx => ?_, ?_⟩
  · rcases List.mem_append.1 hx with hx | hx
    · exact h.szw x hx
    · rw [List.mem_singleton.1 hx]; exact full_size hs
  · rcases List.mem_append.1 hx with hx | hx
    · exact h.ats x hx
    · rw [List.mem_singleton.1 hx]; exact ⟨h0, by show i < (d.sure.length : Int); rw [h.nine]; exact h9⟩
  · unfold addE
    rw [show (d.wrote i s).sure = d.sure from rfl, h.evs k hk, Bool.or_true]
  · unfold addE
    rcases List.mem_append.1 hx with hx | hx
    · rw [h.evw x hx, Bool.or_true]
    · rw [List.mem_singleton.1 hx]
      simp
  · show (d.wait ++ [(i, full s)]).length ≤ n + 1
    rw [List.length_append]
    exact Nat.add_le_add_right h.few 1
theorem Inv.flushed_sure (h : Inv d ev n) : d.flushed.sure = lastL d := by
  apply list_ext9 (by show (madeL _ _ _ _ _).length = 9; rw [madeL_length]; exact h.nine) (lastL_length _)
  intro k hk
  rw [lastL_get _ hk]
  show (madeL [] true d.wait 0 d.sure).getD k _ = _
  rw [made_get _ _ _ _ (by rw [h.nine]; exact hk) (fun x hx => (h.ats x hx).1)]
  unfold Dsk.get
  rw [Int.toNat_natCast]
theorem last_sure {d : Dsk} (h9 : d.sure.length = 9) (hw : d.wait = []) : lastL d = d.sure := by
  apply list_ext9 (lastL_length _) h9
  intro k hk
  rw [lastL_get _ hk]
  unfold Dsk.get
  rw [hw, Int.toNat_natCast]
  rfl
theorem Inv.fallen (h : Inv d ev n) (keep : List Bool) : Inv (d.fallen keep) ev 0 := by
  have hl : (d.fallen keep).sure.length = 9 := by show (madeL _ _ _ _ _).length = 9; rw [madeL_length]; exact h.nine
  refine ⟨hl, madeL_size keep false d.wait 0 d.sure h.szw h.szs, (fun x hx => by cases hx), (fun x hx => by cases hx), fun k hk => ?_, (fun x hx => by cases hx), Nat.le_refl _⟩
  exact made_in (fun i s => ev i s = true) keep false d.wait 0 d.sure (fun i hi => h.evs i (by rw [h.nine] at hi; exact hi)) h.evw k (by rw [h.nine]; exact hk)
theorem Inv.flushed (h : Inv d ev n) : Inv d.flushed ev 0 := by
  have hl : d.flushed.sure.length = 9 := by show (madeL _ _ _ _ _).length = 9; rw [madeL_length]; exact h.nine
  refine ⟨hl, madeL_size [] true d.wait 0 d.sure h.szw h.szs, (fun x hx => by cases hx), (fun x hx => by cases hx), fun k hk => ?_, (fun x hx => by cases hx), Nat.le_refl _⟩
  exact made_in (fun i s => ev i s = true) [] true d.wait 0 d.sure (fun i hi => h.evs i (by rw [h.nine] at hi; exact hi)) h.evw k (by rw [h.nine]; exact hk)
theorem lastL_flushed (h : Inv d ev n) : lastL d.flushed = lastL d := (last_sure h.flushed.nine rfl).trans h.flushed_sure
theorem lastL_fallen (h : Inv d ev n) (keep : List Bool) : lastL (d.fallen keep) = (d.fallen keep).sure := last_sure (h.fallen keep).nine rfl
/-- Behind a fall that keeps nothing. -/
theorem made_none (l : List Wr) : ∀ (k : Nat) (s : List ByteArray), madeL [] false l k s = s := by
  induction l with
  | nil => intro k s; rfl
  | cons x l ih => intro k s; rw [madeL, ih]; simp [mk1]
theorem fallen_nil (d : Dsk) : (d.fallen []).sure = d.sure := made_none _ _ _
end
theorem full_prefix {s : ByteArray} (h : s.size ≤ 512) : (full s).extract 0 s.size = s := by
  apply ByteArray.ext
  rw [ByteArray.data_extract]
  unfold full
  rw [show s.size = s.data.size from rfl, Array.extract_append]
  simp
#print axioms full_prefix
end Go.Proofs.YtpdnfaggdheneaaS
