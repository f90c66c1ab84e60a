/- A call's arguments, opened: a list of strings, a list of hunks. -/
import Derived.Test.YtkjjjkjgendnfaaDoorPAllx0
import Derived.SliceStrings
import Derived.Deep.Slices
import Derived.Deep.Strs
import Derived.SizedLaws
namespace Go.Proofs.YtkjjjkjgendnfaaDoorL
open Go.RowKit Go.ChangeShapes Go.WideShapes Go.Proofs.YtkjjjkjgendnfaaDoorW.PrintWords Go.Proofs.YtkjjjkjgendnfaaDoor.PAll

theorem cellsStr : Tryd.prog.cellsOf 9 = 1 := by kernel_rfl
theorem cellsHunk : Tryd.prog.cellsOf 26 = 3 := by kernel_rfl
theorem cellsInt : Tryd.prog.cellsOf 3 = 1 := by kernel_rfl
theorem cellsStrs : Tryd.prog.cellsOf 22 = 1 := by kernel_rfl

theorem strings_cells {w : World} {a : Addr} {len cap : Nat} {ss : List ByteArray} (hl : len ≤ cap) (hm : cap ≤ maxLen) (hz : ss.length = cap) (hcell : ∀ i, i < ss.length → w.cell? (a.add i) = some (.string (ss.getD i ByteArray.empty))) :
    ∃ l : List ByteArray, l.length = len ∧ Kd.C Kd.string w (some a) len l := by
  have hm' : cap ≤ 9223372036854775807 := Nat.le_trans hm (by unfold maxLen; decide)
  refine ⟨ss.take len, by rw [List.length_take]; omega, ?_⟩
  refine Kd.C_of_reads (d := ByteArray.empty) (h1 := fun _ => rfl) ⟨by rw [List.length_take]; omega, by omega, fun hn => ⟨a, rfl, fun j hj => ?_⟩⟩
  rw [hcell j (by omega), List.getD_eq_getElem?_getD, List.getD_eq_getElem?_getD, List.getElem?_take, if_pos hj]
theorem strings_nil (w : World) : Kd.C Kd.string w none 0 [] := ⟨rfl, by omega, fun h => by omega⟩
/-- A list of strings that came in. -/
theorem open_strs {H : Type} {enc : TypeId × Value → H} {w : World} {held : Bool} {fuel : Nat} {cs : List Value} {x : DataW H × List MemPlace} (h : DataW.trod enc Tryd.prog w 0 (fun _ => true) held fuel 22 cs = some x) :
    ∃ A len cap l, cs = [.slice A len cap] ∧ l.length = len ∧ len ≤ cap ∧ Kd.C Kd.string w A len l := by
  rcases open_strings Tryd.underlying22 Tryd.underlying9 cellsStr h with ⟨hcs, _⟩ | ⟨a, len, cap, ss, hcs, _, hl, hm, hz, _, hcell, _⟩
  · exact ⟨none, 0, 0, [], hcs, rfl, by omega, strings_nil w⟩
  · rw [if_pos rfl] at hz
    obtain ⟨l, e1, e2⟩ := strings_cells hl hm hz hcell
    exact ⟨some a, len, cap, l, hcs, e1, hl, e2⟩
/-- .. as an argument. -/
theorem open_strs_arg {H : Type} {enc : TypeId × Value → H} {w : World} {held : Bool} {A : Option Addr} {len cap : Nat} {d : DataW H} {ps : List MemPlace} (h : DataW.Trod enc Tryd.prog w 0 (fun _ => true) held 22 (.slice A len cap) d ps) :
    ∃ l : List ByteArray, l.length = len ∧ len ≤ cap ∧ Kd.C Kd.string w A len l := by
  obtain ⟨fuel, hf⟩ := h
  obtain ⟨A', len', cap', l, hcs, e1, e2, e3⟩ := open_strs hf
  simp [Value.cells] at hcs
  obtain ⟨rfl, rfl, rfl⟩ := hcs
  exact ⟨l, e1, e2, e3⟩
set_option maxRecDepth 100000 in
/-- A hunk that came in. -/
theorem open_hunk {H : Type} {enc : TypeId × Value → H} {w : World} {held : Bool} {fuel : Nat} {cs : List Value} {x : DataW H × List MemPlace} (h : DataW.trod enc Tryd.prog w 0 (fun _ => true) held fuel 26 cs = some x) : ∃ y : S26, k26.K w y cs := by
  obtain ⟨y0, y1, y2, n, _, hlen, h0, h1, h2⟩ := Go.Deep.trod_struct3 Tryd.underlying26 h
  rw [cellsHunk] at hlen
  match cs, hlen with
  | [c0, c1, c2], _ =>
    rw [show Field.offset _ = 0 from rfl, show Field.type _ = 3 from rfl, cellsInt] at h0
    rw [show Field.offset _ = 1 from rfl, show Field.type _ = 3 from rfl, cellsInt] at h1
    rw [show Field.offset _ = 2 from rfl, show Field.type _ = 22 from rfl, cellsStrs] at h2
    obtain ⟨n0, e0, _, _⟩ := DataW.trod_int Tryd.underlying3 h0
    obtain ⟨n1, e1, _, _⟩ := DataW.trod_int Tryd.underlying3 h1
    obtain ⟨A, len, cap, l, e2, e3, e4, e5⟩ := open_strs h2
    simp at e0 e1 e2
    subst e0 e1 e2
    subst e3
    exact ⟨⟨n0, n1, l⟩, k26_mk w ⟨n0, n1, l⟩ e4 e5⟩
theorem open_hunks_arg {H : Type} {enc : TypeId × Value → H} {w : World} {held : Bool} {A : Option Addr} {len cap : Nat} {d : DataW H} {ps : List MemPlace} (h : DataW.Trod enc Tryd.prog w 0 (fun _ => true) held 23 (.slice A len cap) d ps) :
    ∃ l : List S26, l.length = len ∧ len ≤ cap ∧ Kd.C k26 w A len l := by
  obtain ⟨fuel, hf⟩ := h
  rcases Go.Deep.open_slice Tryd.underlying23 hf with ⟨hcs, _⟩ | ⟨a, len', cap', m, n, D, Pl, hcs, _, hl, hm, hmm, _, hx⟩
  · simp [Value.cells] at hcs
    obtain ⟨rfl, rfl, rfl⟩ := hcs
    exact ⟨[], rfl, by omega, ⟨rfl, by omega, fun h => by omega⟩⟩
  · simp [Value.cells] at hcs
    obtain ⟨rfl, rfl, rfl⟩ := hcs
    rw [if_pos rfl] at hmm
    subst hmm
    haveI : Inhabited S26 := ⟨z26⟩
    obtain ⟨f, hf⟩ := Go.Deep.choose_lt (α := S26) (n := m) (p := fun i y => ∃ cs, w.cells? 0 (a.add (i * 3)) 3 = some cs ∧ k26.K w y cs) (fun i hi => by
      obtain ⟨cs, h1, h2⟩ := hx i hi
      rw [cellsHunk] at h1
      obtain ⟨y, hy⟩ := open_hunk h2
      exact ⟨y, cs, h1, hy⟩)
    have hm' : m ≤ 9223372036854775807 := Nat.le_trans hm (by unfold maxLen; decide)
    refine ⟨(List.range len).map f, by simp, hl, ⟨by simp, by omega, fun hn => ⟨a, rfl, fun j p hj => ?_⟩⟩⟩
    have hj' : j < len := by
      have := (List.getElem?_eq_some_iff.1 hj).1
      simpa using this
    have hp : p = f j := by
      rw [List.getElem?_map, List.getElem?_range hj'] at hj
      simpa using hj.symm
    subst hp
    obtain ⟨cs, h1, h2⟩ := hf j (by omega)
    obtain ⟨_, hcl, hcc⟩ := World.cells?_some h1
    refine ⟨cs, hcl, h2, fun i u hu => ?_⟩
    have hi : i < 3 := by
      have := (List.getElem?_eq_some_iff.1 hu).1
      omega
    have := hcc i hi
    rw [Go.Deep.add_add, hu] at this
    exact this
/-! ### .. and no list of lines in a hunk is too long for a machine -/
theorem bytesStr : Tryd.prog.bytesOf 9 = 16 := by kernel_rfl
theorem weights_all {H : Type} {P : Program} {e : TypeId} : ∀ (l : List (DataW H)) (x : DataW H), x ∈ l → ∀ n ∈ x.weights P e, n ∈ DataW.weightsAll P e l
  | [], _, h, _, _ => by cases h
  | d :: l, x, h, n, hn => by
    rw [DataW.weightsAll, List.mem_append]
    rcases List.mem_cons.1 h with rfl | h
    · exact .inl hn
    · exact .inr (weights_all l x h n hn)
theorem open_strs_sized {H : Type} {enc : TypeId × Value → H} {w : World} {held : Bool} {fuel : Nat} {cs : List Value} {x : DataW H × List MemPlace} (h : DataW.trod enc Tryd.prog w 0 (fun _ => true) held fuel 22 cs = some x) (hw : ∀ n ∈ x.1.weights Tryd.prog 22, n ≤ reachBytes) :
    ∃ A len cap l, cs = [.slice A len cap] ∧ l.length = len ∧ len ≤ cap ∧ Kd.C Kd.string w A len l ∧ len ≤ 8796093022208 := by
  rcases open_strings Tryd.underlying22 Tryd.underlying9 cellsStr h with ⟨hcs, _⟩ | ⟨a, len, cap, ss, hcs, _, hl, hm, hz, hx, hcell, _⟩
  · exact ⟨none, 0, 0, [], hcs, rfl, by omega, strings_nil w, by omega⟩
  · rw [if_pos rfl] at hz
    obtain ⟨l, e1, e2⟩ := strings_cells hl hm hz hcell
    refine ⟨some a, len, cap, l, hcs, e1, hl, e2, ?_⟩
    subst hx
    have := hw (((strs (H := H) (ss.take len)).length + (strs (H := H) (ss.drop len)).length) * 16) (by
      simp only [DataW.weights, Tryd.underlying22, bytesStr]
      exact List.mem_cons_self)
    simp only [strs, List.length_map, List.length_take, List.length_drop, reachBytes] at this
    omega
set_option maxRecDepth 100000 in
theorem open_hunk_sized {H : Type} {enc : TypeId × Value → H} {w : World} {held : Bool} {fuel : Nat} {cs : List Value} {x : DataW H × List MemPlace} (h : DataW.trod enc Tryd.prog w 0 (fun _ => true) held fuel 26 cs = some x) (hw : ∀ n ∈ x.1.weights Tryd.prog 26, n ≤ reachBytes) :
    ∃ y : S26, k26.K w y cs ∧ y.f2.length ≤ 8796093022208 := by
  obtain ⟨y0, y1, y2, n, hx, hlen, h0, h1, h2⟩ := Go.Deep.trod_struct3 Tryd.underlying26 h
  rw [cellsHunk] at hlen
  match cs, hlen with
  | [c0, c1, c2], _ =>
    rw [show Field.offset _ = 0 from rfl, show Field.type _ = 3 from rfl, cellsInt] at h0
    rw [show Field.offset _ = 1 from rfl, show Field.type _ = 3 from rfl, cellsInt] at h1
    rw [show Field.offset _ = 2 from rfl, show Field.type _ = 22 from rfl, cellsStrs] at h2
    obtain ⟨n0, e0, _, _⟩ := DataW.trod_int Tryd.underlying3 h0
    obtain ⟨n1, e1, _, _⟩ := DataW.trod_int Tryd.underlying3 h1
    obtain ⟨A, len, cap, l, e2, e3, e4, e5, e6⟩ := open_strs_sized h2 (fun k hk => hw k (by
      subst hx
      simp only [DataW.weights, Tryd.underlying26]
      exact DataW.weights_mem_each (j := 2) (t := 22) (d := y2.1) rfl rfl k hk))
    simp at e0 e1 e2
    subst e0 e1 e2
    subst e3
    exact ⟨⟨n0, n1, l⟩, k26_mk w ⟨n0, n1, l⟩ e4 e5, e6⟩
theorem open_hunks_sized {H : Type} {enc : TypeId × Value → H} {w : World} {held : Bool} {A : Option Addr} {len cap : Nat} {d : DataW H} {ps : List MemPlace} (h : DataW.Trod enc Tryd.prog w 0 (fun _ => true) held 23 (.slice A len cap) d ps) (hw : ∀ n ∈ d.weights Tryd.prog 23, n ≤ reachBytes) :
    ∃ l : List S26, l.length = len ∧ len ≤ cap ∧ Kd.C k26 w A len l ∧ ∀ y, y ∈ l → y.f2.length ≤ 8796093022208 := by
  obtain ⟨fuel, hf⟩ := h
  rcases Go.Deep.open_slice Tryd.underlying23 hf with ⟨hcs, _⟩ | ⟨a, len', cap', m, n, D, Pl, hcs, _, hl, hm, hmm, hd, hx⟩
  · simp [Value.cells] at hcs
    obtain ⟨rfl, rfl, rfl⟩ := hcs
    exact ⟨[], rfl, by omega, ⟨rfl, by omega, fun h => by omega⟩, fun y hy => by cases hy⟩
  · simp [Value.cells] at hcs
    obtain ⟨rfl, rfl, rfl⟩ := hcs
    rw [if_pos rfl] at hmm
    subst hmm
    have hd1 := (Prod.mk.inj hd).1
    subst hd1
    haveI : Inhabited S26 := ⟨z26⟩
    obtain ⟨f, hf⟩ := Go.Deep.choose_lt (α := S26) (n := len) (p := fun i y => (∃ cs, w.cells? 0 (a.add (i * 3)) 3 = some cs ∧ k26.K w y cs) ∧ y.f2.length ≤ 8796093022208) (fun i hi => by
      obtain ⟨cs, h1, h2⟩ := hx i (by omega)
      rw [cellsHunk] at h1
      obtain ⟨y, hy, hy'⟩ := open_hunk_sized h2 (fun k hk => hw k (by
        simp only [DataW.weights, Tryd.underlying23]
        exact List.mem_cons_of_mem _ (List.mem_append_left _ (weights_all _ (D i) (List.mem_map.2 ⟨i, List.mem_range.2 hi, rfl⟩) k hk))))
      exact ⟨y, ⟨cs, h1, hy⟩, hy'⟩)
    have hm' : m ≤ 9223372036854775807 := Nat.le_trans hm (by unfold maxLen; decide)
    refine ⟨(List.range len).map f, by simp, hl, ⟨by simp, by omega, fun hn => ⟨a, rfl, fun j p hj => ?_⟩⟩, ?_⟩
    · have hj' : j < len := by
        have := (List.getElem?_eq_some_iff.1 hj).1
        simpa using this
      have hp : p = f j := by
        rw [List.getElem?_map, List.getElem?_range hj'] at hj
        simpa using hj.symm
      subst hp
      obtain ⟨⟨cs, h1, h2⟩, _⟩ := hf j hj'
      obtain ⟨_, hcl, hcc⟩ := World.cells?_some h1
      refine ⟨cs, hcl, h2, fun i u hu => ?_⟩
      have hi : i < 3 := by
        have := (List.getElem?_eq_some_iff.1 hu).1
        omega
      have := hcc i hi
      rw [Go.Deep.add_add, hu] at this
      exact this
    · intro y hy
      obtain ⟨i, hi, rfl⟩ := List.mem_map.1 hy
      exact (hf i (List.mem_range.1 hi)).2
end Go.Proofs.YtkjjjkjgendnfaaDoorL
