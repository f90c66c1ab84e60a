/- Forms: a form that came in, opened. -/
import Derived.Test.YtehghdmfdinpjaaDoorFC
import Derived.SliceStrings
import Derived.Deep.Slices
import Derived.Deep.Strs
import Derived.SizedLaws
namespace Go.Proofs.YtehghdmfdinpjaaDoorF
open Go.RowKit Go.ChangeShapes Go.WideShapes Go.Proofs.YtehghdmfdinpjaaDoorW.PrintWords Go.Proofs.YtehghdmfdinpjaaDoor.PAll

theorem cellsBool : Tryd.prog.cellsOf 4 = 1 := by kernel_rfl
theorem cellsStr : Tryd.prog.cellsOf 9 = 1 := by kernel_rfl
theorem cellsForm : Tryd.prog.cellsOf 24 = 3 := by kernel_rfl
theorem cellsForms : Tryd.prog.cellsOf 22 = 1 := by kernel_rfl
theorem weights_all {H : Type} {P : Program} {e : TypeId} : ∀ (l : List (DataW H)) (x : DataW H), x ∈ l → ∀ n ∈ x.weights P e, n ∈ DataW.weightsAll P e l
  | [], _, h, _, _ => by cases h
  | d :: l, x, h, n, hn => by
    rw [DataW.weightsAll, List.mem_append]
    rcases List.mem_cons.1 h with rfl | h
    · exact .inl hn
    · exact .inr (weights_all l x h n hn)
theorem txL_of : ∀ {is : List S24}, (∀ x ∈ is, tx x) → txL is
  | [], _ => by rw [txL]; trivial
  | x :: is, h => by rw [txL]; exact ⟨h x (by simp), txL_of (fun y hy => h y (by simp [hy]))⟩
set_option maxRecDepth 100000 in
set_option maxHeartbeats 1000000 in
theorem open_form {H : Type} {enc : TypeId × Value → H} {w : World} {held : Bool} : ∀ (N : Nat) {fuel : Nat} {cs : List Value} {x : DataW H × List MemPlace}, SizeOf.sizeOf x.1 ≤ N → DataW.trod enc Tryd.prog w 0 (fun _ => true) held fuel 24 cs = some x → (∀ n ∈ x.1.weights Tryd.prog 24, n ≤ reachBytes) → ∃ y : S24, k24.K w y cs ∧ tx y := by
  intro N
  induction N with
  | zero => 
    intro fuel cs x hN
    have : 0 < SizeOf.sizeOf x.1 := by cases x.1 <;> simp <;> omega
    omega
  | succ N ih =>
  intro fuel cs x hN h hw
  obtain ⟨y0, y1, y2, n, hx, hlen, h0, h1, h2⟩ := Go.Deep.trod_struct3 Tryd.underlying24 h
  rw [cellsForm] at hlen
  match cs, hlen with
  | [c0, c1, c2], _ =>
    rw [show Field.offset _ = 0 from rfl, show Field.type _ = 4 from rfl, cellsBool] at h0
    rw [show Field.offset _ = 1 from rfl, show Field.type _ = 9 from rfl, cellsStr] at h1
    rw [show Field.offset _ = 2 from rfl, show Field.type _ = 22 from rfl, cellsForms] at h2
    obtain ⟨b, e0, _⟩ := DataW.trod_bool Tryd.underlying4 h0
    obtain ⟨s, e1, e1x, _⟩ := DataW.trod_string Tryd.underlying9 h1
    have hwx : ∀ n ∈ y1.1.weights Tryd.prog 9 ++ y2.1.weights Tryd.prog 22, n ≤ reachBytes := by
      intro n hn
      refine hw n ?_
      rw [hx]
      simp only [DataW.weights, Tryd.underlying24]
      show n ∈ DataW.weightsEach Tryd.prog [4, 9, 22] [y0.1, y1.1, y2.1]
      simp only [DataW.weightsEach, List.mem_append] at hn ⊢
      rcases hn with hn | hn
      · exact .inr (.inl hn)
      · exact .inr (.inr (.inl hn))
    have hts : s.size ≤ 1000000000000000000 := by
      have := hwx s.data.toList.length (by rw [e1x]; simp [DataW.weights])
      rw [Array.length_toList] at this
      have e : s.data.size = s.size := rfl
      simp only [reachBytes] at this
      omega
    simp at e0 e1
    subst e0 e1
    rcases Go.Deep.open_slice Tryd.underlying22 h2 with ⟨hcs, _⟩ | ⟨a, len', cap', m, n', D, Pl, hcs, _, hl, hm, hmm, hx2, hxx⟩
    · simp at hcs
      subst hcs
      exact ⟨⟨b, s, []⟩, k24_mk w ⟨b, s, []⟩ (Nat.le_refl _) ⟨rfl, Nat.zero_le _, fun h => absurd h (Nat.lt_irrefl 0)⟩, by rw [tx, txL]; exact ⟨hts, trivial⟩⟩
    · simp at hcs
      subst hcs
      rw [if_pos rfl] at hmm
      subst hmm
      haveI : Inhabited S24 := ⟨z24⟩
      obtain ⟨f, hf⟩ := Go.Deep.choose_lt (α := S24) (n := len') (p := fun i y => tx y ∧ ∃ cs, w.cells? 0 (a.add (i * 3)) 3 = some cs ∧ k24.K w y cs) (fun i hi => by
        obtain ⟨cs, g1, g2⟩ := hxx i (by omega)
        rw [cellsForm] at g1
        have hmem : D i ∈ (List.range len').map D := List.mem_map.2 ⟨i, List.mem_range.2 hi, rfl⟩
        have hsz : SizeOf.sizeOf (D i) ≤ N := by
          have t1 := List.sizeOf_lt_of_mem hmem
          have t2 : SizeOf.sizeOf y2.1 < SizeOf.sizeOf x.1 := by rw [hx]; simp; omega
          have t3 : SizeOf.sizeOf ((List.range len').map D) < SizeOf.sizeOf y2.1 := by rw [hx2]; simp; omega
          omega
        obtain ⟨y, hy, hty⟩ := ih hsz g2 (fun n hn => hwx n (List.mem_append.2 (.inr (by
          rw [hx2]
          simp only [DataW.weights, Tryd.underlying22]
          exact List.mem_cons_of_mem _ (List.mem_append.2 (.inl (weights_all _ _ hmem n hn)))))))
        exact ⟨y, hty, cs, g1, hy⟩)
      refine ⟨⟨b, s, (List.range len').map f⟩, ?_, ?_⟩
      · have hC : k24.C w (some a) len' ((List.range len').map f) := by
          refine ⟨by simp, Nat.le_trans hl (Nat.le_trans hm (by unfold maxLen; decide)), fun hn => ⟨a, rfl, fun j p hj => ?_⟩⟩
          have hj' : j < len' := by
            have := (List.getElem?_eq_some_iff.1 hj).1
            simpa using this
          have hp : p = f j := by
            rw [List.getElem?_map, List.getElem?_range hj'] at hj
            simpa using hj.symm
          subst hp
          obtain ⟨_, cs, h1, h2⟩ := hf j hj'
          obtain ⟨_, hcl, hcc⟩ := World.cells?_some h1
          refine ⟨cs, hcl, h2, fun i u hu => ?_⟩
          have hi : i < 3 := by
            have := (List.getElem?_eq_some_iff.1 hu).1
            omega
          have := hcc i hi
          rw [Go.Deep.add_add, hu] at this
          exact this
        have hlen2 : ((List.range len').map f).length = len' := by simp
        have := k24_mk w ⟨b, s, (List.range len').map f⟩ (A2 := some a) (c2 := m) (by rw [hlen2]; exact hl) (by rw [hlen2]; exact hC)
        rw [hlen2] at this
        exact this
      · rw [tx]
        refine ⟨hts, txL_of (fun y hy => ?_)⟩
        obtain ⟨i, hi, rfl⟩ := List.mem_map.1 hy
        exact (hf i (List.mem_range.1 hi)).1
#print axioms open_form
end Go.Proofs.YtehghdmfdinpjaaDoorF
