/- Forms: terms.Read. -/
import Derived.Test.YtehghdmfdinpjaaDoorFS
namespace Go.Proofs.YtehghdmfdinpjaaDoorF
open Go.RowKit Go.Proofs Go.Proofs.YtehghdmfdinpjaaDoorW.PrintWords Go.Proofs.YtehghdmfdinpjaaDoorW.PrintLast
open Go.Proofs.YtehghdmfdinpjaaDoor.PAll (S24 k24 z24 IsS70)

/-- A form that lies in memory. -/
def FormAt (w : World) (v : Value) (x : S24) : Prop := ∃ A c, v = .agg #[.bool x.f0, .string x.f1, .slice A x.f2.length c] ∧ x.f2.length ≤ c ∧ k24.C w A x.f2.length x.f2
theorem FormAt.below {w w' : World} {v : Value} {x : S24} (h : FormAt w v x) (hb : Below w.heap.size w w') : FormAt w' v x := by
  obtain ⟨A, c, rfl, hc, hC⟩ := h
  exact ⟨A, c, rfl, hc, Kd.C_below hC hb⟩
theorem FormAt.zero (w : World) : FormAt w (.agg #[.bool false, .string ⟨#[]⟩, .slice none 0 0]) z24 := by
  obtain ⟨A, c, h1, h2, h3⟩ := Kd.R_reads (Kd.R_nil k24 24 w 0 (fun _ => True))
  cases h1
  exact ⟨none, 0, rfl, Nat.le_refl _, h3⟩
theorem results_row_tmp {P : Program} {fn : Func} {p u : Tmp} {ty : TypeId} (h : fn.results = #[.cell p ty, .tmp u]) (tmps : Array Value) (w : World) (g : Nat) (t : TypeId) (cs : Array Value) (fr : Nat × Nat) (d : TypeDesc)
    (hp : tmps.getD p undef = .pointer (some ⟨g, 0, none⟩)) (hg : w.heap[g]? = some (.cells cs t fr))
    (hu : P.underlying ty = some d) (hd : (match d with | .struct _ | .array _ _ => true | _ => false) = true) (hi : (P.info? ty).map (·.size) = some cs.size) :
    (results fn tmps).run P w = .ok (.tuple #[.agg cs, tmps.getD u undef]) w := by
  have hp' : tmps[p]?.getD undef = .pointer (some ⟨g, 0, none⟩) := by simpa using hp
  simp [results, h, hp', asAddr, run_loadVar_row w g t ty cs fr d hg hu hd hi]
theorem heap_set3 {w : World} {b : Nat} {x y z : Value} {t : TypeId} (h : w.heap[b]? = some (.cells #[x, y, z] t (0, 0))) (x' y' z' : Value) : (((w.setCell ⟨b, 0, none⟩ x').setCell ⟨b, 1, none⟩ y').setCell ⟨b, 2, none⟩ z').heap[b]? = some (.cells #[x', y', z'] t (0, 0)) :=
  (heap_setF (heap_setF (heap_setF h x') y') z').trans rfl
theorem below_set3 {w w' : World} {B b : Nat} (h : Below B w w') (hb : B ≤ b) (x' y' z' : Value) : Below B w (((w'.setCell ⟨b, 0, none⟩ x').setCell ⟨b, 1, none⟩ y').setCell ⟨b, 2, none⟩ z') :=
  ((h.setCell (p := ⟨b, 0, none⟩) hb _).setCell (p := ⟨b, 1, none⟩) hb _).setCell (p := ⟨b, 2, none⟩) hb _
theorem infoSzF : (Tryd.prog.info? 24).map (·.size) = some 3 := by kernel_rfl
/-- What Read gives (k: fuel). -/
def readF (k : Nat) (s : ByteArray) : Option (S24 × Option Int) :=
  if 65536 < s.size then some (z24, some 2) else
  match Go.Proofs.YtehghdmfdinpjaaDoor.PAll.terms_reader_item.f k s 0 with
  | none => none
  | some (r1, r2, r3, r4, r5) => if r4 && r5.toList.isEmpty then some (⟨r1, r2, r3⟩, none) else some (z24, some 5)
set_option maxHeartbeats 4000000 in
set_option maxRecDepth 100000 in
theorem read_calls {w : World} (k : Nat) (s : ByteArray) (x : S24) (er : Option Int) (h : readF k s = some (x, er)) :
    Calls Tryd.prog 14 #[.string s] w fun e w' => ∃ v, e = .returned (.tuple #[v, errV er]) ∧ FormAt w' v x ∧ Below w.heap.size w w' := by
  have HB0 := Lib.hid (Below.refl w.heap.size w)
  by_cases hs : 65536 < s.size
  · have h1 : decide ((s.size : Int) > 65536) = true := decide_eq_true (by omega)
    rw [readF, if_pos hs] at h
    cases h
    go_enter Tryd.func14, Tryd.ntmps14
    go_wp2_with (first | ((with_reducible refine gate_dst (N := 2) rfl ?_); refine box_event ?hg (N := 2) ?hd (cs := #[.bool false, .string (⟨#[]⟩ : ByteArray), .slice none 0 0]) (t := 24) ?hr ?_; (case hd => rfl); (case hg => rfl); (case hr => first | (go_simp; done) | (go_simp; rfl)); intro b2 hg2 wb hbox hb2; have HB1 := Lib.hid hb2; have BX := Lib.hid hbox; have G2 := Lib.hid hg2; clear hb2 hbox hg2; have a0 := (blk_cell BX.out 0).trans rfl; have a1 := (blk_cell BX.out 1).trans rfl; have a2 := (blk_cell BX.out 2).trans rfl; have f0 := blk_frozen BX.out 0; have f1 := blk_frozen BX.out 1; have f2 := blk_frozen BX.out 2))
    refine bodyPost_ret (results_row_tmp rfl _ _ b2 24 #[.bool false, .string (⟨#[]⟩ : ByteArray), .slice none 0 0] (0, 0) _ rfl (heap_set3 BX.out _ _ _) Tryd.underlying24 rfl infoSzF) rfl ?_
    exact ⟨_, rfl, FormAt.zero _, below_set3 HB1.out (Nat.le_of_eq G2.out.symm) _ _ _⟩
  · have h1 : decide ((s.size : Int) > 65536) = false := decide_eq_false (by omega)
    rw [readF, if_neg hs] at h
    cases hit : Go.Proofs.YtehghdmfdinpjaaDoor.PAll.terms_reader_item.f k s 0 with
    | none => rw [hit] at h; cases h
    | some q =>
    obtain ⟨r1, r2, r3, r4, r5⟩ := q
    rw [hit] at h
    simp only at h
    have HIT := Lib.hid hit
    have HH := Lib.hid h
    clear hit h
    go_enter Tryd.func14, Tryd.ntmps14
    go_upto_region 4 with (first | ((with_reducible refine gate_dst (N := 2) rfl ?_); refine box_event ?hg (N := 2) ?hd (cs := #[.bool false, .string (⟨#[]⟩ : ByteArray), .slice none 0 0]) (t := 24) ?hr ?_; (case hd => rfl); (case hg => rfl); (case hr => first | (go_simp; done) | (go_simp; rfl)); intro b2 hg2 wb hbox hb2; have HB1 := Lib.hid hb2; have BX := Lib.hid hbox; have G2 := Lib.hid hg2; clear hb2 hbox hg2) | ((with_reducible refine gate_dst (N := 14) rfl ?_); refine box_event ?hg (N := 14) ?hd (cs := #[.string s]) (t := 70) ?hr ?_; (case hd => rfl); (case hg => rfl); (case hr => first | (go_simp; done) | (go_simp; rfl)); intro b14 hg14 wd hbox hb2; have HBD := Lib.hid (hb2 : Below wb.heap.size wb wd); have HRD := Lib.hid (show IsS70 wb wd b14 s from ⟨hbox, Nat.le_of_eq hg14.symm⟩); clear hb2 hbox hg14))
    go_upto_region 5 with (first | (go_at_call 33; refine (Go.Proofs.YtehghdmfdinpjaaDoor.PAll.terms_reader_item.calls k b14 s 0 r1 r2 r3 r4 r5 wb wd HRD.out HBD.out HIT.out).mono ?_; rintro e w5 ⟨v2, rfl, hR, hI, hb5, hk⟩; obtain ⟨A2, cc2, rfl, hl2, _⟩ := Kd.R_reads hR; have HR5 := Lib.hid hR; have HI5 := Lib.hid hI; have HB5 := Lib.hid hb5; clear hR hI hb5 hk))
    obtain ⟨w6, hw6⟩ : ∃ w6, w6 = w5.alloc (.cells #[.bool r1, .string r2, .slice A2 r3.length cc2] 24) := ⟨_, rfl⟩
    obtain ⟨b5, hb5⟩ : ∃ b5, b5 = w5.heap.size := ⟨_, rfl⟩
    rw [← hw6, ← hb5]
    have ha : Below w5.heap.size w5 w6 := by rw [hw6]; exact below_alloc (Below.refl _ _) _
    have hB6 : Below wb.heap.size wb w6 := HB5.out.trans (ha.mono HB5.out.size)
    have hI6 : IsS70 wb w6 b14 r5 := by rw [hw6]; exact IsS70.alloc HI5.out _
    have hBX : w6.heap[b2]? = some (.cells #[.bool false, .string (⟨#[]⟩ : ByteArray), .slice none 0 0] 24 (0, 0)) := blk_below BX.out hB6
    have hB5x : w6.heap[b5]? = some (.cells #[.bool r1, .string r2, .slice A2 r3.length cc2] 24 (0, 0)) := by rw [hw6, hb5]; exact blk_new _ _
    have h2lt : b2 < wb.heap.size := blk_lt BX.out
    have hne : b5 ≠ b2 := by have := HB5.out.size; omega
    have hR6 : k24.R 24 w6 wd.heap.size (fun k => k ≠ b2) (.slice A2 r3.length cc2) r3 := by
      rw [hw6]
      refine Kd.R_alloc (Kd.R_mono (Kd.R_bound HR5.out) (fun k hk => ?_)) _
      have := hk.2.1
      have := HBD.out.size
      omega
    have hB7 : Below w.heap.size w w6 := HB1.out.trans (hB6.mono HB1.out.size)
    have x14 : w6.cell? ⟨b14, 0, none⟩ = some (.string r5) := (blk_cell hI6.1 0).trans rfl
    have a0 := (blk_cell hBX 0).trans rfl
    have a1 := (blk_cell hBX 1).trans rfl
    have a2 := (blk_cell hBX 2).trans rfl
    have f0 := blk_frozen hBX 0
    have f1 := blk_frozen hBX 1
    have f2 := blk_frozen hBX 2
    have e0 := (blk_cell hB5x 0).trans rfl
    have e1 := (blk_cell hB5x 1).trans rfl
    have e2 := (blk_cell hB5x 2).trans rfl
    have BX6 := Lib.hid hBX
    have HR6 := Lib.hid hR6
    have HB7 := Lib.hid hB7
    clear hBX hR6 hB7 hB5x hI6 hB6 ha HR5 HI5 HB5 HIT BX HRD HBD h2lt
    have hcs : (r4 = true ∧ r5.toList.isEmpty = true ∧ x = ⟨r1, r2, r3⟩ ∧ er = none) ∨ ((r4 = false ∨ (r4 = true ∧ r5.toList.isEmpty = false)) ∧ x = z24 ∧ er = some 5) := by
      have := HH.out
      cases r4
      · simp at this
        exact .inr ⟨.inl rfl, this.1.symm, this.2.symm⟩
      · cases h5 : r5.toList.isEmpty
        · rw [h5] at this
          simp at this
          exact .inr ⟨.inr ⟨rfl, rfl⟩, this.1.symm, this.2.symm⟩
        · rw [h5] at this
          simp at this
          exact .inl ⟨rfl, rfl, this.1.symm, this.2.symm⟩
    clear HH hw6 hb5
    rcases hcs with ⟨rfl, h5, rfl, rfl⟩ | ⟨hcs, rfl, rfl⟩
    · go_wp2_with fail
      refine bodyPost_ret (results_row_tmp rfl _ _ b2 24 #[.bool r1, .string r2, .slice A2 r3.length cc2] (0, 0) _ rfl (heap_set3 BX6.out _ _ _) Tryd.underlying24 rfl infoSzF) rfl ?_
      obtain ⟨_, hl, hC⟩ := Kd.R_reads' (Kd.R_far (p := ⟨b2, 2, none⟩) (Kd.R_far (p := ⟨b2, 1, none⟩) (Kd.R_far (p := ⟨b2, 0, none⟩) HR6.out (fun _ h => h) (.bool r1)) (fun _ h => h) (.string r2)) (fun _ h => h) (.slice A2 r3.length cc2))
      exact ⟨_, rfl, ⟨A2, cc2, rfl, hl, hC⟩, below_set3 HB7.out (Nat.le_of_eq G2.out.symm) _ _ _⟩
    · rcases hcs with rfl | ⟨rfl, h5⟩
      all_goals
        go_wp2_with fail
        refine bodyPost_ret (results_row_tmp rfl _ _ b2 24 #[.bool false, .string (⟨#[]⟩ : ByteArray), .slice none 0 0] (0, 0) _ rfl (heap_set3 BX6.out _ _ _) Tryd.underlying24 rfl infoSzF) rfl ?_
        exact ⟨_, rfl, FormAt.zero _, below_set3 HB7.out (Nat.le_of_eq G2.out.symm) _ _ _⟩
#print axioms read_calls
end Go.Proofs.YtehghdmfdinpjaaDoorF
