/- knots.next walked. (Printed by mkKN.py.) -/
import Derived.Test.YtgbeigippahbaaaKM
import Derived.Deep.WholeRow
namespace Go.Proofs.YtgbeigippahbaaaK
open Go.RowKit Go.Proofs Go.Proofs.YtgbeigippahbaaaW.PrintWords Go.Proofs.YtgbeigippahbaaaW.PrintLast

/-- The outer list, and a list for each thing. -/
structure Lists (w : World) (B g0 n : Nat) (V : Nat → Value) (F : Nat → List Nat) : Prop where
  outer : w.heap[g0]? = some (.cells ((List.range n).map V).toArray 24 (0, 0))
  base : B ≤ g0
  row : ∀ v, v < n → w.ownsRow B 3 1 (V v) (F v).length ((F v).map iv)
  apart : ∀ u v, u < n → v < n → u ≠ v → ∀ k, (V u).ownBlock = some k → (V v).ownBlock ≠ some k
theorem Lists.ne {w : World} {B g0 n : Nat} {V : Nat → Value} {F : Nat → List Nat} (h : Lists w B g0 n V F) {v : Nat} (hv : v < n) : (V v).ownBlock ≠ some g0 := fun e => own_ne (h.row v hv) h.outer (by decide) e.symm
theorem Lists.more {w w' : World} {B g0 n : Nat} {V : Nat → Value} {F : Nat → List Nat} (h : Lists w B g0 n V F) (hk : Keep w w' (fun k => k < w.heap.size)) : Lists w' B g0 n V F :=
  ⟨hk.heap h.outer (Array.getElem?_eq_some_iff.1 h.outer).1, h.base, fun v hv => own_keep (h.row v hv) (fun k hkk => hk.block k (own_lt' (h.row v hv) hkk) (own_lt' (h.row v hv) hkk)), h.apart⟩
theorem range_map_set {α : Type} (n : Nat) (V : Nat → α) (x : Nat) (u : α) : ((List.range n).map V).set x u = (List.range n).map (fun v => if v = x then u else V v) := by
  apply List.ext_getElem
  · simp
  · intro k h1 h2
    simp only [List.getElem_set, List.getElem_map, List.getElem_range]
    by_cases e : x = k
    · rw [if_pos e, if_pos e.symm]
    · rw [if_neg e, if_neg (Ne.symm e)]
/-- One list has grown. -/
theorem Lists.put {w w6 : World} {B g0 n : Nat} {V : Nat → Value} {F : Nat → List Nat} (h : Lists w B g0 n V F) {x y : Nat} (hx : x < n) {v1 : Value} (hown : w6.ownsRow B 3 1 v1 ((F x).length + 1) ((F x).map iv ++ [iv y])) (hg : w.grownBy w6 (V x).ownBlock) (hat : v1.ownBlock = (V x).ownBlock ∨ ∃ b, v1.ownBlock = some b ∧ w.heap.size ≤ b) :
    Lists (w6.setCell ⟨g0, x, none⟩ v1) B g0 n (fun v => if v = x then v1 else V v) (fun v => if v = x then F x ++ [y] else F v) := by
  have h6 : w6.heap[g0]? = some (.cells ((List.range n).map V).toArray 24 (0, 0)) := (hg.block g0 (Array.getElem?_eq_some_iff.1 h.outer).1 (fun e => h.ne hx e.symm)).trans h.outer
  have ne1 : ∀ k, v1.ownBlock = some k → k ≠ g0 := fun k hk e => by
    rcases hat with hat | ⟨b, hb, hle⟩
    · exact h.ne hx (by rw [← hat, hk, e])
    · rw [hb] at hk
      injection hk with hk
      have := (Array.getElem?_eq_some_iff.1 h.outer).1
      omega
  refine ⟨?_, h.base, fun v hv => ?_, fun u v hu hv huv k hk => ?_⟩
  · rw [heap_set h6]
    congr 2
    rw [← range_map_set]
    simp
  · by_cases e : v = x
    · simp only [if_pos e]
      rw [List.map_append, List.length_append]
      exact own_keep hown (fun k hk => Below.heap_setCell _ _ _ _ (ne1 k hk))
    · simp only [if_neg e]
      refine own_keep (h.row v hv) (fun k hk => ?_)
      rw [Below.heap_setCell _ _ _ _ (fun e2 => h.ne hv (by rw [hk]; exact congrArg some e2))]
      exact hg.block k (own_lt' (h.row v hv) hk) (fun e2 => h.apart v x hv hx e k hk e2.symm)
  · have fresh : ∀ u, u < n → u ≠ x → ∀ k, (V u).ownBlock = some k → v1.ownBlock ≠ some k := fun u hu hux k hk e => by
      rcases hat with hat | ⟨b, hb, hle⟩
      · exact h.apart u x hu hx hux k hk (by rw [← hat]; exact e)
      · rw [hb] at e
        injection e with e
        have := own_lt' (h.row u hu) hk
        omega
    by_cases e1 : u = x
    · simp only [if_pos e1] at hk
      have e2 : v ≠ x := fun e => huv (e1.trans e.symm)
      simp only [if_neg e2]
      exact fun e => fresh v hv e2 k e hk
    · simp only [if_neg e1] at hk
      by_cases e2 : v = x
      · simp only [if_pos e2]
        exact fresh u hu e1 k hk
      · simp only [if_neg e2]
        exact h.apart u v hu hv huv k hk
theorem Lists.out {w : World} {B g0 n : Nat} {V : Nat → Value} {F : Nat → List Nat} (h : Lists w B g0 n V F) : OutAt w w.heap.size g0 n F := by
  refine ⟨(Array.getElem?_eq_some_iff.1 h.outer).1, fun v hv => ?_⟩
  have hc : w.cell? ⟨g0, v, none⟩ = some (V v) := by
    rw [cell_of_row w g0 v _ _ (0, 0) h.outer, List.getElem?_toArray, List.getElem?_map, List.getElem?_range hv]
    rfl
  rcases (h.row v hv).2 with ⟨e, hn⟩ | ⟨g, cap, cur, e, _, hh, hr⟩
  · have hz : (F v).length = 0 := by omega
    refine ⟨none, 0, by rw [hc, e, hz], by omega, fun k hk => by omega⟩
  · refine ⟨some ⟨g, 0, none⟩, cap, by rw [hc, e], by omega, fun k hk => ⟨g, rfl, (Array.getElem?_eq_some_iff.1 hh).1, ?_⟩⟩
    have := (h.row v hv).cells (by rw [e]; rfl) k (iv ((F v).getD k 0)) (by rw [List.getElem?_map, List.getElem?_eq_getElem hk, List.getD_eq_getElem?_getD, List.getElem?_eq_getElem hk]; rfl)
    rwa [add_plain] at this
theorem store_whole {P : Program} {ops : Array Oper} {rest : List Oper} {o : Oper} {a : Act} {W : World} {Q : Exit → Act → World → Prop} (hgd : o.guard = none) (ty : TypeId) (x y : Operand) (ho : o.op = .store ty x y)
    (g : Nat) (cells : Array Value) (hx : a.eval x = .pointer (some ⟨g, 0, none⟩)) (hy : a.eval y = .agg cells)
    (t : TypeId) (old : Array Value) (hg : W.heap[g]? = some (.cells old t (0, 0))) (hi : (P.info? ty).map (·.size) = some cells.size) (hold : old.size = cells.size) (h1 : cells.all (·.oneCell') = true)
    (h : ∀ w2, w2.heap[g]? = some (.cells cells t (0, 0)) → Keep W w2 (fun k => k ≠ g) → wpList P ops Q rest (a.put o.dst undef) w2) : wpList P ops Q (o :: rest) a W := by
  refine wpList_store_row hgd ty x y ho g cells hx hy t old hg hi hold h1 (h _ ?_ ⟨rfl, rfl, rfl, by simp [World.setRow], fun k _ hk => ?_⟩)
  · simp only [World.setRow, Array.getElem?_modify]
    rw [if_pos trivial, hg]
    rfl
  · simp only [World.setRow, Array.getElem?_modify]
    rw [if_neg (fun e => hk e.symm)]
theorem edC_one (e : Edge) : (edC e).toArray.all (·.oneCell') = true := by simp [edC, Value.oneCell']
def NextEnd (w : World) (n : Nat) (es : List Edge) (e : Ending) (w' : World) : Prop :=
  ∃ g0, e = .returned (.slice (some ⟨g0, 0, none⟩) n n) ∧ OutAt w' w'.heap.size g0 n (adjE n es) ∧ Below w.heap.size w w'
theorem infoSl : (Try.prog.info? 24).map (fun i => (i.zero, i.size, i.bytes)) = some (some (.slice none 0 0), 1, 24) := by kernel_rfl
theorem cells_nil (m : Nat) : madeCells (Value.slice none 0 0).cells (m * 1) = ((List.range m).map (fun _ => Value.slice none 0 0)).toArray := by
  apply Array.ext
  · rw [size_madeCells]; simp
  · intro k hk hk'
    simp [madeCells, Value.cells, Nat.mod_one]
set_option maxRecDepth 100000 in
set_option maxHeartbeats 4000000 in
theorem next_calls {w : World} {A : Option Addr} {c : Nat} (n : Nat) (es : List Edge) (hE : EdgesAt w A es) (hn : 1 ≤ n) (hn' : n ≤ 100000) (he : es.length ≤ 1000000) :
    Calls Try.prog 14 #[.int .i64 (n : Int), .slice A es.length c] w (NextEnd w n es) := by
  obtain ⟨i, hi, hi'⟩ := Option.map_eq_some_iff.1 infoSl
  injection hi' with hz hi'
  injection hi' with hs hb
  have hmk := run_make (P := Try.prog) w 33 24 i _ Try.underlying33 hi hz .i64 .i64 (n : Int) (n : Int) (by omega) (Int.le_refl _) (by rw [hb]; omega) (by omega)
  rw [hs, Int.toNat_natCast, cells_nil] at hmk
  have HE := Lib.hid hE
  clear hE
  go_enter Try.func14, Try.ntmps14
  go_wp2_with fail
  obtain ⟨Z, hZ⟩ : ∃ Z : Array Value, Z = #[.int .i64 0, .int .i64 0] := ⟨_, rfl⟩
  have hzz := (zero_of_info infoPair).1
  have hzs : Z.size = 2 := by rw [hZ]; rfl
  rw [← hZ] at hzz
  have hzne : (Z = #[]) = False := by rw [eq_iff_iff, iff_false]; rintro rfl; simp at hzs
  have HZZ := Lib.hid hzz
  have HZS := Lib.hid hzs
  clear hzz hzs hZ
  go_loopw [12] (fun v wr => ∃ (j : Nat) (V : Nat → Value), v = .int .i64 j ∧ j ≤ es.length ∧ Hid (Lists wr w.heap.size w.heap.size n V (adjE n (es.take j))) ∧ Hid (Below w.heap.size w wr)) (fun v _ => es.length - (intOf v).toNat)
  case atStart =>
    refine ⟨0, fun _ => .slice none 0 0, rfl, by omega, Lib.hid ⟨heap_alloc_last w _, Nat.le_refl _, fun v _ => ⟨by simp [adjE], .inl ⟨rfl, by simp [adjE]⟩⟩, fun u v _ _ _ k hk => by cases hk⟩, Lib.hid (below_alloc (Below.refl _ _) _)⟩
  case round =>
    obtain ⟨j, V, rfl, hj, HL, HB0⟩ := hrel
    by_cases hjl : j < es.length
    · have dj : decide ((j : Int) < (es.length : Int)) = true := decide_eq_true (by omega)
      have hwj : IntKind.i64.wrap ((j : Int) + 1) = ((j + 1 : Nat) : Int) := by rw [IntWalk.i64_in _ (by omega)]; rfl
      have hEr := HE.out.below (w' := wr) HB0.out
      obtain ⟨ad, rfl, hcs⟩ := hEr.2 j hjl
      obtain ⟨⟨x, y⟩, hxy⟩ : ∃ e, e = es.getD j (0, 0) := ⟨_, rfl⟩
      rw [← hxy] at hcs
      have HCS := Lib.hid hcs
      have HXY := Lib.hid (show es.take (j + 1) = es.take j ++ [(x, y)] by rw [List.take_add_one, hxy, List.getD_eq_getElem?_getD, List.getElem?_eq_getElem hjl]; rfl)
      clear hcs hEr hxy
      go_upto_region 5 with (first | ((with_reducible refine gate_dst (N := 15) rfl ?_); refine wpList_load_any rfl 30 (.tmp 14) rfl (ad.add (j * 2)) rfl (edC (x, y)) _ HCS.out Try.underlying30 rfl ((zero_of_info infoPair).2) ?_) | ((with_reducible refine gate_dst (N := 7) rfl ?_); refine box_event ?hg (N := 7) ?hd (cs := Z) (t := 30) ?hr ?_; (case hd => rfl); (case hg => rfl); (case hr => have hyz := HZZ.out; first | (go_simp; done) | (go_simp; rfl)); intro gb hg w22 hbox hb; have HBX := Lib.hid hbox; have HB := Lib.hid hb; have HG := Lib.hid hg; clear hbox hb hg) | ((with_reducible refine gate_store (t := 30) (p := 7) rfl ?_); refine store_whole rfl 30 (.tmp 7) (.tmp 15) rfl gb (edC (x, y)).toArray rfl rfl 30 Z HBX.out ((zero_of_info infoPair).2) HZS.out (edC_one _) ?_; intro w23 hw23 hk23; have HW := Lib.hid hw23; have HK := Lib.hid ((Keep.of_below (ok := fun k => k < wr.heap.size) HB.out (Nat.le_refl _)).trans (hk23.mono (fun k _ h => by rw [HG.out]; omega))); clear hw23 hk23))
      have c0 : w23.cell? ⟨gb, 0, none⟩ = some (.int .i64 x) := (cell_of_row w23 gb 0 _ _ (0, 0) HW.out).trans rfl
      have c1 : w23.cell? ⟨gb, 1, none⟩ = some (.int .i64 y) := (cell_of_row w23 gb 1 _ _ (0, 0) HW.out).trans rfl
      have HL3 := Lib.hid (HL.out.more HK.out)
      have HB3 := Lib.hid (HB0.out.trans (HK.out.below HB0.out.size (fun k hk => Nat.lt_of_lt_of_le hk HB0.out.size)))
      by_cases hok : okE n (x, y) = true
      · have hok' := hok
        simp only [okE, Bool.and_eq_true, decide_eq_true_eq] at hok'
        obtain ⟨⟨⟨h1, h2⟩, h3⟩, h4⟩ := hok'
        have d1 : decide (x ≥ 0) = true := decide_eq_true h1
        have d2 : decide (x < (n : Int)) = true := decide_eq_true h2
        have d3 : decide (y ≥ 0) = true := decide_eq_true h3
        have d4 : decide (y < (n : Int)) = true := decide_eq_true h4
        have H1 := Lib.hid h1
        have H2 := Lib.hid h2
        have H3 := Lib.hid h3
        have H4 := Lib.hid h4
        have HOK := Lib.hid hok
        clear h1 h2 h3 h4 hok
        go_upto_region 6 with fail
        clear d1 d2 d3 d4
        have h1 := H1.out
        have h2 := H2.out
        have h3 := H3.out
        have h4 := H4.out
        have hok := HOK.out
        clear H1 H2 H3 H4 HOK
        obtain ⟨a, rfl⟩ := Int.eq_ofNat_of_zero_le h1
        obtain ⟨b, rfl⟩ := Int.eq_ofNat_of_zero_le h3
        have han : a < n := by omega
        obtain ⟨F, hF⟩ : ∃ F, F = adjE n (es.take j) := ⟨_, rfl⟩
        rw [← hF] at HL3
        have HF := Lib.hid (show adjE n (es.take (j + 1)) = fun v => if v = a then F a ++ [b] else F v from by
          funext v
          rw [HXY.out, adjE_snoc, ← hF, hok]
          by_cases e : v = a
          · subst e; simp
          · have e' : ¬ ((a : Int) = (v : Int)) := by omega
            simp [e, e'])
        have FL := Lib.hid (show ∀ v, (F v).length ≤ 1000000 from fun v => by
          rw [hF]
          exact Nat.le_trans (adjE_len _ _ _) (by rw [List.length_take]; omega))
        clear hF hok h1 h2 h3 h4
        obtain ⟨w5, hw5⟩ : ∃ w5, w5 = w23.drew := ⟨_, rfl⟩
        have HL5 := Lib.hid (show Lists w5 w.heap.size w.heap.size n V F by rw [hw5]; exact HL3.out.more (Keep.drew _ _))
        have HB5 := Lib.hid (show Below w.heap.size w w5 by rw [hw5]; exact HB3.out.trans ⟨rfl, rfl, rfl, Nat.le_refl _, fun _ _ => rfl⟩)
        have A0 := Lib.hid (show w5.cell? ⟨gb, 0, none⟩ = some (.int .i64 (a : Int)) by rw [hw5]; exact c0)
        have A1 := Lib.hid (show w5.cell? ⟨gb, 1, none⟩ = some (.int .i64 (b : Int)) by rw [hw5]; exact c1)
        have A2 := Lib.hid (show w5.cell? ⟨w.heap.size, a, none⟩ = some (V a) by
          rw [cell_of_row w5 w.heap.size a _ _ (0, 0) HL5.out.outer, List.getElem?_toArray, List.getElem?_map, List.getElem?_range han]
          rfl)
        have AR := Lib.hid (HL5.out.row a han)
        have AB := Lib.hid HB5.out.size
        have AG := Lib.hid (Array.getElem?_eq_some_iff.1 HL5.out.outer).1
        have AF := Lib.hid (show w5.frozen? ⟨w.heap.size, a, none⟩ = false by simp [World.frozen?, HL5.out.outer])
        have GO := Lib.hid (HL5.out.ne han)
        have GB := Lib.hid (show (V a).ownBlock ≠ some gb from fun e => by
          have := own_lt' (HL.out.row a han) e
          have := HG.out
          omega)
        have HW5 := Lib.hid hw5
        clear hw5 c0 c1
        refine start_ (n := 14) (S := fun w' => w'.cell? ⟨gb, 0, none⟩ = some (.int .i64 (a : Int)) ∧ w'.cell? ⟨gb, 1, none⟩ = some (.int .i64 (b : Int)) ∧ w'.cell? ⟨w.heap.size, a, none⟩ = some (V a)) (ds := [13]) #[false, false, false, false, false, false, false, false, false, false, false, false, false, false] (by kernel_rfl) rfl rfl ⟨(by rw [← HW5.out]; exact A0.out), (by rw [← HW5.out]; exact A1.out), (by rw [← HW5.out]; exact A2.out)⟩ (fun hHeld => ?_)
        rw [← HW5.out] at hHeld ⊢
        refine pure_ (i := 0) (N := some 36) (v := ?_) (a' := ?_) #[true, false, false, false, false, false, false, false, false, false, false, false, false, false] rfl rfl (by kernel_rfl) (fun _ _ _ h => h) (Or.inl ⟨by rfl, ?_⟩) ?_ ?_
        rotate_left
        · intro w'
          go_simp
          with_reducible rfl
        rotate_left
        · simp only [Act.put, List.setIfInBounds_toArray, List.set_cons_zero, List.set_cons_succ]
          rfl
        refine pure_ (i := 1) (N := some 37) (v := ?_) (a' := ?_) #[true, true, false, false, false, false, false, false, false, false, false, false, false, false] rfl rfl (by kernel_rfl) (fun _ _ _ h => h) (Or.inl ⟨by rfl, ?_⟩) ?_ ?_
        rotate_left
        · intro w'
          go_simp
          with_reducible rfl
        rotate_left
        · simp only [Act.put, List.setIfInBounds_toArray, List.set_cons_zero, List.set_cons_succ]
          rfl
        refine pure_ (i := 3) (N := some 39) (v := ?_) (a' := ?_) #[true, true, false, true, false, false, false, false, false, false, false, false, false, false] rfl rfl (by kernel_rfl) (fun _ _ _ h => h) (Or.inl ⟨by rfl, ?_⟩) ?_ ?_
        rotate_left
        · intro w'
          go_simp
          with_reducible rfl
        rotate_left
        · simp only [Act.put, List.setIfInBounds_toArray, List.set_cons_zero, List.set_cons_succ]
          rfl
        refine pure_ (i := 4) (N := some 40) (v := ?_) (a' := ?_) #[true, true, false, true, true, false, false, false, false, false, false, false, false, false] rfl rfl (by kernel_rfl) (fun _ _ _ h => h) (Or.inl ⟨by rfl, ?_⟩) ?_ ?_
        rotate_left
        · intro w'
          go_simp
          with_reducible rfl
        rotate_left
        · simp only [Act.put, List.setIfInBounds_toArray, List.set_cons_zero, List.set_cons_succ]
          rfl
        refine pure_ (i := 8) (N := some 44) (v := ?_) (a' := ?_) #[true, true, false, true, true, false, false, false, true, false, false, false, false, false] rfl rfl (by kernel_rfl) (fun _ _ _ h => h) (Or.inl ⟨by rfl, ?_⟩) ?_ ?_
        rotate_left
        · intro w'
          go_simp
          with_reducible rfl
        rotate_left
        · simp only [Act.put, List.setIfInBounds_toArray, List.set_cons_zero, List.set_cons_succ]
          rfl
        refine take_ (i := 2) (N := some 38) (v := ?_) (a' := ?_) #[true, true, true, true, true, false, false, false, true, false, false, false, false, false] rfl rfl (by kernel_rfl) (fun _ _ _ h => h) (Or.inl ⟨by rfl, ?_⟩) hHeld ?_ ?_
        rotate_left
        · rintro w' ⟨s0, s1, s2⟩
          go_simp
          with_reducible rfl
        rotate_left
        · simp only [Act.put, List.setIfInBounds_toArray, List.set_cons_zero, List.set_cons_succ]
          rfl
        refine take_ (i := 5) (N := some 41) (v := ?_) (a' := ?_) #[true, true, true, true, true, true, false, false, true, false, false, false, false, false] rfl rfl (by kernel_rfl) (fun _ _ _ h => h) (Or.inl ⟨by rfl, ?_⟩) hHeld ?_ ?_
        rotate_left
        · rintro w' ⟨s0, s1, s2⟩
          go_simp
          with_reducible rfl
        rotate_left
        · simp only [Act.put, List.setIfInBounds_toArray, List.set_cons_zero, List.set_cons_succ]
          rfl
        refine pure_ (i := 6) (N := some 42) (v := ?_) (a' := ?_) #[true, true, true, true, true, true, true, false, true, false, false, false, false, false] rfl rfl (by kernel_rfl) (fun _ _ _ h => h) (Or.inl ⟨by rfl, ?_⟩) ?_ ?_
        rotate_left
        · intro w'
          go_simp
          with_reducible rfl
        rotate_left
        · simp only [Act.put, List.setIfInBounds_toArray, List.set_cons_zero, List.set_cons_succ]
          rfl
        refine take_ (i := 7) (N := some 43) (v := ?_) (a' := ?_) #[true, true, true, true, true, true, true, true, true, false, false, false, false, false] rfl rfl (by kernel_rfl) (fun _ _ _ h => h) (Or.inl ⟨by rfl, ?_⟩) hHeld ?_ ?_
        rotate_left
        · rintro w' ⟨s0, s1, s2⟩
          go_simp
          with_reducible rfl
        rotate_left
        · simp only [Act.put, List.setIfInBounds_toArray, List.set_cons_zero, List.set_cons_succ]
          rfl
        refine take_ (i := 9) (N := some 45) (v := ?_) (a' := ?_) #[true, true, true, true, true, true, true, true, true, true, false, false, false, false] rfl rfl (by kernel_rfl) (fun _ _ _ h => h) (Or.inl ⟨by rfl, ?_⟩) hHeld ?_ ?_
        rotate_left
        · rintro w' ⟨s0, s1, s2⟩
          go_simp
          with_reducible rfl
        rotate_left
        · simp only [Act.put, List.setIfInBounds_toArray, List.set_cons_zero, List.set_cons_succ]
          rfl
        refine one_ (i := 10) (N := some 46) #[true, true, true, true, true, true, true, true, true, true, true, false, false, false] rfl rfl (by kernel_rfl) (by decide) (fun K hK => ?_)
        refine value_ (v := .slice (some ⟨w5.heap.size, 0, none⟩) 1 1) (w1 := w5.alloc (.cells [iv b].toArray 3)) (by rfl) rfl (exec_bs rfl [(0, iv b)] (by simp only [List.map_toArray, List.map_cons, List.map_nil]; rfl) (slice_one b w5)) ?_
        refine hK.out _ _ ⟨pw_cell_below (below_alloc (Below.refl _ _) _) A0.out, pw_cell_below (below_alloc (Below.refl _ _) _) A1.out, pw_cell_below (below_alloc (Below.refl _ _) _) A2.out⟩ (fun hHeld => ?_)
        clear hK K
        refine norm_ (a' := ?_) ?_ ?_
        rotate_left
        · show Act.put _ (some 46) _ = _
          simp only [Act.put, List.setIfInBounds_toArray, List.set_cons_zero, List.set_cons_succ]
          rfl
        refine one_ (i := 11) (N := some 47) #[true, true, true, true, true, true, true, true, true, true, true, true, false, false] rfl rfl (by kernel_rfl) (by decide) (fun K hK => ?_)
        refine step_append_cells (w0 := w5) w.heap.size (by rfl) (.tmp 43) (.tmp 46) 24 3 _ 1 8 rfl Try.underlying24 infoInt rfl (by omega) (by omega) (V a) (F a).length ((F a).map iv) [iv b] rfl rfl rfl (by simp [Value.oneCell']) AR.out (Below.refl _ _) AB.out (by have := FL.out a; omega) ?_
        intro v1 w6 hown hbe hg hat
        have HOWN := Lib.hid hown; have HG := Lib.hid hg; have HAT := Lib.hid hat
        have b0 := HG.out.cell_keep A0.out GB.out
        have b1 := HG.out.cell_keep A1.out GB.out
        have b2 := HG.out.cell_keep A2.out GO.out
        have f2 : w6.frozen? ⟨w.heap.size, a, none⟩ = false := (World.frozen?_of_block (a := ⟨w.heap.size, a, none⟩) (HG.out.block w.heap.size AG.out (fun e => GO.out e.symm))).trans AF.out
        obtain ⟨gv, cv, rfl, hgv1, hgv2⟩ := hown.form (by omega)
        clear hown hbe hg hat
        refine hK.out _ _ ⟨b0, b1, b2⟩ (fun hHeld => ?_)
        clear hK K
        refine norm_ (a' := ?_) ?_ ?_
        rotate_left
        · show Act.put _ (some 47) _ = _
          simp only [Act.put, List.setIfInBounds_toArray, List.set_cons_zero, List.set_cons_succ]
          rfl
        refine pure_ (i := 12) (N := some 48) (v := ?_) (a' := ?_) #[true, true, true, true, true, true, true, true, true, true, true, true, true, false] rfl rfl (by kernel_rfl) (fun _ _ _ h => h) (Or.inl ⟨by rfl, ?_⟩) ?_ ?_
        rotate_left
        · intro w'
          go_simp
          with_reducible rfl
        rotate_left
        · simp only [Act.put, List.setIfInBounds_toArray, List.set_cons_zero, List.set_cons_succ]
          rfl
        refine last_ (i := 13) (N := none) #[true, true, true, true, true, true, true, true, true, true, true, true, true, true] rfl rfl (by kernel_rfl) (by decide) (fun K hK => ?_)
        refine skip_ (w1 := ?_) (by rfl) rfl ?_ ?_
        rotate_left
        · go_simp
          rfl
        refine hK.out _ _ ?_
        clear hK K
        refine done_ (by kernel_rfl) ?_

        go_wp2
        go_roundw
        case rel =>
          have e6 : Lists (w6.setCell ⟨w.heap.size, a, none⟩ (.slice (some ⟨gv, 0, none⟩) ((F a).length + 1) cv)) w.heap.size w.heap.size n (fun v => if v = a then .slice (some ⟨gv, 0, none⟩) ((F a).length + 1) cv else V v) (fun v => if v = a then F a ++ [b] else F v) := by
            exact HL5.out.put han (by have := HOWN.out; simpa using this) HG.out HAT.out
          have k6 : Below w.heap.size w w6 := HB5.out.trans ((Keep.of_grown HG.out).below HB5.out.size (fun k hk e => by have := own_base AR.out k e; omega))
          refine ⟨j + 1, _, by go_num, by omega, Lib.hid (by rw [HF.out]; exact e6), Lib.hid (k6.trans ((Keep.setCell (ok := fun k => k ≠ w.heap.size) w6 _ _ (fun h => h rfl)).below k6.size (fun k hk => by omega)))⟩
        case measure => simp [intOf]; omega
      · have same : ∀ v, adjE n (es.take (j + 1)) v = adjE n (es.take j) v := fun v => by
          rw [HXY.out, adjE_snoc, if_neg (by simp [hok]), List.append_nil]
        have SAME := Lib.hid (show adjE n (es.take (j + 1)) = adjE n (es.take j) from funext same)
        have four : (decide (x ≥ 0) = false) ∨ (decide (x ≥ 0) = true ∧ decide (x < (n : Int)) = false) ∨ (decide (x ≥ 0) = true ∧ decide (x < (n : Int)) = true ∧ decide (y ≥ 0) = false) ∨ (decide (x ≥ 0) = true ∧ decide (x < (n : Int)) = true ∧ decide (y ≥ 0) = true ∧ decide (y < (n : Int)) = false) := by
          simp only [okE, Bool.and_eq_true, decide_eq_true_eq] at hok
          simp only [decide_eq_false_iff_not, decide_eq_true_eq]
          omega
        clear same hok
        rcases four with d1 | ⟨d1, d2⟩ | ⟨d1, d2, d3⟩ | ⟨d1, d2, d3, d4⟩
        all_goals
          go_wp2
          go_roundw
          case rel => exact ⟨j + 1, V, by go_num, by omega, Lib.hid (by rw [SAME.out]; exact HL3.out), Lib.hid HB3.out⟩
          case measure => simp [intOf]; omega
    · have dj : decide ((j : Int) < (es.length : Int)) = false := decide_eq_false (by omega)
      obtain rfl : j = es.length := by omega
      rw [List.take_length] at HL
      go_wp2
      go_ret
      exact ⟨w.heap.size, rfl, HL.out.out, HB0.out⟩
#print axioms next_calls
end Go.Proofs.YtgbeigippahbaaaK
