/- Tree: the law's pager. -/
import Derived.Test.YtkmbkgjfhjjicaaTM
namespace Go.Proofs.YtkmbkgjfhjjicaaT
open Go.RowKit Go.Maps Go.Proofs Go.Proofs.YtkmbkgjfhjjicaaW.PrintWords Go.Proofs.YtkmbkgjfhjjicaaW.PrintLast

theorem own_exact {w : World} {P : Program} {k : TypeId} {R : Value → Option (DataW Unit × List MemPlace)} {b n : Nat} {D : DataW Unit} (h : w.ownsMap P k R b n D) : w.ownsMap P k R b (Maps.size D) D := by
  obtain ⟨es, clock, hb, F, hs, rfl⟩ := h
  exact ⟨es, clock, hb, F, by simp [Maps.size, length_sorted], rfl⟩
theorem PMap.store_old {w : World} {b n : Nat} {F : Int → Option ByteArray} (h : PMap w b n F) (hn : n < maxLen) {k : Int} (wk : (Lit.int .i64 k).wf = true) {s t : ByteArray} (hs : s.size ≤ maxLen) (hk : F k = some t) :
    ∃ w', (Instr.mapUpdate 41 (.map (some b)) (.int .i64 k) (.string s)).run Try.prog w = .ok () w' ∧ PMap w' b n (updM F k (some s)) ∧ w.mapTurned w' b := by
  obtain ⟨D, h, h1, h2⟩ := h.out
  obtain ⟨w', hrun, ho, ht⟩ := h.store intKey Try.underlying41 hn (keyI wk) (plainElem_string Try.underlying9 hs)
  have hsz : Maps.size (D.put (.int .i64 k) (.lit (.string s.data.toList))) ≤ n := by
    rw [size_put (h.tidy intKey), h1 k wk, hk]
    exact h.size_le
  have ho' := (own_exact ho).mono hsz
  refine ⟨w', hrun, ⟨⟨_, ho', fun j wj => ?_, fun j t wj hj z => ?_⟩⟩, ht⟩
  · unfold updM
    by_cases e : j = k
    · subst e
      rw [if_pos rfl, has_put_same h.isMap (litKey wk)]
      rfl
    · rw [if_neg e, has_put_other (lit_ne e), h1 j wj]
  · unfold updM at hj
    by_cases e : j = k
    · subst e
      rw [if_pos rfl] at hj
      cases hj
      rw [atKey_put_same h.isMap (litKey wk)]
    · rw [if_neg e] at hj
      rw [atKey_put_other (lit_ne e), h2 j t wj hj]
theorem PMap.mono {w : World} {b n n' : Nat} {F : Int → Option ByteArray} (h : PMap w b n F) (hn : n ≤ n') : PMap w b n' F := by
  obtain ⟨D, h, h1, h2⟩ := h.out
  exact ⟨⟨D, h.mono hn, h1, h2⟩⟩
/-! ### At the operations -/
section
variable (w : World) {ops : Array Oper} {rest : List Oper} {o : Oper} {a : Act} {Q : Exit → Act → World → Prop}
theorem wpList_store_P (hg : o.guard = none) (m x v : Operand) (hop : o.op = Op.mapUpdate 41 m x v) (b n : Nat) (F : Int → Option ByteArray) (hm : a.eval m = .map (some b)) (h : PMap w b n F) (hn : n < maxLen)
    (k : Int) (s : ByteArray) (hx : a.eval x = .int .i64 k) (hv : a.eval v = .string s) (wk : (Lit.int .i64 k).wf = true) (hs : s.size ≤ maxLen)
    (hq : ∀ w', PMap w' b (n + 1) (updM F k (some s)) → ((F k).isSome = true → PMap w' b n (updM F k (some s))) → w.mapTurned w' b → wpList Try.prog ops Q rest (a.put o.dst undef) w') : wpList Try.prog ops Q (o :: rest) a w := by
  refine wpList_plain hg fun K' hK' => ?_
  obtain ⟨w', hrun, r1, r2⟩ := h.store hn wk hs
  have r3 : (F k).isSome = true → PMap w' b n (updM F k (some s)) := fun hk => by
    obtain ⟨t, ht⟩ := Option.isSome_iff_exists.1 hk
    obtain ⟨w2, hrun2, r, _⟩ := h.store_old hn wk hs ht
    rw [hrun] at hrun2
    cases hrun2
    exact r
  unfold Oper.wp
  simp [execOp, hop, hm, hx, hv, hrun, Result.andThen]
  exact hK' _ _ (hq w' r1 r3 r2)
theorem wpList_drop_P (hg : o.guard = none) (m x : Operand) (hop : o.op = Op.call { callee := Callee.builtin Builtin.delete, args := #[m, x], argTypes := #[41, 3] }) (b n : Nat) (F : Int → Option ByteArray) (hm : a.eval m = .map (some b)) (h : PMap w b n F)
    (k : Int) (hx : a.eval x = .int .i64 k) (wk : (Lit.int .i64 k).wf = true)
    (hq : ∀ w', PMap w' b n (updM F k none) → w.mapTurned w' b → wpList Try.prog ops Q rest (a.put o.dst (.tuple #[])) w') : wpList Try.prog ops Q (o :: rest) a w := by
  refine wpList_plain hg fun K' hK' => ?_
  obtain ⟨w', hrun, r1, r2⟩ := h.drop wk o.type
  unfold Oper.wp
  simp [execOp, hop, resolve, invoke, builtin, hm, hx, hrun, Result.andThen]
  exact hK' _ _ (hq w' r1 r2)
end
/-! ### The pager -/
structure PgAt (w : World) (pp mb nx : Nat) (F : Int → Option ByteArray) : Prop where
  blk : w.heap[pp]? = some (.cells #[.map (some mb), .int .i64 (nx : Int), .int .i64 (-1), .bool false] 43 (0, 0))
  map : PMap w mb nx F
  small : nx < 9000000000
theorem PgAt.ne {w : World} {pp mb nx : Nat} {F : Int → Option ByteArray} (h : PgAt w pp mb nx F) : mb ≠ pp := h.map.not_cells h.blk
theorem PgAt.keep {w w' : World} {pp mb nx : Nat} {F : Int → Option ByteArray} (h : PgAt w pp mb nx F) (h1 : w'.heap[pp]? = w.heap[pp]?) (h2 : w'.heap[mb]? = w.heap[mb]?) : PgAt w' pp mb nx F := ⟨h1.trans h.blk, h.map.keep h2, h.small⟩
theorem PgAt.lt {w : World} {pp mb nx : Nat} {F : Int → Option ByteArray} (h : PgAt w pp mb nx F) : pp < w.heap.size ∧ mb < w.heap.size := ⟨(Array.getElem?_eq_some_iff.1 h.blk).1, h.map.lt⟩
theorem PgAt.below {w w' : World} {pp mb nx : Nat} {F : Int → Option ByteArray} (h : PgAt w pp mb nx F) (hb : Below w.heap.size w w') : PgAt w' pp mb nx F := h.keep (hb.block _ h.lt.1) (hb.block _ h.lt.2)
theorem turned_keep {w w' : World} {b : Nat} (h : w.mapTurned w' b) : Keep w w' (fun k => k ≠ b) := (Keep.of_grown h.grown).mono (fun k _ hk e => hk (Option.some.inj e).symm)
theorem wfI {k : Int} (h0 : -9223372036854775808 ≤ k) (h1 : k ≤ 9223372036854775807) : (Lit.int .i64 k).wf = true := by
  simp [Lit.wf, IntKind.min, IntKind.max, IntKind.signed, IntKind.bits]; omega
def pgp (pp : Nat) : Value := .pointer (some ⟨pp, 0, none⟩)
set_option maxHeartbeats 1000000 in
set_option maxRecDepth 100000 in
theorem get_calls {w : World} {pp mb nx : Nat} {F : Int → Option ByteArray} (h : PgAt w pp mb nx F) {k : Nat} (hk : k < 9000000000) {s : ByteArray} (hs : F k = some s) :
    Calls Try.prog 45 #[.pointer (some ⟨pp, 0, none⟩), .int .i64 (k : Int)] w fun e w' => e = .returned (.tuple #[.string s, .nilIface]) ∧ Below w.heap.size w w' := by
  have c0 := (blk_cell h.blk 0).trans rfl
  have hl := h.map.look (wfI (k := (k : Int)) (by omega) (by omega))
  rw [hs] at hl
  simp only [Option.getD_some, Option.isSome_some] at hl
  clear h
  go_enter Try.func45, Try.ntmps45
  go_wp2
  go_ret2
  exact ⟨rfl, Below.refl _ _⟩
set_option maxHeartbeats 1000000 in
set_option maxRecDepth 100000 in
theorem pput_calls {w : World} {pp mb nx : Nat} {F : Int → Option ByteArray} (h : PgAt w pp mb nx F) {k : Nat} (hk : k < 9000000000) {s t : ByteArray} (hs : F k = some t) (hl : s.size ≤ 512) :
    Calls Try.prog 47 #[.pointer (some ⟨pp, 0, none⟩), .int .i64 (k : Int), .string s] w fun e w' => e = .returned .nilIface ∧ PgAt w' pp mb nx (updM F k (some s)) ∧ Keep w w' (fun j => j ≠ mb) := by
  have c0 := (blk_cell h.blk 0).trans rfl
  have wk := wfI (k := (k : Int)) (by omega) (by omega)
  have hlk := h.map.look wk
  rw [hs] at hlk
  simp only [Option.getD_some, Option.isSome_some] at hlk
  have d1 : decide ((s.size : Int) > 512) = false := decide_eq_false (by omega)
  have H := Lib.hid h
  have HS := Lib.hid hs
  clear h hs
  go_enter Try.func47, Try.ntmps47
  go_wp2_with (first | (at_mapUpdate; refine wpList_store_P _ rfl _ _ _ rfl mb nx F rfl H.out.map (by have := H.out.small; unfold maxLen; omega) (k : Int) s rfl rfl wk (by unfold maxLen; omega) ?_; intro w2 _ hp2 ht2; have HP2 := Lib.hid (hp2 (by rw [HS.out]; rfl)); have HT2 := Lib.hid ht2; clear hp2 ht2))
  go_ret
  exact ⟨rfl, ⟨(turned_keep HT2.out).heap H.out.blk (fun e => H.out.ne e.symm), HP2.out, H.out.small⟩, turned_keep HT2.out⟩
set_option maxHeartbeats 1000000 in
set_option maxRecDepth 100000 in
theorem free_calls {w : World} {pp mb nx : Nat} {F : Int → Option ByteArray} (h : PgAt w pp mb nx F) {k : Nat} (hk : k < 9000000000) {t : ByteArray} (hs : F k = some t) :
    Calls Try.prog 44 #[.pointer (some ⟨pp, 0, none⟩), .int .i64 (k : Int)] w fun e w' => e = .returned .nilIface ∧ PgAt w' pp mb nx (updM F k none) ∧ Keep w w' (fun j => j ≠ mb) := by
  have c0 := (blk_cell h.blk 0).trans rfl
  have wk := wfI (k := (k : Int)) (by omega) (by omega)
  have hlk := h.map.look wk
  rw [hs] at hlk
  simp only [Option.getD_some, Option.isSome_some] at hlk
  have H := Lib.hid h
  clear h hs
  go_enter Try.func44, Try.ntmps44
  go_wp2_with (first | (at_delete; refine wpList_drop_P _ rfl _ _ rfl mb nx F rfl H.out.map (k : Int) rfl wk ?_; intro w2 hp2 ht2; have HP2 := Lib.hid hp2; have HT2 := Lib.hid ht2; clear hp2 ht2))
  go_ret
  exact ⟨rfl, ⟨(turned_keep HT2.out).heap H.out.blk (fun e => H.out.ne e.symm), HP2.out, H.out.small⟩, turned_keep HT2.out⟩
#print axioms free_calls
end Go.Proofs.YtkmbkgjfhjjicaaT
