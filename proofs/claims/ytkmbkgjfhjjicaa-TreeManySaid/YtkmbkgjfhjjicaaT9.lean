/- Tree: the law's map of keys in cells. -/
import Derived.Test.YtkmbkgjfhjjicaaT8
import Derived.StringKeys
namespace Go.Proofs.YtkmbkgjfhjjicaaT
open Go.RowKit Go.Maps Go.Proofs Go.Proofs.YtkmbkgjfhjjicaaW.PrintWords Go.Proofs.YtkmbkgjfhjjicaaW.PrintLast

structure SMap (w : World) (b : Nat) (K : List Nat) : Prop where
  out : ∃ D : DataW Unit, w.ownsMap Try.prog 9 (plainElem Try.prog 4) b K.length D ∧ Maps.size D = K.length ∧ (∀ n, n < 65536 → Maps.has D (.string (keyOf n).data.toList) = decide (n ∈ K)) ∧ (∀ n, n ∈ K → n < 65536 → ∀ z, D.atKey (.string (keyOf n).data.toList) z = .lit (.bool true))
theorem strKey : Keyed Try.prog 9 := string_keyed Try.underlying9
theorem keyS (n : Nat) : Go.keyOf Try.prog 9 (.string (keyOf n)) = some (.string (keyOf n).data.toList) := Go.WideMaps.keyOf_string_mk Try.underlying9 (by rw [key_size]; unfold maxLen; decide)
theorem zeroB (w : World) : (zeroValue 4).run Try.prog w = .ok (.bool false) w := by kernel_rfl
theorem SMap.made (w : World) : SMap (w.alloc (.map #[] 0)) w.heap.size [] := ⟨⟨.map [], World.ownsMap_made w _ _ _, rfl, fun n _ => rfl, fun n h => by simp at h⟩⟩
theorem SMap.lt {w : World} {b : Nat} {K : List Nat} (h : SMap w b K) : b < w.heap.size := by
  obtain ⟨D, h, _⟩ := h.out
  exact h.lt
theorem SMap.keep {w w' : World} {b : Nat} {K : List Nat} (h : SMap w b K) (hk : w'.heap[b]? = w.heap[b]?) : SMap w' b K := by
  obtain ⟨D, ⟨es, cl, h, hr⟩, h1, h2⟩ := h.out
  exact ⟨⟨D, ⟨es, cl, hk.trans h, hr⟩, h1, h2⟩⟩
theorem SMap.below {w w' : World} {b : Nat} {K : List Nat} (h : SMap w b K) (hb : Below w.heap.size w w') : SMap w' b K := h.keep (hb.block b h.lt)
theorem SMap.not_cells {w : World} {b : Nat} {K : List Nat} (h : SMap w b K) {k : Nat} {cs : Array Value} {t : TypeId} {fr : Nat × Nat} (hk : w.heap[k]? = some (.cells cs t fr)) : b ≠ k := by
  obtain ⟨D, ⟨es, cl, h, _⟩, _⟩ := h.out
  rintro rfl
  rw [h] at hk
  cases hk
theorem keyData_ne {a b : Nat} (ha : a < 65536) (hb : b < 65536) (h : a ≠ b) : Lit.string (keyOf a).data.toList ≠ Lit.string (keyOf b).data.toList := fun e => by
  injection e with e
  exact h (key_inj ha hb (ByteArray.ext (Array.ext' e)))
theorem SMap.store {w : World} {b : Nat} {K K' : List Nat} (h : SMap w b K) (hn : K.length < 100000) {n : Nat} (hn2 : n < 65536) (hlen : K'.length = if n ∈ K then K.length else K.length + 1) (hm : ∀ x, x ∈ K' ↔ x = n ∨ x ∈ K) :
    ∃ w', (Instr.mapUpdate 27 (.map (some b)) (.string (keyOf n)) (.bool true)).run Try.prog w = .ok () w' ∧ SMap w' b K' ∧ w.mapTurned w' b := by
  obtain ⟨D, h, hs, h1, h2⟩ := h.out
  obtain ⟨w', hrun, ho, ht⟩ := h.store strKey Try.underlying27 (by unfold maxLen; omega) (keyS n) (plainElem_bool Try.underlying4 true)
  have hk := strKey.key (keyS n)
  have hsz : Maps.size (D.put (.string (keyOf n).data.toList) (.lit (.bool true))) = K'.length := by
    rw [size_put (h.tidy strKey), h1 n hn2, hs, hlen]
    by_cases hnK : n ∈ K
    · rw [if_pos (decide_eq_true hnK), if_pos hnK]
    · rw [if_neg (by rw [decide_eq_false hnK]; exact Bool.false_ne_true), if_neg hnK]
  refine ⟨w', hrun, ⟨⟨_, hsz ▸ own_exact ho, hsz, fun j wj => ?_, fun j hj wj z => ?_⟩⟩, ht⟩
  · by_cases e : j = n
    · subst e
      rw [has_put_same h.isMap hk, decide_eq_true ((hm j).2 (.inl rfl))]
    · rw [has_put_other (keyData_ne wj hn2 e), h1 j wj]
      congr 1
      rw [eq_iff_iff, hm j]
      exact ⟨.inr, fun h => h.resolve_left e⟩
  · by_cases e : j = n
    · subst e
      rw [atKey_put_same h.isMap hk]
    · rw [atKey_put_other (keyData_ne wj hn2 e), h2 j (((hm j).1 hj).resolve_left e) wj]
theorem SMap.look {w : World} {b : Nat} {K : List Nat} (h : SMap w b K) {n : Nat} (hn : n ∈ K) (hn2 : n < 65536) : (Instr.lookup 27 (.map (some b)) (.string (keyOf n)) false).run Try.prog w = .ok (.bool true) w := by
  obtain ⟨D, h, hs, h1, h2⟩ := h.out
  obtain ⟨v, ps, hrun, hv⟩ := h.lookup strKey Try.underlying27 (zeroB w) (plainElem_bool Try.underlying4 false) (keyS n)
  rw [h2 n hn hn2] at hv
  rw [hrun]
  unfold plainElem at hv
  rw [Try.underlying4] at hv
  cases v <;> simp at hv
  rw [hv.1]
theorem SMap.len {w : World} {b : Nat} {K : List Nat} (h : SMap w b K) (ty : TypeId) : (Builtin.len_ #[27] ty #[.map (some b)]).run Try.prog w = .ok (.int .i64 (K.length : Int)) w := by
  obtain ⟨D, h, hs, _⟩ := h.out
  have := h.len Try.underlying27 ty
  rw [hs] at this
  exact this
theorem PMap.len_zero {w : World} {b n : Nat} {F : Int → Option ByteArray} (h : PMap w b n F) (hF : ∀ k, F k = none) (ty : TypeId) : (Builtin.len_ #[41] ty #[.map (some b)]).run Try.prog w = .ok (.int .i64 0) w := by
  have hl := h
  obtain ⟨D, h, h1, h2⟩ := h.out
  have hlen := h.len Try.underlying41 ty
  have hz : Maps.size D = 0 := by
    obtain ⟨es, clock, hb, Ft, _, rfl⟩ := h
    cases he : es.toList with
    | nil => rfl
    | cons x l =>
      exfalso
      have hx : x ∈ es.toList := by rw [he]; simp
      obtain ⟨kl, hk⟩ := Ft.keys x hx
      have hki : ∃ k, x.key = .int .i64 k ∧ (Lit.int .i64 k).wf = true := by
        have hk' := hk
        unfold Go.keyOf at hk'
        rw [Try.underlying3] at hk'
        cases hv : x.key <;> rw [hv] at hk' <;> simp [mapKey] at hk'
        exact ⟨_, by rw [hk'.1.1], hk'.1.2⟩
      obtain ⟨k, hkk, wk⟩ := hki
      have hrun := hl.look wk
      rw [hF k] at hrun
      rw [hkk] at hk
      rcases Maps.fit_look true intKey Try.underlying41 (zeroS w) hb Ft hk with ⟨_, h4, _⟩ | ⟨e0, y, _, _, h4, _⟩
      · exact h4 x hx hkk
      · rw [hrun] at h4
        simp at h4
  rw [hz] at hlen
  exact hlen
#print axioms PMap.len_zero
#print axioms SMap.store
end Go.Proofs.YtkmbkgjfhjjicaaT
