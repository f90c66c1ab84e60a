/- Knots, the plain law: rings. -/
import Derived.Test.YtgbeigippahbaaaKQ
namespace Go.Proofs.YtgbeigippahbaaaK

/-- The i-th thing of the ring. -/
def rg (n s i : Nat) : Nat := i * s % n
def ringE (n s i : Nat) : Edge := ((rg n s i : Nat), (rg n s (i + 1) : Nat))
def ring (n s m : Nat) : List Edge := (List.range m).map (ringE n s)
theorem ring_len (n s m : Nat) : (ring n s m).length = m := by simp [ring]
theorem ring_succ (n s m : Nat) : ring n s (m + 1) = ring n s m ++ [ringE n s m] := by
  unfold ring
  rw [List.range_succ, List.map_append]
  rfl
section
variable {n s : Nat}
theorem rg_lt (hn : 0 < n) (i : Nat) : rg n s i < n := Nat.mod_lt _ hn
theorem rg_zero : rg n s 0 = 0 := by simp [rg]
theorem rg_n : rg n s n = 0 := by simp [rg]
theorem rg_inj_le (hc : Nat.Coprime n s) {i j : Nat} (hij : j ≤ i) (hi : i < n) (e : rg n s i = rg n s j) : i = j := by
  have h1 : (i * s - j * s) % n = 0 := Nat.sub_mod_eq_zero_of_mod_eq e
  rw [← Nat.sub_mul] at h1
  have h2 : n ∣ i - j := Nat.Coprime.dvd_of_dvd_mul_right hc (Nat.dvd_of_mod_eq_zero h1)
  have h3 := Nat.eq_zero_of_dvd_of_lt h2 (by omega)
  omega
theorem rg_inj (hc : Nat.Coprime n s) {i j : Nat} (hi : i < n) (hj : j < n) (e : rg n s i = rg n s j) : i = j := by
  rcases Nat.le_total j i with h | h
  · exact rg_inj_le hc h hi e
  · exact (rg_inj_le hc h hj e.symm).symm
theorem rg_surj (hn : 0 < n) (hc : Nat.Coprime n s) {v : Nat} (hv : v < n) : ∃ i, i < n ∧ rg n s i = v := by
  have hd : ((List.range n).map (rg n s)).Nodup := by
    unfold List.Nodup
    rw [List.pairwise_map]
    refine List.Pairwise.imp_of_mem ?_ (List.nodup_range (n := n))
    intro a b ha hb hne e
    exact hne (rg_inj hc (List.mem_range.1 ha) (List.mem_range.1 hb) e)
  have := nodup_full hd (fun v hv => by obtain ⟨i, _, rfl⟩ := List.mem_map.1 hv; exact rg_lt hn i) (by simp) v hv
  obtain ⟨i, hi, e⟩ := List.mem_map.1 this
  exact ⟨i, List.mem_range.1 hi, e⟩
theorem ring_step (hn : 0 < n) {es : List Edge} {i : Nat} (h : ringE n s i ∈ es) : rg n s (i + 1) ∈ adjE n es (rg n s i) :=
  adjE_mem.2 ⟨_, h, rfl, rfl, rg_lt hn _, rg_lt hn _⟩
theorem ring_mem {m i : Nat} (h : i < m) : ringE n s i ∈ ring n s m := List.mem_map.2 ⟨i, List.mem_range.2 h, rfl⟩
theorem ring_rc (hn : 0 < n) : ∀ {i j : Nat}, i ≤ j → j ≤ n → Rc (adjE n (ring n s n)) (rg n s i) (rg n s j)
  | i, 0, h, _ => by rw [show i = 0 by omega]; exact .refl _
  | i, j + 1, h, hj => by
    by_cases e : i = j + 1
    · rw [e]; exact .refl _
    · exact (ring_rc hn (by omega) (by omega)).tail (ring_step hn (ring_mem (by omega)))
/-- A ring is one knot. -/
theorem ring_knot (hn : 0 < n) (hc : Nat.Coprime n s) {k : List Nat} (h : KnotsR (adjE n (ring n s n)) n k) {v : Nat} (hv : v < n) : k.getD v 0 = 0 := by
  obtain ⟨i, hi, rfl⟩ := rg_surj hn hc hv
  have h1 : Rc (adjE n (ring n s n)) (rg n s i) 0 := by have := ring_rc (s := s) hn (i := i) (j := n) (by omega) (Nat.le_refl _); rw [rg_n] at this; exact this
  have h2 : Rc (adjE n (ring n s n)) 0 (rg n s i) := by have := ring_rc (s := s) hn (i := 0) (j := i) (by omega) (by omega); rw [rg_zero] at this; exact this
  have := (h.2 _ hv).2.2 0 h1 h2
  have h3 : k.getD (rg n s i) 0 ≤ 0 := this
  omega
/-- The ring without its c-th edge. -/
def cutR (n s c : Nat) : List Edge := (ring n s n).take c ++ (ring n s n).drop (c + 1)
theorem cut_mem {c : Nat} {e : Edge} (h : e ∈ cutR n s c) : ∃ i, i < n ∧ i ≠ c ∧ e = ringE n s i := by
  unfold cutR at h
  rcases List.mem_append.1 h with h | h
  · obtain ⟨i, hi, rfl⟩ := List.getElem_of_mem h
    rw [List.length_take, ring_len] at hi
    exact ⟨i, by omega, by omega, by simp [ring]⟩
  · obtain ⟨i, hi, rfl⟩ := List.getElem_of_mem h
    rw [List.length_drop, ring_len] at hi
    exact ⟨c + 1 + i, by omega, by omega, by simp [ring]⟩
def rk (n c i : Nat) : Nat := (i + n - (c + 1)) % n
theorem rk_next {c i : Nat} (hc : c < n) (hi : i < n) (hne : i ≠ c) : rk n c ((i + 1) % n) = rk n c i + 1 := by
  unfold rk
  by_cases e : i + 1 = n
  · rw [e, Nat.mod_self, Nat.zero_add, Nat.mod_eq_of_lt (show n - (c + 1) < n by omega), show i + n - (c + 1) = (i - (c + 1)) + n by omega, Nat.add_mod_right, Nat.mod_eq_of_lt (by omega)]
    omega
  · rw [Nat.mod_eq_of_lt (show i + 1 < n by omega)]
    by_cases h : i < c
    · rw [Nat.mod_eq_of_lt (by omega), Nat.mod_eq_of_lt (by omega)]
      omega
    · rw [show i + 1 + n - (c + 1) = (i - c) + n by omega, show i + n - (c + 1) = (i - c - 1) + n by omega, Nat.add_mod_right, Nat.add_mod_right, Nat.mod_eq_of_lt (by omega), Nat.mod_eq_of_lt (by omega)]
      omega
theorem rg_mod (i : Nat) : rg n s (i % n) = rg n s i := by
  unfold rg
  rw [Nat.mod_mul_mod]
theorem cut_rc (hn : 0 < n) (hcop : Nat.Coprime n s) {c : Nat} (hc : c < n) {a b : Nat} (h : Rc (adjE n (cutR n s c)) a b) : a = b ∨ ∃ i j, i < n ∧ j < n ∧ a = rg n s i ∧ b = rg n s j ∧ rk n c i < rk n c j := by
  induction h with
  | refl => exact .inl rfl
  | tail _ hbc ih =>
    right
    obtain ⟨e, he, h1, h2, _, _⟩ := adjE_mem.1 hbc
    obtain ⟨i, hi, hne, rfl⟩ := cut_mem he
    have hb := Int.ofNat.inj h1
    have hc' := Int.ofNat.inj h2
    have hj : (i + 1) % n < n := Nat.mod_lt _ hn
    have hk := rk_next hc hi hne
    have hg : rg n s ((i + 1) % n) = rg n s (i + 1) := rg_mod _
    rcases ih with e | ⟨i0, j0, hi0, hj0, ea, eb, hlt⟩
    · exact ⟨i, (i + 1) % n, hi, hj, by rw [e]; exact hb.symm, by rw [hg]; exact hc'.symm, by omega⟩
    · have hij : j0 = i := rg_inj hcop hj0 hi (by rw [← eb]; exact hb.symm)
      subst hij
      exact ⟨i0, (j0 + 1) % n, hi0, hj, ea, by rw [hg]; exact hc'.symm, by omega⟩
/-- Without one edge each is alone. -/
theorem cut_knot (hn : 0 < n) (hcop : Nat.Coprime n s) {c : Nat} (hc : c < n) {k : List Nat} (h : KnotsR (adjE n (cutR n s c)) n k) {v : Nat} (hv : v < n) : k.getD v 0 = v := by
  obtain ⟨h1, h2, _⟩ := h.2 v hv
  have h1' : Rc (adjE n (cutR n s c)) v (k.getD v 0) := h1
  have h2' : Rc (adjE n (cutR n s c)) (k.getD v 0) v := h2
  rcases cut_rc hn hcop hc h1' with e | ⟨i, j, hi, hj, e1, e2, hlt⟩
  · exact e.symm
  · rcases cut_rc hn hcop hc h2' with e | ⟨i', j', hi', hj', e1', e2', hlt'⟩
    · exact e
    · have a1 : i' = j := rg_inj hcop hi' hj (by rw [← e1', ← e2])
      have a2 : j' = i := rg_inj hcop hj' hi (by rw [← e2', ← e1])
      subst a1 a2
      omega
end
#print axioms cut_knot
#print axioms ring_knot
end Go.Proofs.YtgbeigippahbaaaK
