/- What memory holds as the law SectorSure goes on. -/
import Derived.Test.YtpdnfaggdheneaaSA1
import Derived.Test.YtpdnfaggdheneaaSB
import Derived.Test.YtpdnfaggdheneaaSC
namespace Go.Proofs.YtpdnfaggdheneaaS
open Go.RowKit Go.Proofs Go.Proofs.YtpdnfaggdheneaaW.PrintWords

/-! ### The acts in memory -/
structure ActR where
  what : Int
  «at» : Int
  text : ByteArray
  A : Option Addr
  cap : Nat
  keep : List Bool
def actC (x : ActR) : List Value := [.int .i64 x.what, .int .i64 x.at, .string x.text, .slice x.A x.keep.length x.cap]
structure ActAt (w : World) (x : ActR) : Prop where
  w0 : -9223372036854775808 ≤ x.at
  w1 : x.at < 9223372036854775808
  len : x.text.size ≤ 9223372036854775807
  kl : x.keep.length ≤ 9223372036854775807
  keep : ∀ j, j < x.keep.length → ∃ ad, x.A = some ad ∧ w.cell? (ad.add j) = some (.bool (x.keep.getD j false))
def ActsAt (w : World) (A : Option Addr) (acts : List ActR) : Prop :=
  acts.length ≤ 9223372036854775807 ∧ (∀ x, x ∈ acts → ActAt w x) ∧ ∀ i, i < acts.length → ∃ ad, A = some ad ∧ ∀ j v, (actC (acts.getD i ⟨0, 0, ByteArray.empty, none, 0, []⟩))[j]? = some v → w.cell? ((ad.add (i * 4)).add j) = some v

/-! ### What memory holds as the law goes -/
/-- The law's own blocks, and those that came in. -/
def okB (N gs gl go : Nat) (bl : Nat → Nat) (n : Nat) (k : Nat) : Prop := k < N ∨ k = gs ∨ k = gl ∨ k = go ∨ ∃ j, j < n ∧ k = bl j
structure St (w0 w : World) (B D S gs gl go : Nat) (bl : Nat → Nat) (m : Nat) (d : Dsk) (su la : List ByteArray) (ev : Nat → ByteArray → Bool) (n : Nat) : Prop where
  disk : At w B D S (okB w0.heap.size gs gl go bl m) d
  csu : w.heap[gs]? = some (.cells (pw_strs su).toArray 29 (0, 0))
  cla : w.heap[gl]? = some (.cells (pw_strs la).toArray 29 (0, 0))
  tab : ∃ G, TabF w go m G ∧ ∀ k : Nat, k < m → G k = some (bl k)
  sets : ∀ k, k < m → SetF w (bl k) n (ev k)
  keep : Keep w0 w (fun k => k < w0.heap.size)
structure Apart (N gs gl go : Nat) (bl : Nat → Nat) (m : Nat) : Prop where
  s : N ≤ gs
  l : N ≤ gl
  o : N ≤ go
  b : ∀ k, k < m → N ≤ bl k
  sl : gs ≠ gl
  so : gs ≠ go
  lo : gl ≠ go
  bs : ∀ k, k < m → bl k ≠ gs
  bl' : ∀ k, k < m → bl k ≠ gl
  bo : ∀ k, k < m → bl k ≠ go
  bb : ∀ k j, k < m → j < m → bl k = bl j → k = j

theorem At.sub {w : World} {B D S : Nat} {ok ok' : Nat → Prop} {d : Dsk} (h : At w B D S ok d) (hs : ∀ k, ok' k → ok k) : At w B D S ok' d := by
  obtain ⟨vw, h1, h2⟩ := h.ex
  exact ⟨⟨vw, h1, fun k hk => h2 k (hs k hk)⟩, h.ats, h.l0, h.l1⟩
theorem strs_cell {w : World} {g : Nat} {t : TypeId} {l : List ByteArray} (h : w.heap[g]? = some (.cells (pw_strs l).toArray t (0, 0))) {k : Nat} (hk : k < l.length) : w.cell? ⟨g, k, none⟩ = some (.string (l.getD k ByteArray.empty)) ∧ w.frozen? ⟨g, k, none⟩ = false := by
  constructor
  · rw [cell_of_row w g k _ _ (0, 0) h]
    simp [pw_strs, List.getElem?_eq_getElem hk, List.getD_eq_getElem?_getD]
  · simp [World.frozen?, h]
theorem strs_set {w : World} {g : Nat} {t : TypeId} {l : List ByteArray} (h : w.heap[g]? = some (.cells (pw_strs l).toArray t (0, 0))) (k : Nat) (s : ByteArray) : (w.setCell ⟨g, k, none⟩ (.string s)).heap[g]? = some (.cells (pw_strs (l.set k s)).toArray t (0, 0)) := by
  rw [heap_set h]
  congr 2
  simp [pw_strs, List.map_set]
section
variable {w0 w : World} {B D S gs gl go : Nat} {bl : Nat → Nat} {m : Nat} {d : Dsk} {su la : List ByteArray} {ev : Nat → ByteArray → Bool} {n : Nat}
theorem okB_lt (h : St w0 w B D S gs gl go bl m d su la ev n) {k : Nat} (hk : okB w0.heap.size gs gl go bl m k) : k < w.heap.size := h.disk.lt k hk
/-- The blocks of the law's own state are kept, the disk is some other. -/
theorem St.aft (h : St w0 w B D S gs gl go bl m d su la ev n) {w' : World} {ok' : Nat → Prop} {d' : Dsk} (ha : Aft w B D S ok' d' w') (hs : ∀ k, okB w0.heap.size gs gl go bl m k → ok' k) : St w0 w' B D S gs gl go bl m d' su la ev n := by
  have hb : ∀ k, okB w0.heap.size gs gl go bl m k → w'.heap[k]? = w.heap[k]? := fun k hk => ha.keep.block k (okB_lt h hk) (hs k hk)
  refine ⟨ha.disk.sub hs, (hb gs (.inr (.inl rfl))).trans h.csu, (hb gl (.inr (.inr (.inl rfl)))).trans h.cla, ?_, fun k hk => (h.sets k hk).heap (hb _ (.inr (.inr (.inr (.inr ⟨k, hk, rfl⟩))))), h.keep.trans (ha.keep.mono (fun k _ hk => hs k (.inl hk)))⟩
  obtain ⟨G, h1, h2⟩ := h.tab
  exact ⟨G, h1.heap (hb _ (.inr (.inr (.inr (.inl rfl))))), h2⟩
/-- New blocks alone. -/
theorem St.more (h : St w0 w B D S gs gl go bl m d su la ev n) {w' : World} (hk : Keep w w' (fun k => k < w.heap.size)) : St w0 w' B D S gs gl go bl m d su la ev n := by
  have hb : ∀ k, okB w0.heap.size gs gl go bl m k → w'.heap[k]? = w.heap[k]? := fun k ho => hk.block k (okB_lt h ho) (okB_lt h ho)
  refine ⟨h.disk.grow (hk.mono (fun k hl _ => hl)) (fun k ho => .inl ho), (hb gs (.inr (.inl rfl))).trans h.csu, (hb gl (.inr (.inr (.inl rfl)))).trans h.cla, ?_, fun k hm => (h.sets k hm).heap (hb _ (.inr (.inr (.inr (.inr ⟨k, hm, rfl⟩))))), h.keep.trans (hk.mono (fun k hl _ => hl))⟩
  obtain ⟨G, h1, h2⟩ := h.tab
  exact ⟨G, h1.heap (hb _ (.inr (.inr (.inr (.inl rfl))))), h2⟩
/-- One of the law's own blocks is written. -/
theorem St.wrote (h : St w0 w B D S gs gl go bl m d su la ev n) {w' : World} {g : Nat} (hg : okB w0.heap.size gs gl go bl m g) (hN : w0.heap.size ≤ g) (hk : Keep w w' (fun k => k ≠ g)) :
    At w' B D S (okB w0.heap.size gs gl go bl m) d ∧ Keep w0 w' (fun k => k < w0.heap.size) :=
  ⟨h.disk.grow (hk.mono (fun k _ hn e => hn (by rw [e]; exact hg))) (fun k ho => .inl ho), h.keep.trans (hk.mono (fun k _ hl => by omega))⟩
theorem St.mono (h : St w0 w B D S gs gl go bl m d su la ev n) {n' : Nat} (hn : n ≤ n') : St w0 w B D S gs gl go bl m d su la ev n' := ⟨h.disk, h.csu, h.cla, h.tab, fun k hk => (h.sets k hk).mono hn, h.keep⟩
variable (ap : Apart w0.heap.size gs gl go bl m)
include ap
theorem St.setS (h : St w0 w B D S gs gl go bl m d su la ev n) (k : Nat) (s : ByteArray) : St w0 (w.setCell ⟨gs, k, none⟩ (.string s)) B D S gs gl go bl m d (su.set k s) la ev n := by
  have hk : Keep w (w.setCell ⟨gs, k, none⟩ (.string s)) (fun k => k ≠ gs) := Keep.setCell _ _ _ (fun h => h rfl)
  obtain ⟨h1, h2⟩ := h.wrote (g := gs) (.inr (.inl rfl)) ap.s hk
  refine ⟨h1, strs_set h.csu k s, hk.heap h.cla ap.sl.symm, ?_, fun j hj => (h.sets j hj).heap (hk.block _ (h.sets j hj).lt (ap.bs j hj)), h2⟩
  obtain ⟨G, t1, t2⟩ := h.tab
  exact ⟨G, t1.heap (hk.block _ t1.lt ap.so.symm), t2⟩
theorem St.setL (h : St w0 w B D S gs gl go bl m d su la ev n) (k : Nat) (s : ByteArray) : St w0 (w.setCell ⟨gl, k, none⟩ (.string s)) B D S gs gl go bl m d su (la.set k s) ev n := by
  have hk : Keep w (w.setCell ⟨gl, k, none⟩ (.string s)) (fun k => k ≠ gl) := Keep.setCell _ _ _ (fun h => h rfl)
  obtain ⟨h1, h2⟩ := h.wrote (g := gl) (.inr (.inr (.inl rfl))) ap.l hk
  refine ⟨h1, hk.heap h.csu ap.sl, strs_set h.cla k s, ?_, fun j hj => (h.sets j hj).heap (hk.block _ (h.sets j hj).lt (ap.bl' j hj)), h2⟩
  obtain ⟨G, t1, t2⟩ := h.tab
  exact ⟨G, t1.heap (hk.block _ t1.lt ap.lo.symm), t2⟩
/-- The whole of 'sure' is written. -/
theorem St.copy (h : St w0 w B D S gs gl go bl m d su la ev n) {w' : World} (hg : w'.heap[gs]? = some (.cells (pw_strs la).toArray 29 (0, 0))) (hk : Keep w w' (fun k => k ≠ gs)) : St w0 w' B D S gs gl go bl m d la la ev n := by
  obtain ⟨h1, h2⟩ := h.wrote (g := gs) (.inr (.inl rfl)) ap.s hk
  refine ⟨h1, hg, hk.heap h.cla ap.sl.symm, ?_, fun j hj => (h.sets j hj).heap (hk.block _ (h.sets j hj).lt (ap.bs j hj)), h2⟩
  obtain ⟨G, t1, t2⟩ := h.tab
  exact ⟨G, t1.heap (hk.block _ t1.lt ap.so.symm), t2⟩
/-- A text goes into one set. -/
theorem St.add (h : St w0 w B D S gs gl go bl m d su la ev n) {k : Nat} (hk : k < m) {s : ByteArray} {w' : World} (hs : SetF w' (bl k) (n + 1) (addS (ev k) s)) (hg : w.grownBy w' (some (bl k))) : St w0 w' B D S gs gl go bl m d su la (addE ev k s) (n + 1) := by
  have hk' : Keep w w' (fun j => j ≠ bl k) := (Keep.of_grown hg).mono (fun j _ hn e => hn (by injection e with e; exact e.symm))
  obtain ⟨h1, h2⟩ := h.wrote (g := bl k) (.inr (.inr (.inr (.inr ⟨k, hk, rfl⟩)))) (ap.b k hk) hk'
  refine ⟨h1, hk'.heap h.csu (ap.bs k hk).symm, hk'.heap h.cla (ap.bl' k hk).symm, ?_, fun j hj => ?_, h2⟩
  · obtain ⟨G, t1, t2⟩ := h.tab
    exact ⟨G, t1.heap (hk'.block _ t1.lt (ap.bo k hk).symm), t2⟩
  · by_cases e : j = k
    · subst e
      have : addE ev j s j = addS (ev j) s := by funext t; unfold addE addS; simp
      rw [this]
      exact hs
    · have : addE ev k s j = ev j := by funext t; unfold addE; simp [e]
      rw [this]
      exact ((h.sets j hj).heap (hk'.block _ (h.sets j hj).lt (fun e2 => e (ap.bb j k hj hk e2)))).mono (Nat.le_succ n)
/-- One more set. -/
theorem St.next (h : St w0 w B D S gs gl go bl m d su la ev n) {g : Nat} (hg : g = w.heap.size) {w' : World} {F : ByteArray → Bool} {G : Int → Option Nat} (hG : ∀ k : Nat, k < m → G k = some (bl k)) (hs : SetF w' g n F) (ht : TabF w' go (m + 1) (updT G m g)) (hk : Keep w w' (fun k => k ≠ go)) :
    St w0 w' B D S gs gl go (fun k => if k = m then g else bl k) (m + 1) d su la (fun k => if k = m then F else ev k) n ∧ Apart w0.heap.size gs gl go (fun k => if k = m then g else bl k) (m + 1) := by
  obtain ⟨h1, h2⟩ := h.wrote (g := go) (.inr (.inr (.inr (.inl rfl)))) ap.o hk
  have lts := okB_lt h (k := gs) (.inr (.inl rfl))
  have ltl := okB_lt h (k := gl) (.inr (.inr (.inl rfl)))
  have lto := okB_lt h (k := go) (.inr (.inr (.inr (.inl rfl))))
  have ltb : ∀ k, k < m → bl k < w.heap.size := fun k hk => (h.sets k hk).lt
  have le0 := h.keep.size
  have hgl := hs.lt
  refine ⟨⟨h.disk.grow (hk.mono (fun k _ hn e => hn (by rw [e]; exact .inr (.inr (.inr (.inl rfl)))))) (fun k ho => ?_), hk.heap h.csu ap.so, hk.heap h.cla ap.lo, ⟨_, ht, fun k hk => ?_⟩, fun k hm => ?_, h2⟩, ?_⟩
  · rcases ho with ho | ho | ho | ho | ⟨j, hj, rfl⟩
    · exact .inl (.inl ho)
    · exact .inl (.inr (.inl ho))
    · exact .inl (.inr (.inr (.inl ho)))
    · exact .inl (.inr (.inr (.inr (.inl ho))))
    · by_cases e : j = m
      · simp only [if_pos e]
        exact .inr ⟨by omega, hgl⟩
      · simp only [if_neg e]
        exact .inl (.inr (.inr (.inr (.inr ⟨j, by omega, rfl⟩))))
  · unfold updT
    by_cases e : k = m
    · subst e
      rw [if_pos rfl, if_pos rfl]
    · rw [if_neg (by omega), if_neg e]
      exact hG k (by omega)
  · by_cases e : k = m
    · simp only [if_pos e]
      exact hs
    · simp only [if_neg e]
      exact (h.sets k (by omega)).heap (hk.block _ (ltb k (by omega)) (ap.bo k (by omega)))
  · refine ⟨ap.s, ap.l, ap.o, fun k hk => ?_, ap.sl, ap.so, ap.lo, fun k hk => ?_, fun k hk => ?_, fun k hk => ?_, fun k j hk hj he => ?_⟩
    · by_cases e : k = m
      · rw [if_pos e]; omega
      · rw [if_neg e]; exact ap.b k (by omega)
    · by_cases e : k = m
      · rw [if_pos e]; omega
      · rw [if_neg e]; exact ap.bs k (by omega)
    · by_cases e : k = m
      · rw [if_pos e]; omega
      · rw [if_neg e]; exact ap.bl' k (by omega)
    · by_cases e : k = m
      · rw [if_pos e]; omega
      · rw [if_neg e]; exact ap.bo k (by omega)
    · by_cases e : k = m
      · by_cases e' : j = m
        · omega
        · rw [if_pos e, if_neg e'] at he
          have := ltb j (by omega)
          omega
      · by_cases e' : j = m
        · rw [if_neg e, if_pos e'] at he
          have := ltb k (by omega)
          omega
        · rw [if_neg e, if_neg e'] at he
          exact ap.bb k j (by omega) (by omega) he
end
#print axioms St.next
end Go.Proofs.YtpdnfaggdheneaaS
