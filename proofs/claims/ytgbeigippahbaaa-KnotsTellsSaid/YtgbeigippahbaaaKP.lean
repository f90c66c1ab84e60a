/- Knots, the plain law: the walk of package knots (Tarjan's, without recursion) finds the least of each thing's knot. -/
namespace Go.Proofs.YtgbeigippahbaaaK

/-- There is a way from a to b. -/
inductive Rc (adj : Nat → List Nat) : Nat → Nat → Prop
  | refl (a : Nat) : Rc adj a a
  | tail {a b c : Nat} : Rc adj a b → c ∈ adj b → Rc adj a c
theorem Rc.one {adj : Nat → List Nat} {a b : Nat} (h : b ∈ adj a) : Rc adj a b := .tail (.refl a) h
theorem Rc.trans {adj : Nat → List Nat} {a b c : Nat} (h : Rc adj a b) (k : Rc adj b c) : Rc adj a c := by
  induction k with
  | refl => exact h
  | tail _ hc ih => exact .tail ih hc
def upd {α : Type} (f : Nat → α) (k : Nat) (x : α) : Nat → α := fun j => if j = k then x else f j
theorem upd_same {α : Type} (f : Nat → α) (k : Nat) (x : α) : upd f k x k = x := if_pos rfl
theorem upd_ne {α : Type} (f : Nat → α) {k j : Nat} (x : α) (h : j ≠ k) : upd f k x j = f j := if_neg h
structure T where
  seen : Nat → Nat
  low : Nat → Nat
  least : Nat → Nat
  opn : Nat → Bool
  stack : List Nat
  work : List (Nat × Nat)
  count : Nat
def visit (v : Nat) (t : T) : T := { t with seen := upd t.seen v (t.count + 1), low := upd t.low v (t.count + 1), opn := upd t.opn v true, stack := t.stack ++ [v], count := t.count + 1 }
def account (v u : Nat) (t : T) : T := if t.opn u = true then { t with low := upd t.low v (min (t.low v) (t.low u)) } else t
def enter (adj : Nat → List Nat) (v i : Nat) (t : T) : T := if i = 0 then visit v t else account v ((adj v).getD (i - 1) 0) t
/-- Where v stands, sought from k down. -/
def seek (l : List Nat) (v : Nat) : Nat → Nat
  | 0 => 0
  | k + 1 => if l.getD (k + 1) 0 = v then k + 1 else seek l v k
def closeV (v : Nat) (t : T) : T :=
  { t with least := fun u => if u ∈ t.stack.drop (seek t.stack v (t.stack.length - 1)) then (t.stack.drop (seek t.stack v (t.stack.length - 1))).foldl min v else t.least u,
           opn := fun u => if u ∈ t.stack.drop (seek t.stack v (t.stack.length - 1)) then false else t.opn u,
           stack := t.stack.take (seek t.stack v (t.stack.length - 1)) }
def step (adj : Nat → List Nat) (t : T) : T :=
  match t.work with
  | [] => t
  | (v, i) :: W =>
    if i < (adj v).length then
      if (enter adj v i t).seen ((adj v).getD i 0) = 0 then { enter adj v i t with work := ((adj v).getD i 0, 0) :: (v, i + 1) :: W } else { enter adj v i t with work := (v, i + 1) :: W }
    else if (enter adj v i t).low v < (enter adj v i t).seen v then { enter adj v i t with work := W } else closeV v { enter adj v i t with work := W }

/-- How many of u's edges have been looked at. -/
def lim (adj : Nat → List Nat) : List (Nat × Nat) → Nat → Nat
  | [], u => (adj u).length
  | (v, a) :: P, u => if v = u then a else lim adj P u
/-- Each thing on the way was reached from the one below. -/
def Linked (adj : Nat → List Nat) : List (Nat × Nat) → Prop
  | x :: (y, a) :: P => (1 ≤ a ∧ a ≤ (adj y).length ∧ (adj y).getD (a - 1) 0 = x.1) ∧ Linked adj ((y, a) :: P)
  | _ => True
structure Core (adj : Nat → List Nat) (n : Nat) (t : T) (path : List (Nat × Nat)) (pend : Option Nat) : Prop where
  pn : ∀ x, x ∈ path → x.2 ≤ (adj x.1).length ∧ x.1 ∈ t.stack
  psort : (path.map (·.1)).Pairwise fun x y => t.seen y < t.seen x
  link : Linked adj path
  sn : ∀ v, v ∈ t.stack → v < n ∧ t.opn v = true ∧ 0 < t.seen v
  so : ∀ v, t.opn v = true → v ∈ t.stack
  sorted : t.stack.Pairwise fun a b => t.seen a < t.seen b
  cnt : ∀ v, t.seen v ≤ t.count
  out : ∀ v, n ≤ v → t.seen v = 0
  fin : ∀ u, u ∈ t.stack → u ∉ path.map (·.1) → t.low u < t.seen u
  l1 : ∀ u, u ∈ t.stack → ∃ y, y ∈ t.stack ∧ t.seen y = t.low u ∧ Rc adj u y
  ll : ∀ u, u ∈ t.stack → t.low u ≤ t.seen u
  l2 : ∀ u, u ∈ t.stack → ∀ k, k < lim adj path u → 0 < t.seen ((adj u).getD k 0) ∧ ((adj u).getD k 0 ∈ t.stack → t.low u ≤ t.seen ((adj u).getD k 0))
  seg : ∀ u, u ∈ t.stack → ∃ p, p ∈ path.map (·.1) ∧ t.seen p ≤ t.seen u ∧ (∀ q, q ∈ path.map (·.1) → t.seen q ≤ t.seen u → t.seen q ≤ t.seen p) ∧ Rc adj p u ∧
    (t.low p ≤ t.low u ∨ ((path.map (·.1)).head? = some p ∧ ∃ x, pend = some x ∧ t.opn x = true ∧ t.low x ≤ t.low u))
  c1 : ∀ c, 0 < t.seen c → t.opn c = false → ∀ x, x ∈ adj c → 0 < t.seen x ∧ t.opn x = false
  c3 : ∀ c, 0 < t.seen c → t.opn c = false → Rc adj c (t.least c) ∧ Rc adj (t.least c) c ∧ ∀ w, Rc adj c w → Rc adj w c → t.least c ≤ w
theorem getD_mem {l : List Nat} {k : Nat} (h : k < l.length) : l.getD k 0 ∈ l := by
  rw [List.getD_eq_getElem?_getD, List.getElem?_eq_getElem h]
  exact List.getElem_mem _
theorem mem_getD {l : List Nat} {x : Nat} (h : x ∈ l) : ∃ k, k < l.length ∧ l.getD k 0 = x := by
  obtain ⟨k, hk, rfl⟩ := List.getElem_of_mem h
  exact ⟨k, hk, by rw [List.getD_eq_getElem?_getD, List.getElem?_eq_getElem hk]; rfl⟩
theorem pw_inj {s : Nat → Nat} : ∀ {l : List Nat}, (l.Pairwise fun a b => s a < s b) → ∀ {a b : Nat}, a ∈ l → b ∈ l → s a = s b → a = b
  | [], _, _, _, h, _, _ => by cases h
  | x :: l, h, a, b, ha, hb, e => by
    obtain ⟨h1, h2⟩ := List.pairwise_cons.1 h
    rcases List.mem_cons.1 ha with e1 | ha'
    · rcases List.mem_cons.1 hb with e2 | hb'
      · rw [e1, e2]
      · have := h1 b hb'; rw [e1] at e; omega
    · rcases List.mem_cons.1 hb with e2 | hb'
      · have := h1 a ha'; rw [e2] at e; omega
      · exact pw_inj h2 ha' hb' e
theorem lim_out {adj : Nat → List Nat} : ∀ {l : List (Nat × Nat)} {u : Nat}, u ∉ l.map (·.1) → lim adj l u = (adj u).length
  | [], _, _ => rfl
  | (w, b) :: l, u, h => by
    rw [lim, if_neg (fun e => h (by rw [← e]; exact List.mem_cons_self))]
    exact lim_out (fun hx => h (List.mem_cons_of_mem _ hx))
/-- One edge more of the top. -/
def bump : List (Nat × Nat) → List (Nat × Nat)
  | [] => []
  | (p, a) :: Q => (p, a + 1) :: Q
section
variable {adj : Nat → List Nat} {n : Nat} {t : T} {v a x : Nat} {P : List (Nat × Nat)}
theorem Core.inj {path : List (Nat × Nat)} {pend : Option Nat} (h : Core adj n t path pend) {a b : Nat} (ha : a ∈ t.stack) (hb : b ∈ t.stack) (e : t.seen a = t.seen b) : a = b := pw_inj h.sorted ha hb e
/-- An edge that is there: sought and not yet looked at. -/
theorem Core.pend (h : Core adj n t P none) (x : Nat) : Core adj n t P (some x) := by
  refine ⟨h.pn, h.psort, h.link, h.sn, h.so, h.sorted, h.cnt, h.out, h.fin, h.l1, h.ll, h.l2, fun u hu => ?_, h.c1, h.c3⟩
  obtain ⟨p, h1, h2, h3, h4, h5⟩ := h.seg u hu
  refine ⟨p, h1, h2, h3, h4, .inl ?_⟩
  rcases h5 with h5 | ⟨_, x, hx, _⟩
  · exact h5
  · cases hx
/-- The edge that was pending is looked at. -/
theorem Core.account (h : Core adj n t ((v, a) :: P) (some x)) (ha : a < (adj v).length) (hx : (adj v).getD a 0 = x) (hs : 0 < t.seen x) : Core adj n (account v x t) ((v, a + 1) :: P) none := by
  have hv : v ∈ t.stack := (h.pn _ List.mem_cons_self).2
  have hlink : Linked adj ((v, a + 1) :: P) := by
    have := h.link
    match P, this with
    | [], _ => trivial
    | (y, b) :: P, this => exact this
  have hpn : ∀ y, y ∈ (v, a + 1) :: P → y.2 ≤ (adj y.1).length ∧ y.1 ∈ t.stack := fun y hy => by
    rcases List.mem_cons.1 hy with rfl | hy
    · exact ⟨ha, hv⟩
    · exact h.pn _ (List.mem_cons_of_mem _ hy)
  have hvP : ∀ u, u ∈ P.map (·.1) → t.seen u < t.seen v := (List.pairwise_cons.1 h.psort).1
  have limv : ∀ u, u ≠ v → lim adj ((v, a + 1) :: P) u = lim adj ((v, a) :: P) u := fun u hu => by
    rw [lim, lim, if_neg (Ne.symm hu), if_neg (Ne.symm hu)]
  by_cases ho : t.opn x = true
  · have hxs := h.so x ho
    have e : Go.Proofs.YtgbeigippahbaaaK.account v x t = { t with low := upd t.low v (min (t.low v) (t.low x)) } := if_pos ho
    rw [e]
    have lowle : ∀ u, upd t.low v (min (t.low v) (t.low x)) u ≤ t.low u := fun u => by
      unfold upd
      split
      · rename_i e; rw [e]; exact Nat.min_le_left _ _
      · exact Nat.le_refl _
    refine ⟨hpn, h.psort, hlink, h.sn, h.so, h.sorted, h.cnt, h.out, fun u hu hp => Nat.lt_of_le_of_lt (lowle u) (h.fin u hu hp), fun u hu => ?_, fun u hu => Nat.le_trans (lowle u) (h.ll u hu), fun u hu k hk => ?_, fun u hu => ?_, h.c1, h.c3⟩
    · by_cases hw : u = v
      · subst hw
        show ∃ y, y ∈ t.stack ∧ t.seen y = upd t.low u (min (t.low u) (t.low x)) u ∧ Rc adj u y
        rw [upd_same]
        rcases Nat.le_total (t.low u) (t.low x) with hl | hl
        · rw [Nat.min_eq_left hl]; exact h.l1 u hu
        · rw [Nat.min_eq_right hl]
          obtain ⟨y, y1, y2, y3⟩ := h.l1 x hxs
          exact ⟨y, y1, y2, (Rc.one (by rw [← hx]; exact getD_mem ha)).trans y3⟩
      · show ∃ y, y ∈ t.stack ∧ t.seen y = upd t.low v (min (t.low v) (t.low x)) u ∧ Rc adj u y
        rw [upd_ne _ _ hw]
        exact h.l1 u hu
    · by_cases hw : u = v
      · subst hw
        rw [lim, if_pos rfl] at hk
        by_cases hka : k = a
        · subst hka
          rw [hx]
          refine ⟨hs, fun _ => ?_⟩
          show upd t.low u (min (t.low u) (t.low x)) u ≤ t.seen x
          rw [upd_same]
          exact Nat.le_trans (Nat.min_le_right _ _) (h.ll x hxs)
        · have := h.l2 u hu k (by rw [lim, if_pos rfl]; omega)
          exact ⟨this.1, fun hm => Nat.le_trans (lowle u) (this.2 hm)⟩
      · have := h.l2 u hu k (by rw [← limv u hw]; exact hk)
        exact ⟨this.1, fun hm => Nat.le_trans (lowle u) (this.2 hm)⟩
    · obtain ⟨p, p1, p2, p3, p4, p5⟩ := h.seg u hu
      refine ⟨p, p1, p2, p3, p4, .inl ?_⟩
      show upd t.low v _ p ≤ upd t.low v _ u
      by_cases hpv : p = v
      · subst hpv
        rw [upd_same]
        by_cases hup : u = p
        · rw [hup, upd_same]; exact Nat.le_refl _
        · rw [upd_ne _ _ hup]
          rcases p5 with p5 | ⟨_, y, hy, _, hly⟩
          · exact Nat.le_trans (Nat.min_le_left _ _) p5
          · injection hy with hy
            subst hy
            exact Nat.le_trans (Nat.min_le_right _ _) hly
      · rw [upd_ne _ _ hpv]
        have hup : u ≠ v := fun e => by
          subst e
          have := p3 u List.mem_cons_self (Nat.le_refl _)
          rcases List.mem_cons.1 p1 with e | p1
          · exact hpv e
          · have := hvP p p1; omega
        rw [upd_ne _ _ hup]
        rcases p5 with p5 | ⟨hh, _⟩
        · exact p5
        · injection hh with hh
          exact absurd hh.symm hpv
  · have e : Go.Proofs.YtgbeigippahbaaaK.account v x t = t := if_neg ho
    rw [e]
    refine ⟨hpn, h.psort, hlink, h.sn, h.so, h.sorted, h.cnt, h.out, h.fin, h.l1, h.ll, fun u hu k hk => ?_, fun u hu => ?_, h.c1, h.c3⟩
    · by_cases hw : u = v
      · subst hw
        rw [lim, if_pos rfl] at hk
        by_cases hka : k = a
        · subst hka
          rw [hx]
          exact ⟨hs, fun hm => absurd (h.sn x hm).2.1 ho⟩
        · exact h.l2 u hu k (by rw [lim, if_pos rfl]; omega)
      · exact h.l2 u hu k (by rw [← limv u hw]; exact hk)
    · obtain ⟨p, p1, p2, p3, p4, p5⟩ := h.seg u hu
      refine ⟨p, p1, p2, p3, p4, .inl ?_⟩
      rcases p5 with p5 | ⟨_, y, hy, hoy, _⟩
      · exact p5
      · injection hy with hy
        subst hy
        exact absurd hoy ho
/-- A new thing on the way. -/
theorem Core.visit (h : Core adj n t P none) (hv : v < n) (hs : t.seen v = 0) (hP : ∀ p a Q, P = (p, a) :: Q → a < (adj p).length ∧ (adj p).getD a 0 = v) :
    Core adj n (visit v t) ((v, 0) :: bump P) none := by
  have hvs : v ∉ t.stack := fun hm => by have := (h.sn v hm).2.2; omega
  have sne : ∀ u, u ∈ t.stack → u ≠ v := fun u hu e => hvs (by rw [← e]; exact hu)
  have seen_old : ∀ u, u ≠ v → (Go.Proofs.YtgbeigippahbaaaK.visit v t).seen u = t.seen u := fun u hu => upd_ne _ _ hu
  have low_old : ∀ u, u ≠ v → (Go.Proofs.YtgbeigippahbaaaK.visit v t).low u = t.low u := fun u hu => upd_ne _ _ hu
  have opn_old : ∀ u, u ≠ v → (Go.Proofs.YtgbeigippahbaaaK.visit v t).opn u = t.opn u := fun u hu => upd_ne _ _ hu
  have seen_v : (Go.Proofs.YtgbeigippahbaaaK.visit v t).seen v = t.count + 1 := upd_same _ _ _
  have low_v : (Go.Proofs.YtgbeigippahbaaaK.visit v t).low v = t.count + 1 := upd_same _ _ _
  have opn_v : (Go.Proofs.YtgbeigippahbaaaK.visit v t).opn v = true := upd_same _ _ _
  have stk : (Go.Proofs.YtgbeigippahbaaaK.visit v t).stack = t.stack ++ [v] := rfl
  obtain ⟨P', hP'⟩ : ∃ P', P' = bump P := ⟨_, rfl⟩
  rw [← hP']
  have hmap : P'.map (·.1) = P.map (·.1) := by
    rw [hP']
    match P with
    | [] => rfl
    | (p, a) :: Q => rfl
  have hPs : ∀ u, u ∈ P.map (·.1) → u ∈ t.stack := fun u hu => by
    obtain ⟨y, hy, rfl⟩ := List.mem_map.1 hu
    exact (h.pn y hy).2
  have hlimP : ∀ u, u ≠ v → ∀ k, k < lim adj ((v, 0) :: P') u → k < lim adj P u ∨ (adj u).getD k 0 = v := fun u hu k hk => by
    rw [lim, if_neg (Ne.symm hu), hP'] at hk
    clear hP' hmap
    cases P with
    | nil => exact .inl hk
    | cons y Q =>
      obtain ⟨p, a⟩ := y
      rw [bump, lim] at hk
      rw [lim]
      by_cases e : p = u
      · rw [if_pos e] at hk ⊢
        by_cases hka : k = a
        · right
          rw [hka, ← e]
          exact (hP p a Q rfl).2
        · left; omega
      · rw [if_neg e] at hk ⊢
        exact .inl hk
  have seen_le : ∀ u, u ∈ t.stack → (Go.Proofs.YtgbeigippahbaaaK.visit v t).seen u < t.count + 1 := fun u hu => by
    rw [seen_old u (sne u hu)]
    exact Nat.lt_succ_of_le (h.cnt u)
  refine ⟨?_, ?_, ?_, ?_, ?_, ?_, ?_, ?_, ?_, ?_, ?_, ?_, ?_, ?_, ?_⟩
  · intro y hy
    rw [stk]
    rcases List.mem_cons.1 hy with rfl | hy
    · exact ⟨Nat.zero_le _, List.mem_append_right _ List.mem_cons_self⟩
    · rw [hP'] at hy
      clear hP' hmap hlimP
      cases P with
      | nil => cases hy
      | cons z Q =>
        obtain ⟨p, a⟩ := z
        rcases List.mem_cons.1 hy with e | hy
        · rw [e]
          exact ⟨(hP p a Q rfl).1, List.mem_append_left _ (h.pn (p, a) List.mem_cons_self).2⟩
        · have := h.pn y (List.mem_cons_of_mem _ hy)
          exact ⟨this.1, List.mem_append_left _ this.2⟩
  · rw [List.map_cons, hmap]
    refine List.pairwise_cons.2 ⟨fun y hy => ?_, h.psort.imp_of_mem fun {a b} ha hb hab => ?_⟩
    · rw [seen_v]
      exact seen_le y (hPs y hy)
    · rw [seen_old _ (sne _ (hPs _ ha)), seen_old _ (sne _ (hPs _ hb))]
      exact hab
  · rw [hP']
    match P, hP, h.link with
    | [], _, _ => trivial
    | (p, a) :: Q, hP, hl =>
      refine ⟨⟨Nat.succ_le_succ (Nat.zero_le _), (hP p a Q rfl).1, (hP p a Q rfl).2⟩, ?_⟩
      match Q, hl with
      | [], _ => trivial
      | (y, b) :: Q, hl => exact hl
  · intro u hu
    rw [stk] at hu
    rcases List.mem_append.1 hu with hu | hu
    · have := h.sn u hu
      rw [opn_old u (sne u hu), seen_old u (sne u hu)]
      exact this
    · rw [List.mem_singleton.1 hu, opn_v, seen_v]
      exact ⟨hv, rfl, Nat.succ_pos _⟩
  · intro u hu
    rw [stk]
    by_cases e : u = v
    · rw [e]; exact List.mem_append_right _ List.mem_cons_self
    · rw [opn_old u e] at hu
      exact List.mem_append_left _ (h.so u hu)
  · rw [stk]
    refine List.pairwise_append.2 ⟨h.sorted.imp_of_mem fun {a b} ha hb hab => ?_, List.pairwise_singleton _ _, fun a ha b hb => ?_⟩
    · rw [seen_old _ (sne _ ha), seen_old _ (sne _ hb)]
      exact hab
    · rw [List.mem_singleton.1 hb, seen_v]
      exact seen_le a ha
  · intro u
    show (Go.Proofs.YtgbeigippahbaaaK.visit v t).seen u ≤ t.count + 1
    by_cases e : u = v
    · rw [e, seen_v]; exact Nat.le_refl _
    · rw [seen_old u e]; exact Nat.le_succ_of_le (h.cnt u)
  · intro u hu
    rw [seen_old u (by omega)]
    exact h.out u hu
  · intro u hu hp
    rw [stk] at hu
    rw [List.map_cons, hmap] at hp
    rcases List.mem_append.1 hu with hu | hu
    · rw [low_old u (sne u hu), seen_old u (sne u hu)]
      exact h.fin u hu (fun hm => hp (List.mem_cons_of_mem _ hm))
    · rw [List.mem_singleton.1 hu] at hp
      exact absurd List.mem_cons_self hp
  · intro u hu
    rw [stk] at hu ⊢
    rcases List.mem_append.1 hu with hu | hu
    · obtain ⟨y, y1, y2, y3⟩ := h.l1 u hu
      exact ⟨y, List.mem_append_left _ y1, by rw [seen_old y (sne y y1), low_old u (sne u hu)]; exact y2, y3⟩
    · rw [List.mem_singleton.1 hu]
      exact ⟨v, List.mem_append_right _ List.mem_cons_self, by rw [seen_v, low_v], .refl v⟩
  · intro u hu
    rw [stk] at hu
    rcases List.mem_append.1 hu with hu | hu
    · rw [low_old u (sne u hu), seen_old u (sne u hu)]
      exact h.ll u hu
    · rw [List.mem_singleton.1 hu, low_v, seen_v]
      exact Nat.le_refl _
  · intro u hu k hk
    rw [stk] at hu
    rcases List.mem_append.1 hu with hu | hu
    · have huv := sne u hu
      rcases hlimP u huv k hk with hk | hk
      · obtain ⟨q1, q2⟩ := h.l2 u hu k hk
        have hx : (adj u).getD k 0 ≠ v := fun e => by rw [e, hs] at q1; exact Nat.lt_irrefl _ q1
        rw [seen_old _ hx, low_old u huv, stk]
        refine ⟨q1, fun hm => q2 ?_⟩
        rcases List.mem_append.1 hm with hm | hm
        · exact hm
        · exact absurd (List.mem_singleton.1 hm) hx
      · rw [hk, seen_v, low_old u huv]
        exact ⟨Nat.succ_pos _, fun _ => Nat.le_succ_of_le (Nat.le_trans (h.ll u hu) (h.cnt u))⟩
    · rw [List.mem_singleton.1 hu, lim, if_pos rfl] at hk
      cases hk
  · intro u hu
    rw [stk] at hu
    rw [List.map_cons, hmap]
    rcases List.mem_append.1 hu with hu | hu
    · have huv := sne u hu
      obtain ⟨p, p1, p2, p3, p4, p5⟩ := h.seg u hu
      have hpv := sne p (hPs p p1)
      refine ⟨p, List.mem_cons_of_mem _ p1, by rw [seen_old p hpv, seen_old u huv]; exact p2, fun q hq hqu => ?_, p4, .inl ?_⟩
      · rcases List.mem_cons.1 hq with e | hq
        · rw [e, seen_v] at hqu
          have := seen_le u hu
          omega
        · have hqv := sne q (hPs q hq)
          rw [seen_old q hqv, seen_old u huv] at hqu
          rw [seen_old q hqv, seen_old p hpv]
          exact p3 q hq hqu
      · rw [low_old p hpv, low_old u huv]
        rcases p5 with p5 | ⟨_, x, hx, _⟩
        · exact p5
        · cases hx
    · rw [List.mem_singleton.1 hu]
      exact ⟨v, List.mem_cons_self, Nat.le_refl _, fun q _ hq => hq, .refl v, .inl (Nat.le_refl _)⟩
  · intro c hc ho x hx
    have hcv : c ≠ v := fun e => by rw [e, opn_v] at ho; cases ho
    rw [seen_old c hcv] at hc
    rw [opn_old c hcv] at ho
    obtain ⟨x1, x2⟩ := h.c1 c hc ho x hx
    have hxv : x ≠ v := fun e => by rw [e, hs] at x1; exact Nat.lt_irrefl _ x1
    rw [seen_old x hxv, opn_old x hxv]
    exact ⟨x1, x2⟩
  · intro c hc ho
    have hcv : c ≠ v := fun e => by rw [e, opn_v] at ho; cases ho
    rw [seen_old c hcv] at hc
    rw [opn_old c hcv] at ho
    exact h.c3 c hc ho
theorem Core.work {path : List (Nat × Nat)} {pend : Option Nat} (h : Core adj n t path pend) (W : List (Nat × Nat)) : Core adj n { t with work := W } path pend :=
  ⟨h.pn, h.psort, h.link, h.sn, h.so, h.sorted, h.cnt, h.out, h.fin, h.l1, h.ll, h.l2, h.seg, h.c1, h.c3⟩
/-- All of v's edges are looked at, and v came from p: back to p. -/
theorem Core.pop {p d : Nat} (h : Core adj n t ((v, d) :: (p, a) :: P) none) (hd : d = (adj v).length) (hl : t.low v < t.seen v) : Core adj n t ((p, a - 1) :: P) (some v) := by
  have hv : v ∈ t.stack := (h.pn _ List.mem_cons_self).2
  obtain ⟨ha1, ha2, ha3'⟩ := h.link.1
  have ha3 : (adj p).getD (a - 1) 0 = v := ha3'
  have hmap : ((p, a - 1) :: P).map (·.1) = ((p, a) :: P).map (·.1) := rfl
  have hvP : ∀ u, u ∈ ((p, a) :: P).map (·.1) → t.seen u < t.seen v := (List.pairwise_cons.1 h.psort).1
  have hvn : v ∉ ((p, a) :: P).map (·.1) := fun hm => by have := hvP v hm; omega
  have hpp := (List.pairwise_cons.1 (List.pairwise_cons.1 h.psort).2).1
  refine ⟨fun x hx => ?_, (List.pairwise_cons.1 h.psort).2, ?_, h.sn, h.so, h.sorted, h.cnt, h.out, fun u hu hn => ?_, h.l1, h.ll, fun u hu k hk => ?_, fun u hu => ?_, h.c1, h.c3⟩
  · rcases List.mem_cons.1 hx with e | hx
    · rw [e]
      have := h.pn (p, a) (List.mem_cons_of_mem _ List.mem_cons_self)
      exact ⟨Nat.le_trans (Nat.sub_le a 1) this.1, this.2⟩
    · exact h.pn x (List.mem_cons_of_mem _ (List.mem_cons_of_mem _ hx))
  · have := h.link.2
    match P, this with
    | [], _ => trivial
    | (y, b) :: P, this => exact this
  · by_cases e : u = v
    · rw [e]; exact hl
    · exact h.fin u hu (fun hm => by
        rcases List.mem_cons.1 hm with e' | hm
        · exact e e'
        · exact hn hm)
  · refine h.l2 u hu k (Nat.lt_of_lt_of_le hk ?_)
    rw [lim, lim]
    by_cases e : p = u
    · rw [if_pos e]
      have : u ≠ v := fun e' => hvn (by rw [← e', ← e]; exact List.mem_cons_self)
      rw [if_neg (Ne.symm this), lim, if_pos e]
      omega
    · rw [if_neg e]
      by_cases e' : v = u
      · rw [if_pos e', hd, e', lim_out]
        · exact Nat.le_refl _
        · intro hm
          exact hvn (by rw [e']; exact List.mem_cons_of_mem _ hm)
      · rw [if_neg e', lim, if_neg e]
        exact Nat.le_refl _
  · obtain ⟨q, q1, q2, q3, q4, q5⟩ := h.seg u hu
    have q6 : t.low q ≤ t.low u := by
      rcases q5 with q5 | ⟨_, x, hx, _⟩
      · exact q5
      · cases hx
    by_cases e : q = v
    · subst e
      refine ⟨p, List.mem_cons_self, Nat.le_trans (Nat.le_of_lt (hvP p List.mem_cons_self)) q2, fun r hr _ => ?_, (Rc.one (by rw [← ha3]; exact getD_mem (by omega))).trans q4, .inr ⟨rfl, q, rfl, (h.sn q hv).2.1, q6⟩⟩
      rcases List.mem_cons.1 hr with e | hr
      · rw [e]; exact Nat.le_refl _
      · exact Nat.le_of_lt (hpp r hr)
    · refine ⟨q, ?_, q2, fun r hr hru => q3 r (List.mem_cons_of_mem _ hr) hru, q4, .inl q6⟩
      rcases List.mem_cons.1 q1 with e' | q1
      · exact absurd e' e
      · exact q1
/-- The first one of a way is the first of its knot. -/
theorem Core.root {d : Nat} (h : Core adj n t [(v, d)] none) : ¬ t.low v < t.seen v := fun hl => by
  have hv : v ∈ t.stack := (h.pn _ List.mem_cons_self).2
  obtain ⟨y, y1, y2, _⟩ := h.l1 v hv
  obtain ⟨p, p1, p2, _⟩ := h.seg y y1
  have e : p = v := List.mem_singleton.1 p1
  rw [e] at p2
  omega
theorem seek_at {l : List Nat} {v j : Nat} (hj : l.getD j 0 = v) : ∀ k, j ≤ k → (∀ i, j < i → i ≤ k → l.getD i 0 ≠ v) → seek l v k = j
  | 0, h, _ => by rw [seek]; omega
  | k + 1, h, hn => by
    rw [seek]
    by_cases e : j = k + 1
    · rw [← e, if_pos hj]
    · rw [if_neg (hn (k + 1) (by omega) (Nat.le_refl _))]
      exact seek_at hj k (by omega) (fun i h1 h2 => hn i h1 (by omega))
theorem foldl_min : ∀ (l : List Nat) (m : Nat), l.foldl min m ≤ m ∧ (∀ x, x ∈ l → l.foldl min m ≤ x) ∧ (l.foldl min m = m ∨ l.foldl min m ∈ l)
  | [], m => ⟨Nat.le_refl _, (fun x hx => by cases hx), .inl rfl⟩
  | y :: l, m => by
    obtain ⟨h1, h2, h3⟩ := foldl_min l (min m y)
    rw [List.foldl_cons]
    refine ⟨Nat.le_trans h1 (Nat.min_le_left _ _), fun x hx => ?_, ?_⟩
    · rcases List.mem_cons.1 hx with e | hx
      · rw [e]; exact Nat.le_trans h1 (Nat.min_le_right _ _)
      · exact h2 x hx
    · rcases h3 with h3 | h3
      · rcases Nat.le_total m y with hl | hl
        · left; rw [h3, Nat.min_eq_left hl]
        · right; rw [h3, Nat.min_eq_right hl]; exact List.mem_cons_self
      · right; exact List.mem_cons_of_mem _ h3
def unbump : List (Nat × Nat) → List (Nat × Nat)
  | [] => []
  | (p, a) :: Q => (p, a - 1) :: Q
/-- v is the first of its knot: the knot is told. -/
theorem Core.closeV {d : Nat} (h : Core adj n t ((v, d) :: P) none) (hd : d = (adj v).length) (hl : ¬ t.low v < t.seen v) : Core adj n (closeV v t) (unbump P) none := by
  have hv : v ∈ t.stack := (h.pn _ List.mem_cons_self).2
  have hlv : t.low v = t.seen v := by have := h.ll v hv; omega
  have hvP : ∀ u, u ∈ P.map (·.1) → t.seen u < t.seen v := (List.pairwise_cons.1 h.psort).1
  obtain ⟨A, B, hAB⟩ := List.append_of_mem hv
  have hs := h.sorted
  rw [hAB] at hs
  obtain ⟨sA, sB, sAB⟩ := List.pairwise_append.1 hs
  have hA : ∀ u, u ∈ A ↔ u ∈ t.stack ∧ t.seen u < t.seen v := fun u => by
    constructor
    · intro hu
      exact ⟨by rw [hAB]; exact List.mem_append_left _ hu, sAB u hu v List.mem_cons_self⟩
    · intro ⟨hu, hlt⟩
      rw [hAB] at hu
      rcases List.mem_append.1 hu with hu | hu
      · exact hu
      · rcases List.mem_cons.1 hu with e | hu
        · rw [e] at hlt; omega
        · have := (List.pairwise_cons.1 sB).1 u hu; omega
  have hB : ∀ u, u ∈ v :: B ↔ u ∈ t.stack ∧ t.seen v ≤ t.seen u := fun u => by
    constructor
    · intro hu
      refine ⟨by rw [hAB]; exact List.mem_append_right _ hu, ?_⟩
      rcases List.mem_cons.1 hu with e | hu
      · rw [e]; exact Nat.le_refl _
      · exact Nat.le_of_lt ((List.pairwise_cons.1 sB).1 u hu)
    · intro ⟨hu, hle⟩
      rw [hAB] at hu
      rcases List.mem_append.1 hu with hu | hu
      · have := sAB u hu v List.mem_cons_self; omega
      · exact hu
  have hgj : t.stack.getD A.length 0 = v := by
    rw [hAB, List.getD_eq_getElem?_getD, List.getElem?_append_right (Nat.le_refl _), Nat.sub_self]
    rfl
  have hlen : t.stack.length = A.length + B.length + 1 := by rw [hAB, List.length_append, List.length_cons]; omega
  have hseek : seek t.stack v (t.stack.length - 1) = A.length := by
    refine seek_at hgj _ (by omega) (fun i h1 h2 e => ?_)
    have h3 : i - A.length - 1 < B.length := by omega
    have h4 : t.stack.getD i 0 = B.getD (i - A.length - 1) 0 := by
      rw [hAB, List.getD_eq_getElem?_getD, List.getElem?_append_right (by omega), List.getD_eq_getElem?_getD]
      rw [show i - A.length = (i - A.length - 1) + 1 by omega, List.getElem?_cons_succ, Nat.add_sub_cancel]
    rw [h4] at e
    have := (List.pairwise_cons.1 sB).1 _ (getD_mem h3)
    rw [e] at this
    omega
  have hdrop : t.stack.drop A.length = v :: B := by rw [hAB]; exact List.drop_left
  have htake : t.stack.take A.length = A := by rw [hAB]; exact List.take_left
  -- what is known of the knot
  have segv : ∀ u, u ∈ t.stack → t.seen v ≤ t.seen u → Rc adj v u ∧ t.low v ≤ t.low u := fun u hu hle => by
    obtain ⟨q, q1, q2, q3, q4, q5⟩ := h.seg u hu
    have e : q = v := by
      have h1 := q3 v List.mem_cons_self hle
      rcases List.mem_cons.1 q1 with e | q1
      · exact e
      · have := hvP q q1; omega
    subst e
    refine ⟨q4, ?_⟩
    rcases q5 with q5 | ⟨_, x, hx, _⟩
    · exact q5
    · cases hx
  have notP : ∀ u, t.seen v ≤ t.seen u → u ∉ P.map (·.1) := fun u hle hm => by have := hvP u hm; omega
  have backv : ∀ m u, t.seen u ≤ m → u ∈ t.stack → t.seen v ≤ t.seen u → Rc adj u v := by
    intro m
    induction m with
    | zero => intro u h1 h2 h3; have := (h.sn u h2).2.2; omega
    | succ m ih =>
      intro u h1 h2 h3
      by_cases e : u = v
      · rw [e]; exact .refl v
      · have hf := h.fin u h2 (fun hm => by
          rcases List.mem_cons.1 hm with e' | hm
          · exact e e'
          · exact notP u h3 hm)
        obtain ⟨y, y1, y2, y3⟩ := h.l1 u h2
        have := (segv u h2 h3).2
        exact y3.trans (ih y (by omega) y1 (by omega))
  have edge : ∀ u, u ∈ t.stack → t.seen v ≤ t.seen u → ∀ x, x ∈ adj u → (x ∈ t.stack ∧ t.seen v ≤ t.seen x) ∨ (0 < t.seen x ∧ t.opn x = false) := fun u hu hle x hx => by
    obtain ⟨k, hk, hkx⟩ := mem_getD hx
    have hlim : lim adj ((v, d) :: P) u = (adj u).length := by
      rw [lim]
      by_cases e : v = u
      · rw [if_pos e, hd, e]
      · rw [if_neg e, lim_out (notP u hle)]
    obtain ⟨z1, z2⟩ := h.l2 u hu k (by rw [hlim]; exact hk)
    rw [hkx] at z1 z2
    cases ho : t.opn x with
    | true =>
      have hxs := h.so x ho
      have := z2 hxs
      have := (segv u hu hle).2
      exact .inl ⟨hxs, by omega⟩
    | false => exact .inr ⟨z1, rfl⟩
  have far : ∀ y, Rc adj v y → (y ∈ t.stack ∧ t.seen v ≤ t.seen y) ∨ (0 < t.seen y ∧ t.opn y = false) := fun y hy => by
    induction hy with
    | refl => exact .inl ⟨hv, Nat.le_refl _⟩
    | tail _ hc ih =>
      rcases ih with ⟨i1, i2⟩ | ⟨i1, i2⟩
      · exact edge _ i1 i2 _ hc
      · exact .inr (h.c1 _ i1 i2 _ hc)
  have shut : ∀ y z, 0 < t.seen y → t.opn y = false → Rc adj y z → t.opn z = false := fun y z h1 h2 hy => by
    have : 0 < t.seen z ∧ t.opn z = false := by
      induction hy with
      | refl => exact ⟨h1, h2⟩
      | tail _ hc ih => exact h.c1 _ ih.1 ih.2 _ hc
    exact this.2
  obtain ⟨best, hbest⟩ : ∃ best, best = (v :: B).foldl min v := ⟨_, rfl⟩
  have et : Go.Proofs.YtgbeigippahbaaaK.closeV v t = { t with least := fun u => if u ∈ v :: B then best else t.least u, opn := fun u => if u ∈ v :: B then false else t.opn u, stack := A } := by
    unfold Go.Proofs.YtgbeigippahbaaaK.closeV
    rw [hseek, hdrop, htake, hbest]
  rw [et]
  have hmap : (unbump P).map (·.1) = P.map (·.1) := by
    match P with
    | [] => rfl
    | (p, a) :: Q => rfl
  have nB : ∀ u, u ∈ A → u ∉ v :: B := fun u hu hm => by have := ((hA u).1 hu).2; have := ((hB u).1 hm).2; omega
  have limle : ∀ u, u ≠ v → lim adj (unbump P) u ≤ lim adj ((v, d) :: P) u := fun u hu => by
    rw [lim, if_neg (Ne.symm hu)]
    match P with
    | [] => exact Nat.le_refl _
    | (p, a) :: Q =>
      rw [unbump, lim, lim]
      split <;> omega
  refine ⟨fun x hx => ?_, ?_, ?_, fun u hu => ?_, fun u hu => ?_, sA, h.cnt, h.out, fun u hu hn => ?_, fun u hu => ?_, fun u hu => h.ll u ((hA u).1 hu).1, fun u hu k hk => ?_, fun u hu => ?_, fun c hc ho x hx => ?_, fun c hc ho => ?_⟩
  · have h1 : x.1 ∈ P.map (·.1) := by rw [← hmap]; exact List.mem_map_of_mem hx
    refine ⟨?_, (hA x.1).2 ⟨?_, hvP _ h1⟩⟩
    · clear limle hmap et
      cases P with
      | nil => cases hx
      | cons z Q =>
        obtain ⟨p, a⟩ := z
        rcases List.mem_cons.1 hx with e | hx
        · rw [e]
          exact Nat.le_trans (Nat.sub_le a 1) (h.pn (p, a) (List.mem_cons_of_mem _ List.mem_cons_self)).1
        · exact (h.pn x (List.mem_cons_of_mem _ (List.mem_cons_of_mem _ hx))).1
    · obtain ⟨z, hz, e⟩ := List.mem_map.1 h1
      rw [← e]
      exact (h.pn z (List.mem_cons_of_mem _ hz)).2
  · rw [hmap]
    exact (List.pairwise_cons.1 h.psort).2
  · have := h.link
    clear limle hmap et
    match P, this with
    | [], _ => trivial
    | (p, a) :: [], _ => trivial
    | (p, a) :: (y, b) :: Q, this => exact this.2
  · have := (hA u).1 hu
    refine ⟨(h.sn u this.1).1, ?_, (h.sn u this.1).2.2⟩
    show (if u ∈ v :: B then false else t.opn u) = true
    rw [if_neg (nB u hu)]
    exact (h.sn u this.1).2.1
  · have hu' : (if u ∈ v :: B then false else t.opn u) = true := hu
    by_cases hm : u ∈ v :: B
    · rw [if_pos hm] at hu'; cases hu'
    · rw [if_neg hm] at hu'
      have hus := h.so u hu'
      refine (hA u).2 ⟨hus, ?_⟩
      exact Nat.lt_of_not_le (fun hle => hm ((hB u).2 ⟨hus, hle⟩))
  · rw [hmap] at hn
    have := (hA u).1 hu
    refine h.fin u this.1 (fun hm => ?_)
    rcases List.mem_cons.1 hm with e | hm
    · have h2 : u = v := e
      rw [h2] at this
      omega
    · exact hn hm
  · have := (hA u).1 hu
    obtain ⟨y, y1, y2, y3⟩ := h.l1 u this.1
    refine ⟨y, (hA y).2 ⟨y1, ?_⟩, y2, y3⟩
    have := h.ll u this.1
    omega
  · have := (hA u).1 hu
    have huv : u ≠ v := fun e => by rw [e] at this; omega
    obtain ⟨z1, z2⟩ := h.l2 u this.1 k (Nat.lt_of_lt_of_le hk (limle u huv))
    exact ⟨z1, fun hm => z2 ((hA _).1 hm).1⟩
  · have := (hA u).1 hu
    obtain ⟨q, q1, q2, q3, q4, q5⟩ := h.seg u this.1
    rw [hmap]
    refine ⟨q, ?_, q2, fun r hr hru => q3 r (List.mem_cons_of_mem _ hr) hru, q4, .inl ?_⟩
    · rcases List.mem_cons.1 q1 with e | q1
      · have h2 : q = v := e
        rw [h2] at q2
        omega
      · exact q1
    · rcases q5 with q5 | ⟨_, x, hx, _⟩
      · exact q5
      · cases hx
  · have ho' : (if c ∈ v :: B then false else t.opn c) = false := ho
    show 0 < t.seen x ∧ (if x ∈ v :: B then false else t.opn x) = false
    by_cases hm : c ∈ v :: B
    · obtain ⟨m1, m2⟩ := (hB c).1 hm
      rcases edge c m1 m2 x hx with ⟨e1, e2⟩ | ⟨e1, e2⟩
      · exact ⟨(h.sn x e1).2.2, if_pos ((hB x).2 ⟨e1, e2⟩)⟩
      · refine ⟨e1, ?_⟩
        split
        · rfl
        · exact e2
    · rw [if_neg hm] at ho'
      obtain ⟨e1, e2⟩ := h.c1 c hc ho' x hx
      refine ⟨e1, ?_⟩
      split
      · rfl
      · exact e2
  · have ho' : (if c ∈ v :: B then false else t.opn c) = false := ho
    show Rc adj c (if c ∈ v :: B then best else t.least c) ∧ Rc adj (if c ∈ v :: B then best else t.least c) c ∧ ∀ w, Rc adj c w → Rc adj w c → (if c ∈ v :: B then best else t.least c) ≤ w
    by_cases hm : c ∈ v :: B
    · rw [if_pos hm]
      obtain ⟨m1, m2⟩ := (hB c).1 hm
      obtain ⟨f1, f2, f3⟩ := foldl_min (v :: B) v
      rw [← hbest] at f1 f2 f3
      have hbm : best ∈ v :: B := by
        rcases f3 with f3 | f3
        · rw [f3]; exact List.mem_cons_self
        · exact f3
      obtain ⟨b1, b2⟩ := (hB best).1 hbm
      refine ⟨(backv _ c (Nat.le_refl _) m1 m2).trans (segv best b1 b2).1, (backv _ best (Nat.le_refl _) b1 b2).trans (segv c m1 m2).1, fun w hcw hwc => ?_⟩
      rcases far w ((segv c m1 m2).1.trans hcw) with ⟨w1, w2⟩ | ⟨w1, w2⟩
      · exact f2 w ((hB w).2 ⟨w1, w2⟩)
      · have := shut w v w1 w2 (hwc.trans (backv _ c (Nat.le_refl _) m1 m2))
        rw [(h.sn v hv).2.1] at this
        cases this
    · rw [if_neg hm] at ho' ⊢
      exact h.c3 c hc ho'
end
#print axioms Core.closeV
end Go.Proofs.YtgbeigippahbaaaK
