/- Tree: the law's own body. -/
import Derived.Test.YtkmbkgjfhjjicaaT9
import Derived.Lib.BufferWrite
import Derived.Lib.AppendZerosOnto
namespace Go.Proofs.YtkmbkgjfhjjicaaT
open Go.RowKit Go.Maps Go.Proofs Go.Proofs.YtkmbkgjfhjjicaaW.PrintWords Go.Proofs.YtkmbkgjfhjjicaaW.PrintLast

def U16At (w : World) (A : Option Addr) (l : List Nat) : Prop := (∀ n ∈ l, n < 65536) ∧ ∀ (i n : Nat), l[i]? = some n → ∃ ad, A = some ad ∧ w.cell? (ad.add i) = some (.int .u16 (n : Int))
theorem U16At.below {w w' : World} {A : Option Addr} {l : List Nat} (h : U16At w A l) (hb : Below w.heap.size w w') : U16At w' A l := ⟨h.1, fun i n hi => by
  obtain ⟨ad, h1, h2⟩ := h.2 i n hi
  exact ⟨ad, h1, by rw [World.cell?_of_block (w := w) (hb.block _ (World.block_lt_of_cell? w _ h2))]; exact h2⟩⟩
theorem State.root_le {S : Pg} {vl : ByteArray} {root : Nat} {K : List Nat} {cnt : Nat} (h : State S vl root K cnt) : root ≤ S.nx := by
  rcases h.2 with ⟨rfl, _⟩ | ⟨d, c, ht, rfl, _⟩
  · exact Nat.zero_le _
  · exact (ht.pos _ (sub_page ht.sub)).2
theorem State2.root_le {S : Pg} {vl : ByteArray} {root : Nat} {K : List Nat} (h : State2 S vl root K) : root ≤ S.nx := by
  rcases h.2 with ⟨rfl, _⟩ | ⟨d, c, _, ht, rfl, _⟩
  · exact Nat.zero_le _
  · exact (ht.pos _ (sub_page ht.sub)).2
theorem State2.done {S : Pg} {vl : ByteArray} {root : Nat} (h : State2 S vl root []) : root = 0 ∧ ∀ q, S.f q = none := by
  rcases h.2 with ⟨h1, _, h3⟩ | ⟨d, c, _, ht, _, hk⟩
  · exact ⟨h1, h3⟩
  · exact absurd hk (sub_good S vl d _ _ _ ht.sub).1
theorem infoByte : (Try.prog.info? 5).map (fun i => (i.zero, i.size, i.bytes)) = some (some (.int .u8 0), 1, 1) := by kernel_rfl
theorem cells_zero (m : Nat) : madeCells (Value.int .u8 0).cells (m * 1) = Array.replicate m (Value.int .u8 0) := by
  apply Array.ext
  · rw [size_madeCells]; simp
  · intro k hk hk'
    simp [madeCells, Value.cells, Nat.mod_one]
theorem conv2 (w : World) {n : Nat} (hn : n < 65536) : (convert 26 9 (.slice (some ⟨w.heap.size, 0, none⟩) 2 2)).run Try.prog (w.alloc (.cells #[.int .u8 ((n : Int) / 256), .int .u8 ((n : Int) % 256)] 5)) = .ok (.string (bytesOf [UInt8.ofNat (n / 256), UInt8.ofNat (n % 256)])) (w.alloc (.cells #[.int .u8 ((n : Int) / 256), .int .u8 ((n : Int) % 256)] 5)) := by
  have h := run_convert_bytes_back (P := Try.prog) (w.alloc (.cells #[.int .u8 ((n : Int) / 256), .int .u8 ((n : Int) % 256)] 5)) 26 9 5 ⟨w.heap.size, 0, none⟩ 2 [UInt8.ofNat (n / 256), UInt8.ofNat (n % 256)] Try.underlying26 Try.underlying5 Try.underlying9 (fun k hk => by
    rw [Addr.add_mid, Nat.zero_add]
    refine (blk_cell (blk_new w _) k).trans ?_
    have hk : k < 2 := hk
    match k, hk with
    | 0, _ =>
      show some (Value.int .u8 ((n : Int) / 256)) = some (Value.int .u8 ((UInt8.ofNat (n / 256)).toNat : Int))
      rw [UInt8.toNat_ofNat', Nat.mod_eq_of_lt (by omega)]
      rfl
    | 1, _ =>
      show some (Value.int .u8 ((n : Int) % 256)) = some (Value.int .u8 ((UInt8.ofNat (n % 256)).toNat : Int))
      rw [UInt8.toNat_ofNat', Nat.mod_eq_of_lt (by omega)]
      rfl)
  exact h
theorem len_ins {K K' : List Nat} {n : Nat} (h : Sorted K) (h' : Sorted K') (hm : ∀ x, x ∈ K' ↔ x = n ∨ x ∈ K) : K'.length = if n ∈ K then K.length else K.length + 1 := by
  by_cases hn : n ∈ K
  · rw [if_pos hn, sorted_ext h' h (fun x => by rw [hm]; exact ⟨fun h => h.elim (fun e => e ▸ hn) id, .inr⟩)]
  · rw [if_neg hn]
    obtain ⟨i1, i2, i3⟩ := idx_split (n := n) h
    have hd : ∀ x ∈ K.drop (idx n K), n < x := fun x hx => Nat.lt_of_le_of_ne (i3 x hx) (fun e => hn (e ▸ List.mem_of_mem_drop hx))
    have hs : Sorted (K.take (idx n K) ++ n :: K.drop (idx n K)) := by
      refine List.pairwise_append.2 ⟨List.Pairwise.sublist (List.take_sublist _ _) h, List.pairwise_cons.2 ⟨hd, List.Pairwise.sublist (List.drop_sublist _ _) h⟩, fun x hx y hy => ?_⟩
      rcases List.mem_cons.1 hy with rfl | hy
      · exact i2 x hx
      · have := i2 x hx
        have := hd y hy
        omega
    rw [sorted_ext h' hs (fun x => by
      rw [hm, List.mem_append, List.mem_cons]
      have e2 := List.take_append_drop (idx n K) K
      have e3 : x ∈ K ↔ x ∈ K.take (idx n K) ∨ x ∈ K.drop (idx n K) := by rw [← List.mem_append, e2]
      rw [e3]
      constructor
      · rintro (h | h | h)
        · exact .inr (.inl h)
        · exact .inl h
        · exact .inr (.inr h)
      · rintro (h | h | h)
        · exact .inr (.inl h)
        · exact .inl h
        · exact .inr (.inr h))]
    simp only [List.length_append, List.length_cons, List.length_take, List.length_drop]
    omega
section
variable (w : World) {ops : Array Oper} {rest : List Oper} {o : Oper} {a : Act} {Q : Exit → Act → World → Prop}
theorem wpList_store_S (hg : o.guard = none) (m x v : Operand) (hop : o.op = Op.mapUpdate 27 m x v) (b : Nat) (K K' : List Nat) (hm : a.eval m = .map (some b)) (h : SMap w b K) (hn : K.length < 100000) (n : Nat) (hn2 : n < 65536)
    (hx : a.eval x = .string (keyOf n)) (hv : a.eval v = .bool true) (hlen : K'.length = if n ∈ K then K.length else K.length + 1) (hmem : ∀ x, x ∈ K' ↔ x = n ∨ x ∈ K)
    (hq : ∀ w', SMap w' b K' → w.mapTurned w' b → wpList Try.prog ops Q rest (a.put o.dst undef) w') : wpList Try.prog ops Q (o :: rest) a w := by
  refine wpList_plain hg fun K0 hK0 => ?_
  obtain ⟨w', hrun, r1, r2⟩ := h.store hn hn2 hlen hmem
  unfold Oper.wp
  simp [execOp, hop, hm, hx, hv, hrun, Result.andThen]
  exact hK0 _ _ (hq w' r1 r2)
end
theorem prs_len (vl : ByteArray) (K : List Nat) : (prs vl K).length = K.length := List.length_map _
theorem rowP_some {w : World} {B : Nat} {v : Value} {l : List Pr} (h : RowP w B v l) (h0 : 0 < l.length) : ∃ g c, v = .slice (some ⟨g, 0, none⟩) l.length c ∧ l.length ≤ c ∧ B ≤ g := by
  obtain ⟨h1, ⟨rfl, h2⟩ | ⟨g, cap, cur, rfl, hg, hh, hn, hm, hs, ht⟩⟩ := h
  · omega
  · exact ⟨g, cap, rfl, hn, hg⟩
theorem prs_at {w : World} {B g n c : Nat} {l : List Pr} (h : RowP w B (.slice (some ⟨g, 0, none⟩) n c) l) : PrsAt w (some ⟨g, 0, none⟩) l := by
  obtain ⟨A, c', hv, _, hit⟩ := h.reads
  cases hv
  exact hit
theorem prs_get (vl : ByteArray) {K : List Nat} {i n : Nat} (h : K[i]? = some n) : (prs vl K)[i]? = some (keyOf n, vl) := by unfold prs; rw [List.getElem?_map, h]; rfl
theorem sorted_get {K : List Nat} (hs : Sorted K) {j a b : Nat} (ha : K[j]? = some a) (hb : K[j + 1]? = some b) : a < b := by
  have h := (sorted_split hs hb).1 a
  refine h ?_
  obtain ⟨h1, h2⟩ := List.getElem?_eq_some_iff.1 ha
  obtain ⟨h3, _⟩ := List.getElem?_eq_some_iff.1 hb
  refine List.mem_of_getElem? (i := j) ?_
  rw [List.getElem?_take_of_lt (Nat.lt_succ_self j)]
  exact ha
/-- A whole number taken into the numbers below N, as the law does. -/
theorem into {N : Nat} (hN : 0 < N) (hN' : N ≤ 600) (t : Int) : ∃ (t1 : Int) (m0 s0 : Nat), t.tmod (N : Int) = t1 ∧ IntKind.i64.wrap (t1 + (N : Int)) = (m0 : Int) ∧ (m0 : Int).tmod (N : Int) = (s0 : Int) ∧ (m0 : Int) % (N : Int) = (s0 : Int) ∧ s0 < N ∧ m0 ≤ 4000 ∧ wrap64 (t1 + (N : Int)) = (m0 : Int) := by
  have h1 := Int.tmod_lt_of_pos t (show (0 : Int) < N by omega)
  have h2 := Int.lt_tmod_of_pos t (show (0 : Int) < N by omega)
  obtain ⟨t1, ht1⟩ : ∃ t1, t1 = t.tmod (N : Int) := ⟨_, rfl⟩
  rw [← ht1] at h1 h2
  obtain ⟨m0, hm0⟩ := Int.eq_ofNat_of_zero_le (show 0 ≤ t1 + N by omega)
  have hw : IntKind.i64.wrap (t1 + (N : Int)) = (m0 : Int) := by rw [IntWalk.i64_in _ (by omega)]; exact hm0
  refine ⟨t1, m0, m0 % N, ht1.symm, hw, ?_, rfl, Nat.mod_lt _ (by omega), by omega, ?_⟩
  · rw [Int.tmod_eq_emod_of_nonneg (by omega)]
    rfl
  · unfold wrap64
    omega
theorem PrsAt.far {w w' : World} {ok : Nat → Prop} {bk off : Nat} {l : List Pr} (h : PrsAt w (Option.some ⟨bk, off, none⟩) l) (hk : Keep w w' ok) (hb : ok bk) : PrsAt w' (Option.some ⟨bk, off, none⟩) l := fun h0 => by
  obtain ⟨ad, h1, h2, h3⟩ := h h0
  cases h1
  exact ⟨_, rfl, rfl, fun j u hu => hk.cell (h3 j u hu) hb⟩
/-- What holds ahead of each cut. -/
structure CutPhase (w5 wr : World) (pp mb : Nat) (vl : ByteArray) (S : Pg) (root : Nat) (K K' : List Nat) : Prop where
  pg : PgAt wr pp mb S.nx S.F
  st : State2 S vl root K'
  sub : ∀ x ∈ K', x ∈ K
  keep : Keep w5 wr (farP pp mb)
/-- What holds ahead of each put. -/
structure PutPhase (w wr : World) (pp mb kb : Nat) (vl : ByteArray) (S : Pg) (root : Nat) (K : List Nat) (i : Nat) : Prop where
  pg : PgAt wr pp mb S.nx S.F
  st : State S vl root K i
  map : SMap wr kb K
  sorted : Sorted K
  small : ∀ x ∈ K, x < 65536
  bel : Below w.heap.size w wr
  ne : kb ≠ mb
  low : w.heap.size ≤ pp ∧ w.heap.size ≤ mb ∧ w.heap.size ≤ kb
  some : 1 ≤ i → K ≠ []
  len : K.length ≤ i
set_option maxHeartbeats 8000000 in
set_option maxRecDepth 100000 in
theorem TreeMany_calls {w : World} {A : Option Addr} {c len : Nat} {l : List Nat} (hl : l.length = len) (hA : U16At w A l) (size turn : Int) (hs : -9223372036854775808 ≤ size ∧ size ≤ 9223372036854775807) (ht : -9223372036854775808 ≤ turn ∧ turn ≤ 9223372036854775807) :
    Calls Try.prog 3 #[.slice A len c, .int .i64 size, .int .i64 turn] w fun e w' => e = .returned (.bool true) ∧ Below w.heap.size w w' := by
  have HA := Lib.hid hA
  have HL := Lib.hid hl
  have HT := Lib.hid ht
  clear hl hA ht
  go_enter Try.func3, Try.ntmps3
  go_upto_region 3 with (first | (go_at_call 4; refine (awake_calls w).mono ?_; rintro e w1 ⟨rfl, hb1⟩; have HB1 := Lib.hid hb1; clear hb1))
  by_cases e1 : len = 0
  · subst e1
    go_wp2_with fail
    go_ret
    exact ⟨rfl, HB1.out⟩
  · have e1' : ¬ ((len : Int) = 0) := by omega
    by_cases e2 : 600 < len
    · have e2' : (600 : Int) < (len : Int) := by omega
      go_wp2_with fail
      go_ret
      exact ⟨rfl, HB1.out⟩
    · have e2' : ¬ ((600 : Int) < (len : Int)) := by omega
      by_cases e3 : size < 0
      · go_wp2_with fail
        go_ret
        exact ⟨rfl, HB1.out⟩
      · by_cases e4 : 400 < size
        · go_wp2_with fail
          go_ret
          exact ⟨rfl, HB1.out⟩
        · obtain ⟨sz, rfl⟩ := Int.eq_ofNat_of_zero_le (show 0 ≤ size by omega)
          have hsz : sz ≤ 400 := by omega
          go_upto_region 7 with (first | (go_at_call 5; refine (newPages_calls w1).mono ?_; rintro e w2 ⟨pp, mb, rfl, hp2, hb2, hpp, hmb⟩; have HP2 := Lib.hid (show PgAt w2 pp mb S0.nx S0.F by rw [S0_F]; exact hp2); have HB2 := Lib.hid hb2; have HPM := Lib.hid (And.intro hpp hmb); clear hp2 hb2 hpp hmb))
          clear e1' e2' e3 e4 hs
          obtain ⟨ti, hti, hti'⟩ := Option.map_eq_some_iff.1 infoByte
          injection hti' with hz hti'
          injection hti' with hs1 hb
          have hmk := run_make (P := Try.prog) w2 26 5 ti _ Try.underlying26 hti hz .i64 .i64 (sz : Int) (sz : Int) (by omega) (Int.le_refl _) (by rw [hb]; omega) (by omega)
          rw [hs1, Int.toNat_natCast, cells_zero] at hmk
          have hconv := run_convert_bytes_back (P := Try.prog) (w2.alloc (.cells (Array.replicate sz (Value.int .u8 0)) 5)) 26 9 5 ⟨w2.heap.size, 0, none⟩ sz (List.replicate sz 0) Try.underlying26 Try.underlying5 Try.underlying9 (fun k hk => by
            have hk' : k < sz := by simpa using hk
            rw [Addr.add_mid, Nat.zero_add]
            exact (blk_cell (blk_new w2 (.cells (Array.replicate sz (Value.int .u8 0)) 5)) k).trans (by simp [hk']))
          rw [show (List.replicate sz (0 : UInt8)).length = sz by simp] at hconv
          obtain ⟨vl, hvl⟩ : ∃ vl, vl = (⟨(List.replicate sz (0 : UInt8)).toArray⟩ : ByteArray) := ⟨_, rfl⟩
          rw [← hvl] at hconv
          have hv : vl.size ≤ 400 := by
            have : vl.size = sz := by rw [hvl]; show (List.replicate sz (0 : UInt8)).toArray.size = sz; simp
            omega
          have hmm := @run_makeMap Try.prog
          clear hvl hti hz hs1 hb
          go_upto_region 9 with fail
          obtain ⟨w3, hw3⟩ : ∃ w3, w3 = w2.alloc (.cells (Array.replicate sz (Value.int .u8 0)) 5) := ⟨_, rfl⟩
          obtain ⟨w4, hw4⟩ : ∃ w4, w4 = w3.alloc (.map #[] 0) := ⟨_, rfl⟩
          obtain ⟨kb, hkb⟩ : ∃ kb, kb = w2.heap.size + 1 := ⟨_, rfl⟩
          have hb3 : Below w2.heap.size w2 w3 := by rw [hw3]; exact below_alloc (Below.refl _ _) _
          have hb4 : Below w3.heap.size w3 w4 := by rw [hw4]; exact below_alloc (Below.refl _ _) _
          have hsz3 : w3.heap.size = w2.heap.size + 1 := by rw [hw3, World.size_alloc]
          rw [← hw3, ← hw4, ← hkb]
          have hlt2 := HP2.out.lt
          have hpm := HPM.out
          have hs1 := HB1.out.size
          have hs2 := HB2.out.size
          have h24 := hb3.trans (hb4.mono hb3.size)
          have HPH := Lib.hid (show PutPhase w w4 pp mb kb vl S0 0 [] 0 from ⟨HP2.out.below h24, ⟨Nat.zero_le _, .inl ⟨rfl, rfl, fun _ => rfl⟩⟩, by rw [hkb, ← hsz3, hw4]; exact SMap.made w3, List.Pairwise.nil, fun x hx => by simp at hx, (HB1.out.trans (HB2.out.mono hs1)).trans (h24.mono (Nat.le_trans hs1 hs2)), by omega, by omega, fun h => by omega, Nat.le_refl _⟩)
          clear hmk hconv hw3 hw4 hkb hb3 hb4 hsz3 hlt2 hpm hs1 hs2 h24 hmm
          go_wp2_with fail
          go_loopw [8, 55] (fun rv iv wr => ∃ r i : Nat, rv = .int .i64 (r : Int) ∧ iv = .int .i64 (i : Int) ∧ i ≤ len ∧ Hid (∃ S K, PutPhase w wr pp mb kb vl S r K i)) (fun _ iv _ => len - (intOf iv).toNat)
          case atStart => exact ⟨0, 0, rfl, rfl, Nat.zero_le _, Lib.hid ⟨_, _, HPH.out⟩⟩
          case round =>
            obtain ⟨r, i, rfl, rfl, hil, HR⟩ := hrel
            obtain ⟨S, K, hph⟩ := HR.out
            have HPH := Lib.hid hph
            clear HR hph
            by_cases hin : i < len
            · have hin2 : (i : Int) < (len : Int) := by omega
              obtain ⟨n, hn⟩ : ∃ n, l[i]? = some n := ⟨_, List.getElem?_eq_getElem (by rw [HL.out]; exact hin)⟩
              obtain ⟨ad, rfl, cn⟩ := HA.out.2 i n hn
              rw [← World.cell?_of_block (HPH.out.bel.block _ (World.block_lt_of_cell? w _ cn))] at cn
              have hn6 : n < 65536 := HA.out.1 n (List.mem_of_getElem? hn)
              have HN := Lib.hid hn
              clear hn
              have hconv := conv2 wr hn6
              obtain ⟨z, hz⟩ : ∃ z, z = bytesOf [UInt8.ofNat (n / 256), UInt8.ofNat (n % 256)] := ⟨_, rfl⟩
              rw [← hz] at hconv
              have hkey : (⟨#[107]⟩ : ByteArray) ++ z = keyOf n := by rw [hz]; rfl
              have hzs : z.size = 2 := by rw [hz]; rfl
              clear hz
              obtain ⟨S', r', K', hput, hst, hsrt, hmem, hkne⟩ := put_tree hv HPH.out.st (by omega) hn6
              have hr9 : r < 9000000000 := by have h1 := HPH.out.st.root_le; have h2 := HPH.out.st.1; omega
              have hlenK := len_ins HPH.out.sorted hsrt hmem
              have hKl := HPH.out.len
              have ha5 : Below wr.heap.size wr (wr.alloc (.cells #[.int .u8 ((n : Int) / 256), .int .u8 ((n : Int) % 256)] 5)) := below_alloc (Below.refl _ _) _
              have HPUT := Lib.hid hput
              have HST := Lib.hid (And.intro hst (And.intro hsrt (And.intro hmem (And.intro hkne (And.intro hlenK hKl)))))
              have HA5 := Lib.hid ha5
              have HP5 := Lib.hid (HPH.out.pg.below ha5)
              clear hput hst hsrt hmem hkne hlenK hKl ha5
              go_wp2_with (first | (go_at_call 6; refine (Put_calls HPUT.out HP5.out hr9).mono ?_; rintro e w6 ⟨rfl, hp6, hk6⟩; have HP6 := Lib.hid hp6; have HK6 := Lib.hid hk6; have HM6 := Lib.hid ((HPH.out.map.below HA5.out).keep (hk6.block _ (HPH.out.map.below HA5.out).lt ⟨HPH.out.ne, HPH.out.map.not_cells HPH.out.pg.blk⟩)); clear hp6 hk6) | (at_mapUpdate; refine wpList_store_S _ rfl _ _ _ rfl kb K K' rfl HM6.out (by have := HST.out.2.2.2.2.2; omega) n hn6 rfl rfl HST.out.2.2.2.2.1 HST.out.2.2.1 ?_; intro w7 hs7 ht7; have HS7 := Lib.hid hs7; have HT7 := Lib.hid ht7; clear hs7 ht7))
              have hph := HPH.out
              have hsz5 := HA5.out.size
              have hb0 := hph.bel.size
              have hlow := hph.low
              have hk7 := turned_keep HT7.out
              have hb5 : Below w.heap.size w (wr.alloc (.cells #[.int .u8 ((n : Int) / 256), .int .u8 ((n : Int) % 256)] 5)) := hph.bel.trans (HA5.out.mono hb0)
              have hb6 : Below w.heap.size w w6 := hb5.trans (HK6.out.below (Nat.le_trans hb0 hsz5) (fun k hk => ⟨by omega, by omega⟩))
              have hb7 : Below w.heap.size w w7 := hb6.trans (hk7.below hb6.size (fun k hk => by omega))
              have hp7 : PgAt w7 pp mb S'.nx S'.F := HP6.out.keep (hk7.block _ HP6.out.lt.1 (fun e => HPH.out.map.not_cells HPH.out.pg.blk e.symm)) (hk7.block _ HP6.out.lt.2 (fun e => hph.ne e.symm))
              refine ⟨⟨r', i + 1, rfl, rfl, by omega, Lib.hid ⟨S', K', hp7, HST.out.1, HS7.out, HST.out.2.1, fun x hx => ?_, hb7, hph.ne, hph.low, fun _ => HST.out.2.2.2.1, ?_⟩⟩, by simp only [intOf]; omega⟩
              · rcases (HST.out.2.2.1 x).1 hx with rfl | hx
                · exact hn6
                · exact hph.small x hx
              · have h1 := HST.out.2.2.2.2.1
                have h2 := hph.len
                split at h1 <;> omega
            · have hin2 : ¬ ((i : Int) < (len : Int)) := by omega
              obtain rfl : i = len := by omega
              have st2 := HPH.out.st.two (by omega)
              have hKne := HPH.out.some (by omega)
              have hKl := HPH.out.len
              have hwalk := walk_tree hv st2 hKne (by omega)
              have hr9 : r < 9000000000 := by have h1 := st2.root_le; have h2 := st2.1; omega
              obtain ⟨m, hm⟩ : ∃ m, m = K.length := ⟨_, rfl⟩
              have hm0 : 0 < m := by rw [hm]; exact List.length_pos_iff.2 hKne
              have hm600 : m ≤ 600 := by omega
              have HMK := Lib.hid hm
              have HST := Lib.hid st2
              have HWALK := Lib.hid hwalk
              clear st2 hKne hKl hwalk hm hin
              go_upto_region 20 with (first | (go_at_call 7; refine (Range_calls (k := 10) (limit := 1000) HWALK.out HPH.out.pg hr9 (by decide) (by decide)).mono ?_; rintro e w5 ⟨v5, rfl, hr5, hb5⟩; obtain ⟨bk, ck, rfl, hmc, hbk⟩ := rowP_some hr5 (by rw [prs_len, ← HMK.out]; exact hm0); rw [prs_len, ← HMK.out] at hmc ⊢; have HB5 := Lib.hid hb5; have HPR := Lib.hid (prs_at hr5); have HBK := Lib.hid hbk; clear hr5 hb5))
              have HP5 := Lib.hid (HPH.out.pg.below HB5.out)
              have HM5 := Lib.hid (HPH.out.map.below HB5.out)
              have hlenm := fun ty => HM5.out.len ty
              rw [← HMK.out] at hlenm
              have hlt5 := HP5.out.lt
              have hb5 := HPH.out.bel.trans (HB5.out.mono HPH.out.bel.size)
              have HBW := Lib.hid hb5
              clear hb5 hlt5
              go_wp2_with fail
              clear hlenm
              go_loopw [100] (fun iv wr => ∃ i2 : Nat, iv = .int .i64 (i2 : Int) ∧ i2 ≤ m ∧ Hid (Below w5.heap.size w5 wr)) (fun iv _ => m - (intOf iv).toNat)
              case atStart => exact ⟨0, rfl, Nat.zero_le _, Lib.hid (Below.refl _ _)⟩
              case round =>
                obtain ⟨i2, rfl, hi2, HBR⟩ := hrel
                by_cases hin2 : i2 < m
                · have hin3 : (i2 : Int) < (m : Int) := by omega
                  obtain ⟨ki, hki⟩ : ∃ ki, K[i2]? = some ki := ⟨_, List.getElem?_eq_getElem (by rw [← HMK.out]; exact hin2)⟩
                  have hki6 : ki < 65536 := HPH.out.small _ (List.mem_of_getElem? hki)
                  obtain ⟨y0, y1⟩ := (HPR.out.below HBR.out).at (prs_get vl hki)
                  simp only [Nat.zero_add] at y0 y1
                  have HKI := Lib.hid hki
                  clear hki
                  go_upto_region 25 with fail
                  obtain ⟨g19, hg19⟩ : ∃ g19, g19 = wr.heap.size := ⟨_, rfl⟩
                  obtain ⟨w6, hw6⟩ : ∃ w6, w6 = wr.alloc (.cells #[.string (keyOf ki), .string vl] 38) := ⟨_, rfl⟩
                  have hb6 : Below wr.heap.size wr w6 := by rw [hw6]; exact below_alloc (Below.refl _ _) _
                  have BX6 := Lib.hid (show w6.heap[g19]? = some (.cells #[.string (keyOf ki), .string vl] 38 (0, 0)) by rw [hw6, hg19]; exact blk_new _ _)
                  rw [← hw6, ← hg19]
                  obtain ⟨w7, hw7⟩ : ∃ w7, w7 = w6.drew := ⟨_, rfl⟩
                  have hb7 : Below w6.heap.size w6 w7 := by rw [hw7]; exact below_drew (Below.refl _ _)
                  have HB7 := Lib.hid ((HBR.out.trans (hb6.mono HBR.out.size)).trans (hb7.mono (Nat.le_trans HBR.out.size hb6.size)))
                  have BX7 := Lib.hid (blk_below BX6.out hb7)
                  have hlook := (HM5.out.below HB7.out).look (List.mem_of_getElem? HKI.out) hki6
                  have HW7 := Lib.hid hw7
                  clear hw6 hg19 hb6 hw7 hb7 y0 y1
                  cases i2 with
                  | zero =>
                    have d0 : decide ((0 : Int) > 0) = false := rfl
                    refine start_ (n := 26) (S := fun w' => w'.cell? ⟨g19, 0, none⟩ = some (.string (keyOf ki)) ∧ w'.cell? ⟨g19, 1, none⟩ = some (.string vl)) (ds := []) #[false, false, false, false, false, false, false, false, false, false, false, false, false, false, false, false, false, false, false, false, false, false, false, false, false, false] (by kernel_rfl) rfl rfl ⟨(by rw [← HW7.out]; exact (blk_cell BX7.out 0).trans rfl), (by rw [← HW7.out]; exact (blk_cell BX7.out 1).trans rfl)⟩ (fun hHeld => ?_)
                    rw [← HW7.out] at hHeld ⊢
                    refine pure_ (i := 0) (N := some 105) (v := ?_) (a' := ?_) #[true, false, false, false, false, false, false, false, false, false, false, false, false, false, false, false, false, false, false, false, false, false, false, false, false, false] rfl rfl (by kernel_rfl) (fun _ _ _ h => h) (Or.inl ⟨by rfl, ?_⟩) ?_ ?_
                    rotate_left
                    · intro w'
                      go_simp
                      with_reducible rfl
                    rotate_left
                    · simp only [Act.put, List.setIfInBounds_toArray, List.set_cons_zero, List.set_cons_succ]
                      rfl
                    refine pure_ (i := 1) (N := some 106) (v := ?_) (a' := ?_) #[true, true, false, false, false, false, false, false, false, false, false, false, false, false, false, false, false, false, false, false, false, false, false, false, false, false] rfl rfl (by kernel_rfl) (fun _ _ _ h => h) (Or.inl ⟨by rfl, ?_⟩) ?_ ?_
                    rotate_left
                    · intro w'
                      go_simp
                      with_reducible rfl
                    rotate_left
                    · simp only [Act.put, List.setIfInBounds_toArray, List.set_cons_zero, List.set_cons_succ]
                      rfl
                    refine take_ (i := 2) (N := some 107) (v := ?_) (a' := ?_) #[true, true, true, false, false, false, false, false, false, false, false, false, false, false, false, false, false, false, false, false, false, false, false, false, false, false] rfl rfl (by kernel_rfl) (fun _ _ _ h => h) (Or.inl ⟨by rfl, ?_⟩) hHeld ?_ ?_
                    rotate_left
                    · rintro w' ⟨s0, s1⟩
                      go_simp
                      with_reducible rfl
                    rotate_left
                    · simp only [Act.put, List.setIfInBounds_toArray, List.set_cons_zero, List.set_cons_succ]
                      rfl
                    refine one_ (i := 3) (N := some 108) #[true, true, true, true, false, false, false, false, false, false, false, false, false, false, false, false, false, false, false, false, false, false, false, false, false, false] rfl rfl (by kernel_rfl) (by decide) (fun K hK => ?_)
                    refine value_ (w1 := ?_) (v := ?_) (by rfl) rfl ?_ ?_
                    rotate_left 2
                    · go_simp
                      constructor
                      · rfl
                      · rfl
                    refine hK.out _ _ ⟨(blk_cell BX7.out 0).trans rfl, (blk_cell BX7.out 1).trans rfl⟩ (fun hHeld => ?_)
                    clear hK K
                    refine norm_ (a' := ?_) ?_ ?_
                    rotate_left
                    · show Act.put _ (some 108) _ = _
                      simp only [Act.put, List.setIfInBounds_toArray, List.set_cons_zero, List.set_cons_succ]
                      rfl
                    refine pure_ (i := 4) (N := some 109) (v := ?_) (a' := ?_) #[true, true, true, true, true, false, false, false, false, false, false, false, false, false, false, false, false, false, false, false, false, false, false, false, false, false] rfl rfl (by kernel_rfl) (fun _ _ _ h => h) (Or.inl ⟨by rfl, ?_⟩) ?_ ?_
                    rotate_left
                    · intro w'
                      go_simp
                      with_reducible rfl
                    rotate_left
                    · simp only [Act.put, List.setIfInBounds_toArray, List.set_cons_zero, List.set_cons_succ]
                      rfl
                    refine pure_ (i := 5) (N := some 110) (v := ?_) (a' := ?_) #[true, true, true, true, true, true, false, false, false, false, false, false, false, false, false, false, false, false, false, false, false, false, false, false, false, false] rfl rfl (by kernel_rfl) (fun _ _ _ h => h) (Or.inl ⟨by rfl, ?_⟩) ?_ ?_
                    rotate_left
                    · intro w'
                      go_simp
                      with_reducible rfl
                    rotate_left
                    · simp only [Act.put, List.setIfInBounds_toArray, List.set_cons_zero, List.set_cons_succ]
                      rfl
                    refine pure_ (i := 6) (N := some 111) (v := ?_) (a' := ?_) #[true, true, true, true, true, true, true, false, false, false, false, false, false, false, false, false, false, false, false, false, false, false, false, false, false, false] rfl rfl (by kernel_rfl) (fun _ _ _ h => h) (Or.inl ⟨by rfl, ?_⟩) ?_ ?_
                    rotate_left
                    · intro w'
                      go_simp
                      with_reducible rfl
                    rotate_left
                    · simp only [Act.put, List.setIfInBounds_toArray, List.set_cons_zero, List.set_cons_succ]
                      rfl
                    refine pure_ (i := 8) (N := some 113) (v := ?_) (a' := ?_) #[true, true, true, true, true, true, true, false, true, false, false, false, false, false, false, false, false, false, false, false, false, false, false, false, false, false] rfl rfl (by kernel_rfl) (fun _ _ _ h => h) (Or.inl ⟨by rfl, ?_⟩) ?_ ?_
                    rotate_left
                    · intro w'
                      go_simp
                      with_reducible rfl
                    rotate_left
                    · simp only [Act.put, List.setIfInBounds_toArray, List.set_cons_zero, List.set_cons_succ]
                      rfl
                    refine take_ (i := 7) (N := some 112) (v := ?_) (a' := ?_) #[true, true, true, true, true, true, true, true, true, false, false, false, false, false, false, false, false, false, false, false, false, false, false, false, false, false] rfl rfl (by kernel_rfl) (fun _ _ _ h => h) (Or.inl ⟨by rfl, ?_⟩) hHeld ?_ ?_
                    rotate_left
                    · rintro w' ⟨s0, s1⟩
                      go_simp
                      with_reducible rfl
                    rotate_left
                    · simp only [Act.put, List.setIfInBounds_toArray, List.set_cons_zero, List.set_cons_succ]
                      rfl
                    refine pure_ (i := 9) (N := some 114) (v := ?_) (a' := ?_) #[true, true, true, true, true, true, true, true, true, true, false, false, false, false, false, false, false, false, false, false, false, false, false, false, false, false] rfl rfl (by kernel_rfl) (fun _ _ _ h => h) (Or.inl ⟨by rfl, ?_⟩) ?_ ?_
                    rotate_left
                    · intro w'
                      go_simp
                      with_reducible rfl
                    rotate_left
                    · simp only [Act.put, List.setIfInBounds_toArray, List.set_cons_zero, List.set_cons_succ]
                      rfl
                    refine pure_ (i := 10) (N := some 115) (v := ?_) (a' := ?_) #[true, true, true, true, true, true, true, true, true, true, true, false, false, false, false, false, false, false, false, false, false, false, false, false, false, false] rfl rfl (by kernel_rfl) (fun _ _ _ h => h) (Or.inl ⟨by rfl, ?_⟩) ?_ ?_
                    rotate_left
                    · intro w'
                      go_simp
                      with_reducible rfl
                    rotate_left
                    · simp only [Act.put, List.setIfInBounds_toArray, List.set_cons_zero, List.set_cons_succ]
                      rfl
                    refine pure_ (i := 11) (N := some 116) (v := ?_) (a' := ?_) #[true, true, true, true, true, true, true, true, true, true, true, true, false, false, false, false, false, false, false, false, false, false, false, false, false, false] rfl rfl (by kernel_rfl) (fun _ _ _ h => h) (Or.inl ⟨by rfl, ?_⟩) ?_ ?_
                    rotate_left
                    · intro w'
                      go_simp
                      with_reducible rfl
                    rotate_left
                    · simp only [Act.put, List.setIfInBounds_toArray, List.set_cons_zero, List.set_cons_succ]
                      rfl
                    refine pure_ (i := 12) (N := some 117) (v := ?_) (a' := ?_) #[true, true, true, true, true, true, true, true, true, true, true, true, true, false, false, false, false, false, false, false, false, false, false, false, false, false] rfl rfl (by kernel_rfl) (fun _ _ _ h => h) (Or.inl ⟨by rfl, ?_⟩) ?_ ?_
                    rotate_left
                    · intro w'
                      go_simp
                      with_reducible rfl
                    rotate_left
                    · simp only [Act.put, List.setIfInBounds_toArray, List.set_cons_zero, List.set_cons_succ]
                      rfl
                    refine pure_ (i := 13) (N := some 118) (v := ?_) (a' := ?_) #[true, true, true, true, true, true, true, true, true, true, true, true, true, true, false, false, false, false, false, false, false, false, false, false, false, false] rfl rfl (by kernel_rfl) (fun _ _ _ h => h) (Or.inl ⟨by rfl, ?_⟩) ?_ ?_
                    rotate_left
                    · intro w'
                      go_simp
                      with_reducible rfl
                    rotate_left
                    · simp only [Act.put, List.setIfInBounds_toArray, List.set_cons_zero, List.set_cons_succ]
                      rfl
                    refine pure_ (i := 14) (N := some 119) (v := ?_) (a' := ?_) #[true, true, true, true, true, true, true, true, true, true, true, true, true, true, true, false, false, false, false, false, false, false, false, false, false, false] rfl rfl (by kernel_rfl) (fun _ _ _ h => h) (Or.inl ⟨by rfl, ?_⟩) ?_ ?_
                    rotate_left
                    · intro w'
                      go_simp
                      with_reducible rfl
                    rotate_left
                    · simp only [Act.put, List.setIfInBounds_toArray, List.set_cons_zero, List.set_cons_succ]
                      rfl
                    refine pure_ (i := 15) (N := some 120) (v := undef) (a' := ?_) #[true, true, true, true, true, true, true, true, true, true, true, true, true, true, true, true, false, false, false, false, false, false, false, false, false, false] rfl rfl (by kernel_rfl) (fun _ _ _ h => h) (Or.inr ⟨by rfl, rfl⟩) ?_ ?_
                    rotate_left
                    · simp only [Act.put, List.setIfInBounds_toArray, List.set_cons_zero, List.set_cons_succ]
                      rfl
                    refine pure_ (i := 16) (N := some 121) (v := undef) (a' := ?_) #[true, true, true, true, true, true, true, true, true, true, true, true, true, true, true, true, true, false, false, false, false, false, false, false, false, false] rfl rfl (by kernel_rfl) (fun _ _ _ h => h) (Or.inr ⟨by rfl, rfl⟩) ?_ ?_
                    rotate_left
                    · simp only [Act.put, List.setIfInBounds_toArray, List.set_cons_zero, List.set_cons_succ]
                      rfl
                    refine pure_ (i := 17) (N := some 122) (v := undef) (a' := ?_) #[true, true, true, true, true, true, true, true, true, true, true, true, true, true, true, true, true, true, false, false, false, false, false, false, false, false] rfl rfl (by kernel_rfl) (fun _ _ _ h => h) (Or.inr ⟨by rfl, rfl⟩) ?_ ?_
                    rotate_left
                    · simp only [Act.put, List.setIfInBounds_toArray, List.set_cons_zero, List.set_cons_succ]
                      rfl
                    refine pure_ (i := 18) (N := some 123) (v := undef) (a' := ?_) #[true, true, true, true, true, true, true, true, true, true, true, true, true, true, true, true, true, true, true, false, false, false, false, false, false, false] rfl rfl (by kernel_rfl) (fun _ _ _ h => h) (Or.inr ⟨by rfl, rfl⟩) ?_ ?_
                    rotate_left
                    · simp only [Act.put, List.setIfInBounds_toArray, List.set_cons_zero, List.set_cons_succ]
                      rfl
                    refine pure_ (i := 19) (N := some 124) (v := undef) (a' := ?_) #[true, true, true, true, true, true, true, true, true, true, true, true, true, true, true, true, true, true, true, true, false, false, false, false, false, false] rfl rfl (by kernel_rfl) (fun _ _ _ h => h) (Or.inr ⟨by rfl, rfl⟩) ?_ ?_
                    rotate_left
                    · simp only [Act.put, List.setIfInBounds_toArray, List.set_cons_zero, List.set_cons_succ]
                      rfl
                    refine pure_ (i := 20) (N := some 125) (v := undef) (a' := ?_) #[true, true, true, true, true, true, true, true, true, true, true, true, true, true, true, true, true, true, true, true, true, false, false, false, false, false] rfl rfl (by kernel_rfl) (fun _ _ _ h => h) (Or.inr ⟨by rfl, rfl⟩) ?_ ?_
                    rotate_left
                    · simp only [Act.put, List.setIfInBounds_toArray, List.set_cons_zero, List.set_cons_succ]
                      rfl
                    refine pure_ (i := 21) (N := some 126) (v := undef) (a' := ?_) #[true, true, true, true, true, true, true, true, true, true, true, true, true, true, true, true, true, true, true, true, true, true, false, false, false, false] rfl rfl (by kernel_rfl) (fun _ _ _ h => h) (Or.inr ⟨by rfl, rfl⟩) ?_ ?_
                    rotate_left
                    · simp only [Act.put, List.setIfInBounds_toArray, List.set_cons_zero, List.set_cons_succ]
                      rfl
                    refine pure_ (i := 22) (N := some 127) (v := undef) (a' := ?_) #[true, true, true, true, true, true, true, true, true, true, true, true, true, true, true, true, true, true, true, true, true, true, true, false, false, false] rfl rfl (by kernel_rfl) (fun _ _ _ h => h) (Or.inr ⟨by rfl, rfl⟩) ?_ ?_
                    rotate_left
                    · simp only [Act.put, List.setIfInBounds_toArray, List.set_cons_zero, List.set_cons_succ]
                      rfl
                    refine pure_ (i := 23) (N := some 128) (v := undef) (a' := ?_) #[true, true, true, true, true, true, true, true, true, true, true, true, true, true, true, true, true, true, true, true, true, true, true, true, false, false] rfl rfl (by kernel_rfl) (fun _ _ _ h => h) (Or.inr ⟨by rfl, rfl⟩) ?_ ?_
                    rotate_left
                    · simp only [Act.put, List.setIfInBounds_toArray, List.set_cons_zero, List.set_cons_succ]
                      rfl
                    refine pure_ (i := 24) (N := some 129) (v := ?_) (a' := ?_) #[true, true, true, true, true, true, true, true, true, true, true, true, true, true, true, true, true, true, true, true, true, true, true, true, true, false] rfl rfl (by kernel_rfl) (fun _ _ _ h => h) (Or.inl ⟨by rfl, ?_⟩) ?_ ?_
                    rotate_left
                    · intro w'
                      go_simp
                      with_reducible rfl
                    rotate_left
                    · simp only [Act.put, List.setIfInBounds_toArray, List.set_cons_zero, List.set_cons_succ]
                      rfl
                    refine pure_ (i := 25) (N := some 130) (v := ?_) (a' := ?_) #[true, true, true, true, true, true, true, true, true, true, true, true, true, true, true, true, true, true, true, true, true, true, true, true, true, true] rfl rfl (by kernel_rfl) (fun _ _ _ h => h) (Or.inl ⟨by rfl, ?_⟩) ?_ ?_
                    rotate_left
                    · intro w'
                      go_simp
                      with_reducible rfl
                    rotate_left
                    · simp only [Act.put, List.setIfInBounds_toArray, List.set_cons_zero, List.set_cons_succ]
                      rfl
                    refine done_ (by kernel_rfl) ?_
                    clear hHeld
                    go_wp2_with fail
                    exact ⟨⟨1, rfl, by omega, Lib.hid HB7.out⟩, by simp only [intOf]; omega⟩
                  | succ j =>
                    obtain ⟨kj, hkj⟩ : ∃ kj, K[j]? = some kj := ⟨_, List.getElem?_eq_getElem (by rw [← HMK.out]; omega)⟩
                    have hkj6 : kj < 65536 := HPH.out.small _ (List.mem_of_getElem? hkj)
                    have CJ7 := Lib.hid ((HPR.out.below HB7.out).at (prs_get vl hkj)).1
                    simp only [Nat.zero_add] at CJ7
                    have hlt : Op.bytesLess (keyOf kj).toList (keyOf ki).toList = true := by
                      have h1 := lt_key hkj6 hki6
                      rw [decide_eq_true (sorted_get HPH.out.sorted hkj HKI.out)] at h1
                      exact h1
                    clear hkj
                    have hwj : IntKind.i64.wrap (j : Int) = (j : Int) := IntWalk.i64_in _ (by omega)
                    have hj0 : (0 : Int) ≤ (j : Int) := by omega
                    have hjm : (j : Int) < (m : Int) := by omega
                    refine start_ (n := 26) (S := fun w' => w'.cell? ⟨g19, 0, none⟩ = some (.string (keyOf ki)) ∧ w'.cell? ⟨g19, 1, none⟩ = some (.string vl) ∧ w'.cell? ⟨bk, j * 2, none⟩ = some (.string (keyOf kj))) (ds := []) #[false, false, false, false, false, false, false, false, false, false, false, false, false, false, false, false, false, false, false, false, false, false, false, false, false, false] (by kernel_rfl) rfl rfl ⟨(by rw [← HW7.out]; exact (blk_cell BX7.out 0).trans rfl), (by rw [← HW7.out]; exact (blk_cell BX7.out 1).trans rfl), (by rw [← HW7.out]; exact CJ7.out)⟩ (fun hHeld => ?_)
                    rw [← HW7.out] at hHeld ⊢
                    refine pure_ (i := 0) (N := some 105) (v := ?_) (a' := ?_) #[true, false, false, false, false, false, false, false, false, false, false, false, false, false, false, false, false, false, false, false, false, false, false, false, false, false] rfl rfl (by kernel_rfl) (fun _ _ _ h => h) (Or.inl ⟨by rfl, ?_⟩) ?_ ?_
                    rotate_left
                    · intro w'
                      go_simp
                      with_reducible rfl
                    rotate_left
                    · simp only [Act.put, List.setIfInBounds_toArray, List.set_cons_zero, List.set_cons_succ]
                      rfl
                    refine pure_ (i := 1) (N := some 106) (v := ?_) (a' := ?_) #[true, true, false, false, false, false, false, false, false, false, false, false, false, false, false, false, false, false, false, false, false, false, false, false, false, false] rfl rfl (by kernel_rfl) (fun _ _ _ h => h) (Or.inl ⟨by rfl, ?_⟩) ?_ ?_
                    rotate_left
                    · intro w'
                      go_simp
                      with_reducible rfl
                    rotate_left
                    · simp only [Act.put, List.setIfInBounds_toArray, List.set_cons_zero, List.set_cons_succ]
                      rfl
                    refine take_ (i := 2) (N := some 107) (v := ?_) (a' := ?_) #[true, true, true, false, false, false, false, false, false, false, false, false, false, false, false, false, false, false, false, false, false, false, false, false, false, false] rfl rfl (by kernel_rfl) (fun _ _ _ h => h) (Or.inl ⟨by rfl, ?_⟩) hHeld ?_ ?_
                    rotate_left
                    · rintro w' ⟨s0, s1, s2⟩
                      go_simp
                      with_reducible rfl
                    rotate_left
                    · simp only [Act.put, List.setIfInBounds_toArray, List.set_cons_zero, List.set_cons_succ]
                      rfl
                    refine one_ (i := 3) (N := some 108) #[true, true, true, true, false, false, false, false, false, false, false, false, false, false, false, false, false, false, false, false, false, false, false, false, false, false] rfl rfl (by kernel_rfl) (by decide) (fun K hK => ?_)
                    refine value_ (w1 := ?_) (v := ?_) (by rfl) rfl ?_ ?_
                    rotate_left 2
                    · go_simp
                      constructor
                      · rfl
                      · rfl
                    refine hK.out _ _ ⟨(blk_cell BX7.out 0).trans rfl, (blk_cell BX7.out 1).trans rfl, CJ7.out⟩ (fun hHeld => ?_)
                    clear hK K
                    refine norm_ (a' := ?_) ?_ ?_
                    rotate_left
                    · show Act.put _ (some 108) _ = _
                      simp only [Act.put, List.setIfInBounds_toArray, List.set_cons_zero, List.set_cons_succ]
                      rfl
                    refine pure_ (i := 4) (N := some 109) (v := ?_) (a' := ?_) #[true, true, true, true, true, false, false, false, false, false, false, false, false, false, false, false, false, false, false, false, false, false, false, false, false, false] rfl rfl (by kernel_rfl) (fun _ _ _ h => h) (Or.inl ⟨by rfl, ?_⟩) ?_ ?_
                    rotate_left
                    · intro w'
                      go_simp
                      with_reducible rfl
                    rotate_left
                    · simp only [Act.put, List.setIfInBounds_toArray, List.set_cons_zero, List.set_cons_succ]
                      rfl
                    refine pure_ (i := 5) (N := some 110) (v := ?_) (a' := ?_) #[true, true, true, true, true, true, false, false, false, false, false, false, false, false, false, false, false, false, false, false, false, false, false, false, false, false] rfl rfl (by kernel_rfl) (fun _ _ _ h => h) (Or.inl ⟨by rfl, ?_⟩) ?_ ?_
                    rotate_left
                    · intro w'
                      go_simp
                      with_reducible rfl
                    rotate_left
                    · simp only [Act.put, List.setIfInBounds_toArray, List.set_cons_zero, List.set_cons_succ]
                      rfl
                    refine pure_ (i := 6) (N := some 111) (v := ?_) (a' := ?_) #[true, true, true, true, true, true, true, false, false, false, false, false, false, false, false, false, false, false, false, false, false, false, false, false, false, false] rfl rfl (by kernel_rfl) (fun _ _ _ h => h) (Or.inl ⟨by rfl, ?_⟩) ?_ ?_
                    rotate_left
                    · intro w'
                      go_simp
                      with_reducible rfl
                    rotate_left
                    · simp only [Act.put, List.setIfInBounds_toArray, List.set_cons_zero, List.set_cons_succ]
                      rfl
                    refine pure_ (i := 8) (N := some 113) (v := ?_) (a' := ?_) #[true, true, true, true, true, true, true, false, true, false, false, false, false, false, false, false, false, false, false, false, false, false, false, false, false, false] rfl rfl (by kernel_rfl) (fun _ _ _ h => h) (Or.inl ⟨by rfl, ?_⟩) ?_ ?_
                    rotate_left
                    · intro w'
                      go_simp
                      with_reducible rfl
                    rotate_left
                    · simp only [Act.put, List.setIfInBounds_toArray, List.set_cons_zero, List.set_cons_succ]
                      rfl
                    refine take_ (i := 7) (N := some 112) (v := ?_) (a' := ?_) #[true, true, true, true, true, true, true, true, true, false, false, false, false, false, false, false, false, false, false, false, false, false, false, false, false, false] rfl rfl (by kernel_rfl) (fun _ _ _ h => h) (Or.inl ⟨by rfl, ?_⟩) hHeld ?_ ?_
                    rotate_left
                    · rintro w' ⟨s0, s1, s2⟩
                      go_simp
                      with_reducible rfl
                    rotate_left
                    · simp only [Act.put, List.setIfInBounds_toArray, List.set_cons_zero, List.set_cons_succ]
                      rfl
                    refine pure_ (i := 9) (N := some 114) (v := ?_) (a' := ?_) #[true, true, true, true, true, true, true, true, true, true, false, false, false, false, false, false, false, false, false, false, false, false, false, false, false, false] rfl rfl (by kernel_rfl) (fun _ _ _ h => h) (Or.inl ⟨by rfl, ?_⟩) ?_ ?_
                    rotate_left
                    · intro w'
                      go_simp
                      with_reducible rfl
                    rotate_left
                    · simp only [Act.put, List.setIfInBounds_toArray, List.set_cons_zero, List.set_cons_succ]
                      rfl
                    refine pure_ (i := 10) (N := some 115) (v := ?_) (a' := ?_) #[true, true, true, true, true, true, true, true, true, true, true, false, false, false, false, false, false, false, false, false, false, false, false, false, false, false] rfl rfl (by kernel_rfl) (fun _ _ _ h => h) (Or.inl ⟨by rfl, ?_⟩) ?_ ?_
                    rotate_left
                    · intro w'
                      go_simp
                      with_reducible rfl
                    rotate_left
                    · simp only [Act.put, List.setIfInBounds_toArray, List.set_cons_zero, List.set_cons_succ]
                      rfl
                    refine pure_ (i := 11) (N := some 116) (v := ?_) (a' := ?_) #[true, true, true, true, true, true, true, true, true, true, true, true, false, false, false, false, false, false, false, false, false, false, false, false, false, false] rfl rfl (by kernel_rfl) (fun _ _ _ h => h) (Or.inl ⟨by rfl, ?_⟩) ?_ ?_
                    rotate_left
                    · intro w'
                      go_simp
                      with_reducible rfl
                    rotate_left
                    · simp only [Act.put, List.setIfInBounds_toArray, List.set_cons_zero, List.set_cons_succ]
                      rfl
                    refine pure_ (i := 12) (N := some 117) (v := ?_) (a' := ?_) #[true, true, true, true, true, true, true, true, true, true, true, true, true, false, false, false, false, false, false, false, false, false, false, false, false, false] rfl rfl (by kernel_rfl) (fun _ _ _ h => h) (Or.inl ⟨by rfl, ?_⟩) ?_ ?_
                    rotate_left
                    · intro w'
                      go_simp
                      with_reducible rfl
                    rotate_left
                    · simp only [Act.put, List.setIfInBounds_toArray, List.set_cons_zero, List.set_cons_succ]
                      rfl
                    refine pure_ (i := 13) (N := some 118) (v := ?_) (a' := ?_) #[true, true, true, true, true, true, true, true, true, true, true, true, true, true, false, false, false, false, false, false, false, false, false, false, false, false] rfl rfl (by kernel_rfl) (fun _ _ _ h => h) (Or.inl ⟨by rfl, ?_⟩) ?_ ?_
                    rotate_left
                    · intro w'
                      go_simp
                      with_reducible rfl
                    rotate_left
                    · simp only [Act.put, List.setIfInBounds_toArray, List.set_cons_zero, List.set_cons_succ]
                      rfl
                    refine pure_ (i := 14) (N := some 119) (v := ?_) (a' := ?_) #[true, true, true, true, true, true, true, true, true, true, true, true, true, true, true, false, false, false, false, false, false, false, false, false, false, false] rfl rfl (by kernel_rfl) (fun _ _ _ h => h) (Or.inl ⟨by rfl, ?_⟩) ?_ ?_
                    rotate_left
                    · intro w'
                      go_simp
                      with_reducible rfl
                    rotate_left
                    · simp only [Act.put, List.setIfInBounds_toArray, List.set_cons_zero, List.set_cons_succ]
                      rfl
                    refine pure_ (i := 15) (N := some 120) (v := ?_) (a' := ?_) #[true, true, true, true, true, true, true, true, true, true, true, true, true, true, true, true, false, false, false, false, false, false, false, false, false, false] rfl rfl (by kernel_rfl) (fun _ _ _ h => h) (Or.inl ⟨by rfl, ?_⟩) ?_ ?_
                    rotate_left
                    · intro w'
                      go_simp
                      with_reducible rfl
                    rotate_left
                    · simp only [Act.put, List.setIfInBounds_toArray, List.set_cons_zero, List.set_cons_succ]
                      rfl
                    refine pure_ (i := 16) (N := some 121) (v := ?_) (a' := ?_) #[true, true, true, true, true, true, true, true, true, true, true, true, true, true, true, true, true, false, false, false, false, false, false, false, false, false] rfl rfl (by kernel_rfl) (fun _ _ _ h => h) (Or.inl ⟨by rfl, ?_⟩) ?_ ?_
                    rotate_left
                    · intro w'
                      go_simp
                      with_reducible rfl
                    rotate_left
                    · simp only [Act.put, List.setIfInBounds_toArray, List.set_cons_zero, List.set_cons_succ]
                      rfl
                    refine pure_ (i := 17) (N := some 122) (v := ?_) (a' := ?_) #[true, true, true, true, true, true, true, true, true, true, true, true, true, true, true, true, true, true, false, false, false, false, false, false, false, false] rfl rfl (by kernel_rfl) (fun _ _ _ h => h) (Or.inl ⟨by rfl, ?_⟩) ?_ ?_
                    rotate_left
                    · intro w'
                      go_simp
                      with_reducible rfl
                    rotate_left
                    · simp only [Act.put, List.setIfInBounds_toArray, List.set_cons_zero, List.set_cons_succ]
                      rfl
                    refine pure_ (i := 18) (N := some 123) (v := ?_) (a' := ?_) #[true, true, true, true, true, true, true, true, true, true, true, true, true, true, true, true, true, true, true, false, false, false, false, false, false, false] rfl rfl (by kernel_rfl) (fun _ _ _ h => h) (Or.inl ⟨by rfl, ?_⟩) ?_ ?_
                    rotate_left
                    · intro w'
                      go_simp
                      with_reducible rfl
                    rotate_left
                    · simp only [Act.put, List.setIfInBounds_toArray, List.set_cons_zero, List.set_cons_succ]
                      rfl
                    refine pure_ (i := 19) (N := some 124) (v := ?_) (a' := ?_) #[true, true, true, true, true, true, true, true, true, true, true, true, true, true, true, true, true, true, true, true, false, false, false, false, false, false] rfl rfl (by kernel_rfl) (fun _ _ _ h => h) (Or.inl ⟨by rfl, ?_⟩) ?_ ?_
                    rotate_left
                    · intro w'
                      go_simp
                      with_reducible rfl
                    rotate_left
                    · simp only [Act.put, List.setIfInBounds_toArray, List.set_cons_zero, List.set_cons_succ]
                      rfl
                    refine pure_ (i := 21) (N := some 126) (v := ?_) (a' := ?_) #[true, true, true, true, true, true, true, true, true, true, true, true, true, true, true, true, true, true, true, true, false, true, false, false, false, false] rfl rfl (by kernel_rfl) (fun _ _ _ h => h) (Or.inl ⟨by rfl, ?_⟩) ?_ ?_
                    rotate_left
                    · intro w'
                      go_simp
                      with_reducible rfl
                    rotate_left
                    · simp only [Act.put, List.setIfInBounds_toArray, List.set_cons_zero, List.set_cons_succ]
                      rfl
                    refine take_ (i := 20) (N := some 125) (v := ?_) (a' := ?_) #[true, true, true, true, true, true, true, true, true, true, true, true, true, true, true, true, true, true, true, true, true, true, false, false, false, false] rfl rfl (by kernel_rfl) (fun _ _ _ h => h) (Or.inl ⟨by rfl, ?_⟩) hHeld ?_ ?_
                    rotate_left
                    · rintro w' ⟨s0, s1, s2⟩
                      go_simp
                      with_reducible rfl
                    rotate_left
                    · simp only [Act.put, List.setIfInBounds_toArray, List.set_cons_zero, List.set_cons_succ]
                      rfl
                    refine take_ (i := 22) (N := some 127) (v := ?_) (a' := ?_) #[true, true, true, true, true, true, true, true, true, true, true, true, true, true, true, true, true, true, true, true, true, true, true, false, false, false] rfl rfl (by kernel_rfl) (fun _ _ _ h => h) (Or.inl ⟨by rfl, ?_⟩) hHeld ?_ ?_
                    rotate_left
                    · rintro w' ⟨s0, s1, s2⟩
                      go_simp
                      with_reducible rfl
                    rotate_left
                    · simp only [Act.put, List.setIfInBounds_toArray, List.set_cons_zero, List.set_cons_succ]
                      rfl
                    refine pure_ (i := 23) (N := some 128) (v := ?_) (a' := ?_) #[true, true, true, true, true, true, true, true, true, true, true, true, true, true, true, true, true, true, true, true, true, true, true, true, false, false] rfl rfl (by kernel_rfl) (fun _ _ _ h => h) (Or.inl ⟨by rfl, ?_⟩) ?_ ?_
                    rotate_left
                    · intro w'
                      go_simp
                      with_reducible rfl
                    rotate_left
                    · simp only [Act.put, List.setIfInBounds_toArray, List.set_cons_zero, List.set_cons_succ]
                      rfl
                    refine pure_ (i := 24) (N := some 129) (v := ?_) (a' := ?_) #[true, true, true, true, true, true, true, true, true, true, true, true, true, true, true, true, true, true, true, true, true, true, true, true, true, false] rfl rfl (by kernel_rfl) (fun _ _ _ h => h) (Or.inl ⟨by rfl, ?_⟩) ?_ ?_
                    rotate_left
                    · intro w'
                      go_simp
                      with_reducible rfl
                    rotate_left
                    · simp only [Act.put, List.setIfInBounds_toArray, List.set_cons_zero, List.set_cons_succ]
                      rfl
                    refine pure_ (i := 25) (N := some 130) (v := ?_) (a' := ?_) #[true, true, true, true, true, true, true, true, true, true, true, true, true, true, true, true, true, true, true, true, true, true, true, true, true, true] rfl rfl (by kernel_rfl) (fun _ _ _ h => h) (Or.inl ⟨by rfl, ?_⟩) ?_ ?_
                    rotate_left
                    · intro w'
                      go_simp
                      with_reducible rfl
                    rotate_left
                    · simp only [Act.put, List.setIfInBounds_toArray, List.set_cons_zero, List.set_cons_succ]
                      rfl
                    refine done_ (by kernel_rfl) ?_
                    clear hHeld
                    go_wp2_with fail
                    exact ⟨⟨j + 2, rfl, by omega, Lib.hid HB7.out⟩, by simp only [intOf]; omega⟩
                · have hin3 : ¬ ((i2 : Int) < (m : Int)) := by omega
                  have hm0' : ¬ (m : Int) = 0 := by omega
                  have hm0'' : ¬ m = 0 := by omega
                  obtain ⟨t1, m0, s0, ha1, ha2, ha3, ha4, ha5, ha6, ha7⟩ := into hm0 hm600 turn
                  have HFB := Lib.hid (show farP pp mb bk from ⟨by have := HPH.out.pg.lt; have := HBK.out; omega, by have := HPH.out.pg.lt; have := HBK.out; omega⟩)
                  have HCP := Lib.hid (show CutPhase w5 wr pp mb vl S r K K from ⟨HP5.out.below HBR.out, HST.out, fun _ h => h, Keep.of_below HBR.out⟩)
                  clear hin2 hi2
                  go_upto_region 29 with fail
                  clear ha1 ha2 ha3 ha4 ha7
                  go_wp2_with fail
                  go_loopw [8, 144] (fun rv iv wr => ∃ r3 i3 : Nat, rv = .int .i64 (r3 : Int) ∧ iv = .int .i64 (i3 : Int) ∧ i3 ≤ m ∧ Hid (∃ S3 K3, CutPhase w5 wr pp mb vl S3 r3 K K3)) (fun _ iv _ => m - (intOf iv).toNat)
                  case atStart => exact ⟨r, 0, rfl, rfl, Nat.zero_le _, Lib.hid ⟨S, K, HCP.out⟩⟩
                  case round =>
                    obtain ⟨r3, i3, rfl, rfl, hi3, HR3⟩ := hrel
                    obtain ⟨S3, K3, hcp3⟩ := HR3.out
                    have HC3 := Lib.hid hcp3
                    clear hcp3 HR3
                    by_cases hin4 : i3 < m
                    · have hin5 : (i3 : Int) < (m : Int) := by omega
                      obtain ⟨a7, ha7⟩ : ∃ a7, a7 = i3 * 7 := ⟨_, rfl⟩
                      obtain ⟨a8, ha8⟩ : ∃ a8, a8 = a7 + s0 := ⟨_, rfl⟩
                      obtain ⟨j3, hj3⟩ : ∃ j3, j3 = a8 % m := ⟨_, rfl⟩
                      have q1 : IntKind.i64.wrap ((i3 : Int) * 7) = (a7 : Int) := by rw [IntWalk.i64_in _ (by omega), ha7]; rfl
                      have q2 : IntKind.i64.wrap ((a7 : Int) + (s0 : Int)) = (a8 : Int) := by rw [IntWalk.i64_in _ (by omega), ha8]; rfl
                      have q3 : (a8 : Int) % (m : Int) = (j3 : Int) := by rw [hj3]; rfl
                      have q4 : (a8 : Int).tmod (m : Int) = (j3 : Int) := by rw [Int.tmod_eq_emod_of_nonneg (by omega)]; exact q3
                      have q5 : wrap64 ((i3 : Int) * 7) = (a7 : Int) := by unfold wrap64; omega
                      have q6 : wrap64 ((a7 : Int) + (s0 : Int)) = (a8 : Int) := by unfold wrap64; omega
                      have hj3m : j3 < m := by rw [hj3]; exact Nat.mod_lt _ hm0
                      have hj3m' : (j3 : Int) < (m : Int) := by omega
                      obtain ⟨kj, hkj⟩ : ∃ kj, K[j3]? = some kj := ⟨_, List.getElem?_eq_getElem (by rw [← HMK.out]; exact hj3m)⟩
                      have hkj6 : kj < 65536 := HPH.out.small _ (List.mem_of_getElem? hkj)
                      obtain ⟨y0, -⟩ := (HPR.out.far HC3.out.keep HFB.out).at (prs_get vl hkj)
                      simp only [Nat.zero_add] at y0
                      obtain ⟨S4, r4, fd, K4, hcut, hst4, hmem4⟩ := cut_tree hv HC3.out.st hkj6
                      have hr39 : r3 < 9000000000 := by have h1 := HC3.out.st.root_le; have h2 := HC3.out.st.1; omega
                      have HCUT := Lib.hid hcut
                      have HST4 := Lib.hid (And.intro hst4 hmem4)
                      clear hcut hst4 hmem4 hkj ha7 ha8 hj3
                      go_wp2_with (first | (go_at_call 8; refine (Cut_calls HCUT.out HC3.out.pg hr39).mono ?_; rintro e w8 ⟨rfl, hp8, hk8⟩; have HP8 := Lib.hid hp8; have HK8 := Lib.hid hk8; clear hp8 hk8))
                      trace_state
                      exact ⟨⟨r4, i3 + 1, rfl, rfl, by omega, Lib.hid ⟨S4, K4, HP8.out, HST4.out.1, fun x hx => HC3.out.sub x ((HST4.out.2 x).1 hx).1, HC3.out.keep.trans HK8.out⟩⟩, by simp only [intOf]; omega⟩
                    · have hin5 : ¬ ((i3 : Int) < (m : Int)) := by omega
                      clear hin4 hi3
                      go_wp2_with fail
                      go_loopw [8, 172] (fun rv iv wr => ∃ r4 i4 : Nat, rv = .int .i64 (r4 : Int) ∧ iv = .int .i64 (i4 : Int) ∧ i4 ≤ m ∧ Hid (∃ S4 K4, CutPhase w5 wr pp mb vl S4 r4 K K4 ∧ ∀ x ∈ K4, ∀ j, j < i4 → K[j]? ≠ some x)) (fun _ iv _ => m - (intOf iv).toNat)
                      case atStart => exact ⟨r3, 0, rfl, rfl, Nat.zero_le _, Lib.hid ⟨S3, K3, HC3.out, fun x _ j hj => absurd hj (Nat.not_lt_zero _)⟩⟩
                      case round =>
                        obtain ⟨r4, i4, rfl, rfl, hi4, HR4⟩ := hrel
                        obtain ⟨S4, K4, hcp4, hgone⟩ := HR4.out
                        have HC4 := Lib.hid hcp4
                        have HGO := Lib.hid hgone
                        clear hcp4 HR4 hgone
                        by_cases hin6 : i4 < m
                        · have hin7 : (i4 : Int) < (m : Int) := by omega
                          obtain ⟨kj, hkj⟩ : ∃ kj, K[i4]? = some kj := ⟨_, List.getElem?_eq_getElem (by rw [← HMK.out]; exact hin6)⟩
                          have hkj6 : kj < 65536 := HPH.out.small _ (List.mem_of_getElem? hkj)
                          obtain ⟨y0, y1⟩ := (HPR.out.far HC4.out.keep HFB.out).at (prs_get vl hkj)
                          simp only [Nat.zero_add] at y0 y1
                          obtain ⟨S5, r5, fd, K5, hcut, hst5, hmem5⟩ := cut_tree hv HC4.out.st hkj6
                          have hr49 : r4 < 9000000000 := by have h1 := HC4.out.st.root_le; have h2 := HC4.out.st.1; omega
                          have HCUT := Lib.hid hcut
                          have HST5 := Lib.hid (And.intro hst5 hmem5)
                          have HKJ := Lib.hid hkj
                          clear hcut hst5 hmem5 hkj
                          go_upto_region 40 with fail
                          obtain ⟨g26, hg26⟩ : ∃ g26, g26 = wr.heap.size := ⟨_, rfl⟩
                          obtain ⟨w6, hw6⟩ : ∃ w6, w6 = wr.alloc (.cells #[.string (keyOf kj), .string vl] 38) := ⟨_, rfl⟩
                          have hb6 : Below wr.heap.size wr w6 := by rw [hw6]; exact below_alloc (Below.refl _ _) _
                          have BX6 := Lib.hid (show w6.heap[g26]? = some (.cells #[.string (keyOf kj), .string vl] 38 (0, 0)) by rw [hw6, hg26]; exact blk_new _ _)
                          rw [← hw6, ← hg26]
                          have HP6 := Lib.hid (HC4.out.pg.below hb6)
                          have HK6 := Lib.hid (HC4.out.keep.trans (Keep.of_below hb6))
                          have c0 := (blk_cell BX6.out 0).trans rfl
                          have c1 := (blk_cell BX6.out 1).trans rfl
                          clear hw6 hg26 hb6 y0 y1
                          go_wp2_with (first | (go_at_call 8; refine (Cut_calls HCUT.out HP6.out hr49).mono ?_; rintro e w8 ⟨rfl, hp8, hk8⟩; have HP8 := Lib.hid hp8; have HK8 := Lib.hid hk8; clear hp8 hk8))
                          refine ⟨⟨r5, i4 + 1, rfl, rfl, by omega, Lib.hid ⟨S5, K5, ⟨HP8.out, HST5.out.1, fun x hx => HC4.out.sub x ((HST5.out.2 x).1 hx).1, HK6.out.trans HK8.out⟩, fun x hx j hj => ?_⟩⟩, by simp only [intOf]; omega⟩
                          have hx2 := (HST5.out.2 x).1 hx
                          by_cases hj4 : j = i4
                          · subst hj4
                            rw [HKJ.out]
                            exact fun e => hx2.2 (Option.some.inj e).symm
                          · exact HGO.out x hx2.1 j (by omega)
                        · have hin7 : ¬ ((i4 : Int) < (m : Int)) := by omega
                          obtain rfl : K4 = [] := List.eq_nil_iff_forall_not_mem.2 (fun x hx => by
                            obtain ⟨j, hj, hjx⟩ := List.getElem_of_mem (HC4.out.sub x hx)
                            exact HGO.out x hx j (by have := HMK.out; omega) (by rw [List.getElem?_eq_getElem hj, hjx]))
                          obtain ⟨rfl, hnone⟩ := HC4.out.st.done
                          have hlen0 := fun ty => HC4.out.pg.map.len_zero (fun k => by unfold Pg.F; split; · rw [hnone]; rfl
                                                                                       · rfl) ty
                          have c0 := (blk_cell HC4.out.pg.blk 0).trans rfl
                          have c3 := (blk_cell HC4.out.pg.blk 3).trans rfl
                          clear hnone
                          go_wp2_with fail
                          go_ret
                          refine ⟨rfl, HBW.out.trans (HC4.out.keep.below HBW.out.size (fun k hk => ?_))⟩
                          have := HPH.out.low
                          exact ⟨by omega, by omega⟩
#print axioms TreeMany_calls
end Go.Proofs.YtkmbkgjfhjjicaaT
