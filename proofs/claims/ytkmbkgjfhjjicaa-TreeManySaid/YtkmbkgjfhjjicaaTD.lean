/- Tree: decode and load. -/
import Derived.Test.YtkmbkgjfhjjicaaTR
namespace Go.Proofs.YtkmbkgjfhjjicaaT
open Go.RowKit Go.Maps Go.Proofs Go.Proofs.YtkmbkgjfhjjicaaW.PrintWords Go.Proofs.YtkmbkgjfhjjicaaW.PrintLast

def ba (L : List UInt8) : ByteArray := ⟨L.toArray⟩
theorem ba_size (L : List UInt8) : (ba L).size = L.length := by simp [ba, ByteArray.size]
theorem ba_list (s : ByteArray) : ba s.data.toList = s := by obtain ⟨⟨l⟩⟩ := s; rfl
theorem ba_extract (L : List UInt8) (i j : Nat) : (ba L).extract i j = ba ((L.drop i).take (j - i)) := by
  refine ByteArray.ext ?_
  rw [ByteArray.data_extract]
  refine Array.ext' ?_
  simp [ba, List.extract]
theorem ba_take (L : List UInt8) (j : Nat) : (ba L).extract 0 j = ba (L.take j) := by
  rw [ba_extract]; simp
theorem ba_drop (L : List UInt8) (i : Nat) : (ba L).extract i (ba L).size = ba (L.drop i) := by
  rw [ba_extract, ba_size, List.take_of_length_le (by simp)]
set_option maxHeartbeats 1000000 in
set_option maxRecDepth 100000 in
theorem take_calls {w : World} {gs : Nat} {s : ByteArray} (hs : w.heap[gs]? = some (.cells #[.string s] 9 (0, 0))) (n : Nat) (hn : n ≤ s.size) (hl : s.size < 9000000000) :
    Calls Try.prog 26 #[.int .i64 (n : Int), .pointer (some ⟨gs, 0, none⟩)] w fun e w' => e = .returned (.tuple #[.string (s.extract 0 n), .bool true]) ∧ w' = w.setCell ⟨gs, 0, none⟩ (.string (s.extract n s.size)) := by
  have c0 := (blk_cell hs 0).trans rfl
  have f0 := blk_frozen hs 0
  have d1 : decide ((n : Int) > (s.size : Int)) = false := decide_eq_false (by omega)
  have q1 : (0 : Int) ≤ (n : Int) := Int.natCast_nonneg _
  have q2 : (n : Int) ≤ (s.size : Int) := by omega
  clear hs
  go_enter Try.func26, Try.ntmps26
  go_wp2
  go_ret2
  exact ⟨rfl, rfl⟩
theorem takeL_calls {w : World} {gs : Nat} (L M : List UInt8) (n : Nat) (hs : w.heap[gs]? = some (.cells #[.string (ba (L ++ M))] 9 (0, 0))) (hn : n = L.length) (hl : (L ++ M).length < 9000000000) :
    Calls Try.prog 26 #[.int .i64 (n : Int), .pointer (some ⟨gs, 0, none⟩)] w fun e w' => e = .returned (.tuple #[.string (ba L), .bool true]) ∧ w'.heap[gs]? = some (.cells #[.string (ba M)] 9 (0, 0)) ∧ Keep w w' (fun j => j ≠ gs) := by
  subst hn
  refine (take_calls hs L.length (by rw [ba_size, List.length_append]; omega) (by rw [ba_size]; exact hl)).mono ?_
  rintro e w' ⟨rfl, rfl⟩
  rw [ba_take, ba_drop, List.take_left, List.drop_left]
  exact ⟨rfl, (heap_set hs _).trans rfl, Keep.setCell _ _ _ (fun h => h rfl)⟩
theorem encL_drop {leaf : Bool} {l : List It} {i : Nat} {x : It} (h : l[i]? = some x) : encL leaf (l.drop i) = encI leaf x ++ encL leaf (l.drop (i + 1)) := by
  obtain ⟨hi, rfl⟩ := List.getElem?_eq_some_iff.1 h
  rw [List.drop_eq_getElem_cons hi, encL, List.flatMap_cons]
  rfl
theorem blk_ne {w : World} {g h : Nat} {cs ds : Array Value} {t u : TypeId} (hg : w.heap[g]? = some (.cells cs t (0, 0))) (hh : w.heap[h]? = some (.cells ds u (0, 0))) (ht : t ≠ u) : g ≠ h := by
  rintro rfl
  rw [hg] at hh
  cases hh
  exact ht rfl
/-- A round of decode: the text that is left, the node, the result's cell, the item. -/
structure DS (w0 wr : World) (gs gn g2 gx : Nat) (leaf : Bool) (v : Value) (l : List It) (M : List UInt8) (a b : ByteArray) (c : Int) : Prop where
  s : wr.heap[gs]? = some (.cells #[.string (ba M)] 9 (0, 0))
  n : wr.heap[gn]? = some (.cells #[.bool leaf, v] 56 (0, 0))
  r : wr.heap[g2]? = some (.cells #[.bool false, .slice none 0 0] 56 (0, 0))
  x : wr.heap[gx]? = some (.cells #[.string a, .string b, .int .i64 c] 53 (0, 0))
  row : RowI wr w0.heap.size v l
  rx : v.ownBlock ≠ some gx
  bel : Below w0.heap.size w0 wr
  les : w0.heap.size ≤ gs
  lex : w0.heap.size ≤ gx
structure DE (w0 wr : World) (gs gn g2 : Nat) (leaf : Bool) (v : Value) (l : List It) (M : List UInt8) : Prop where
  s : wr.heap[gs]? = some (.cells #[.string (ba M)] 9 (0, 0))
  n : wr.heap[gn]? = some (.cells #[.bool leaf, v] 56 (0, 0))
  r : wr.heap[g2]? = some (.cells #[.bool false, .slice none 0 0] 56 (0, 0))
  row : RowI wr w0.heap.size v l
  bel : Below w0.heap.size w0 wr
section
variable {w0 wr : World} {gs gn g2 gx : Nat} {leaf : Bool} {v : Value} {l : List It} {M : List UInt8} {a b : ByteArray} {c : Int}
theorem DS.take {L : List UInt8} {w' : World} (h : DS w0 wr gs gn g2 gx leaf v l (L ++ M) a b c) (hs : w'.heap[gs]? = some (.cells #[.string (ba M)] 9 (0, 0))) (hk : Keep wr w' (fun j => j ≠ gs)) : DS w0 w' gs gn g2 gx leaf v l M a b c :=
  ⟨hs, hk.blk h.n (blk_ne h.n h.s (by decide)), hk.blk h.r (blk_ne h.r h.s (by decide)), hk.blk h.x (blk_ne h.x h.s (by decide)), hk.row h.row h.s (by decide), h.rx, h.bel.trans (hk.below h.bel.size (fun k hk' e => by have := h.les; omega)), h.les, h.lex⟩
theorem DS.set (h : DS w0 wr gs gn g2 gx leaf v l M a b c) (j : Nat) (u : Value) {a' b' : ByteArray} {c' : Int} (he : (#[.string a, .string b, .int .i64 c] : Array Value).setIfInBounds j u = #[.string a', .string b', .int .i64 c']) : DS w0 (wr.setCell ⟨gx, j, none⟩ u) gs gn g2 gx leaf v l M a' b' c' := by
  have hk : ∀ k, k ≠ gx → (wr.setCell ⟨gx, j, none⟩ u).heap[k]? = wr.heap[k]? := fun k hk => Below.heap_setCell _ _ _ _ (fun e => hk e)
  refine ⟨(hk gs (blk_ne h.s h.x (by decide))).trans h.s, (hk gn (blk_ne h.n h.x (by decide))).trans h.n, (hk g2 (blk_ne h.r h.x (by decide))).trans h.r, ?_, row_keep h.row (fun k hv => hk k (fun e => h.rx (by rw [hv, e]))), h.rx, h.bel.setCell (p := ⟨gx, j, none⟩) h.lex _, h.les, h.lex⟩
  rw [heap_set h.x, he]
theorem DS.below {w' : World} (h : DS w0 wr gs gn g2 gx leaf v l M a b c) (hb : Below wr.heap.size wr w') : DS w0 w' gs gn g2 gx leaf v l M a b c :=
  ⟨blk_below h.s hb, blk_below h.n hb, blk_below h.r hb, blk_below h.x hb, RowI.keep h.row hb, h.rx, h.bel.trans (hb.mono h.bel.size), h.les, h.lex⟩
/-- The item is appended. -/
theorem DS.append (h : DS w0 wr gs gn g2 gx leaf v l M a b c) (hlen : w0.heap.size ≤ gn) (hner : g2 ≠ gn) {k : Nat} (hc : c = (k : Int)) (hl : l.length < 1000) (ty : TypeId) :
    ∃ v' w', (Builtin.append_ #[54, 54] ty #[v, .slice (some ⟨wr.heap.size, 0, none⟩) 1 1]).run Try.prog (wr.alloc (.cells #[.string a, .string b, .int .i64 c] 53)) = .ok v' w' ∧ DE w0 (w'.setCell ⟨gn, 1, none⟩ v') gs gn g2 leaf v' (l ++ [⟨a, b, k⟩]) M ∧ w'.heap[gn]? = some (.cells #[.bool leaf, v] 56 (0, 0)) := by
  subst hc
  have ha : Below wr.heap.size wr (wr.alloc (.cells #[.string a, .string b, .int .i64 (k : Int)] 53)) := below_alloc (Below.refl _ _) _
  have hn := blk_new wr (.cells #[.string a, .string b, .int .i64 (k : Int)] 53)
  have h2 := h.below ha
  obtain ⟨v', w', hr, ho, hg⟩ := RowI.run_append h2.row [⟨a, b, k⟩] ⟨wr.heap.size, 0, none⟩ 1 (fun j u hu => by
    rw [Addr.add_lit, Nat.zero_add]
    refine (blk_cell hn j).trans ?_
    rw [← hu, show flat [⟨a, b, k⟩] = [.string a, .string b, .int .i64 (k : Int)] from rfl]
    simp) (by simp only [List.length_cons, List.length_nil]; omega) h2.bel.size ty
  have hk : ∀ {g : Nat} {o : Obj}, (wr.alloc (.cells #[.string a, .string b, .int .i64 (k : Int)] 53)).heap[g]? = some o → some g ≠ v.ownBlock → w'.heap[g]? = some o := fun {g} {o} ho hne => (hg.block g (Array.getElem?_eq_some_iff.1 ho).1 hne).trans ho
  have qs := hk h2.s (own_ne h2.row h2.s (by decide))
  have qn := hk h2.n (own_ne h2.row h2.n (by decide))
  have qr := hk h2.r (own_ne h2.row h2.r (by decide))
  have hk' : ∀ k, k ≠ gn → (w'.setCell ⟨gn, 1, none⟩ v').heap[k]? = w'.heap[k]? := fun k hk => Below.heap_setCell _ _ _ _ (fun e => hk e)
  exact ⟨v', w', hr, ⟨(hk' gs (blk_ne qs qn (by decide))).trans qs, (heap_set qn _).trans rfl, (hk' g2 hner).trans qr, row_keep ho (fun k hv => hk' k (fun e => own_ne ho qn (by decide) (by rw [hv, e]))), (grown_belowI h2.row h2.bel h2.bel.size hg).setCell (p := ⟨gn, 1, none⟩) hlen _⟩, qn⟩
end
/-! ### decode -/
theorem results_row_tmp {P : Program} {fn : Func} {p u : Tmp} {ty : TypeId} (h : fn.results = #[.cell p ty, .tmp u]) (tmps : Array Value) (w : World) (g : Nat) (t : TypeId) (cs : Array Value) (fr : Nat × Nat) (d : TypeDesc)
    (hp : tmps.getD p undef = .pointer (some ⟨g, 0, none⟩)) (hg : w.heap[g]? = some (.cells cs t fr))
    (hu : P.underlying ty = some d) (hd : (match d with | .struct _ | .array _ _ => true | _ => false) = true) (hi : (P.info? ty).map (·.size) = some cs.size) :
    (results fn tmps).run P w = .ok (.tuple #[.agg cs, tmps.getD u undef]) w := by
  have hp' : tmps[p]?.getD undef = .pointer (some ⟨g, 0, none⟩) := by simpa using hp
  simp [results, h, hp', asAddr, run_loadVar_row w g t ty cs fr d hg hu hd hi]
theorem val_none {v : ByteArray} (h : v.size = 0) : v = ⟨#[]⟩ := by
  obtain ⟨⟨l⟩⟩ := v
  have : l = [] := List.eq_nil_of_length_eq_zero h
  rw [this]
theorem take_next {l : List It} {i : Nat} {x : It} (h : l[i]? = some x) : l.take (i + 1) = l.take i ++ [x] := by
  rw [List.take_add_one, h]
  rfl
theorem heap_set2 {w : World} {b : Nat} {x y : Value} {t : TypeId} (h : w.heap[b]? = some (.cells #[x, y] t (0, 0))) (x' y' : Value) : ((w.setCell ⟨b, 0, none⟩ x').setCell ⟨b, 1, none⟩ y').heap[b]? = some (.cells #[x', y'] t (0, 0)) :=
  (heap_set (heap_set h x') y').trans rfl
theorem below_set2 {w w' : World} {B b : Nat} (h : Below B w w') (hb : B ≤ b) (x' y' : Value) : Below B w ((w'.setCell ⟨b, 0, none⟩ x').setCell ⟨b, 1, none⟩ y') :=
  (h.setCell (p := ⟨b, 0, none⟩) hb _).setCell (p := ⟨b, 1, none⟩) hb _
theorem infoN : (Try.prog.info? 56).map (·.size) = some 2 := by kernel_rfl
theorem or_child (cn : Nat) (h : cn < 65536) : bits BinOp.or IntKind.i64 (IntKind.i64.wrap (IntKind.i64.wrap ((cn : Int) / 256) * 256)) (IntKind.i64.wrap ((cn : Int) % 256)) = (cn : Int) := by
  rw [IntWalk.i64_in ((cn : Int) / 256) (by omega), IntWalk.i64_in _ (by omega), IntWalk.i64_in _ (by omega)]
  show IntKind.i64.wrap ((BitVec.ofInt 64 ((cn : Int) / 256 * 256) ||| BitVec.ofInt 64 ((cn : Int) % 256)).toNat : Int) = _
  rw [show ((cn : Int) / 256 * 256) = ((cn / 256 * 256 : Nat) : Int) by omega, show ((cn : Int) % 256) = ((cn % 256 : Nat) : Int) by omega, BitVec.ofInt_natCast, BitVec.ofInt_natCast, BitVec.toNat_or, BitVec.toNat_ofNat, BitVec.toNat_ofNat, Nat.mod_eq_of_lt (by omega), Nat.mod_eq_of_lt (by omega)]
  have : cn / 256 * 256 ||| cn % 256 = cn := by
    rw [show cn / 256 * 256 = 2 ^ 8 * (cn / 256) by omega, ← Nat.two_pow_add_eq_or_of_lt (by omega)]
    omega
  rw [this, IntWalk.i64_in _ (by omega)]
set_option maxHeartbeats 4000000 in
set_option maxRecDepth 100000 in
theorem decode_calls {w : World} (n : Nd) (hok : okN n = true) :
    Calls Try.prog 20 #[.string (ba (encN n))] w fun e w' => ∃ v, e = .returned (.tuple #[.agg #[.bool n.leaf, v], .bool true]) ∧ RowI w' w.heap.size v n.items ∧ Below w.heap.size w w' := by
  obtain ⟨leaf, items⟩ := n
  have hok' : items.all (okI leaf) = true ∧ 0 < items.length ∧ items.length < 256 := by
    simp only [okN, Bool.and_eq_true, decide_eq_true_eq] at hok
    exact ⟨hok.1.1.1, hok.1.1.2, hok.1.2⟩
  obtain ⟨hoi, hl0, hl1⟩ := hok'
  have hel := encL_len leaf items hoi
  have hen : encN ⟨leaf, items⟩ = [if leaf then 76 else 78, UInt8.ofNat (items.length % 256)] ++ encL leaf items := rfl
  obtain ⟨s, hs⟩ : ∃ s, s = ba (encN ⟨leaf, items⟩) := ⟨_, rfl⟩
  have hsz : s.size = 2 + (encL leaf items).length := by rw [hs, ba_size, hen, List.length_append]; rfl
  obtain ⟨hd, hhd⟩ : ∃ hd : UInt8, hd = if leaf then 76 else 78 := ⟨_, rfl⟩
  obtain ⟨ln, hln⟩ : ∃ ln, ln = items.length := ⟨_, rfl⟩
  obtain ⟨lb, hlb⟩ : ∃ lb : UInt8, lb = UInt8.ofNat (ln % 256) := ⟨_, rfl⟩
  have hs2 : s = ba ([hd, lb] ++ encL leaf items) := by rw [hs, hen, hhd, hlb, hln]
  simp only
  rw [← hs]
  have HOI := Lib.hid hoi
  have HLN := Lib.hid hln
  have HHD := Lib.hid hhd
  have HLB := Lib.hid hlb
  have HS2 := Lib.hid hs2
  have HSZ := Lib.hid hsz
  have HEL := Lib.hid hel
  rw [← hln] at hl0 hl1
  clear hoi hhd hlb hs2 hsz hel hen hs hok hln
  have hlbn : (lb.toNat : Int) = (ln : Int) := by rw [HLB.out, UInt8.toNat_ofNat']; omega
  go_enter Try.func20, Try.ntmps20
  go_upto_region 2 with (first | ((with_reducible refine gate_dst (N := 1) rfl ?_); refine box_event ?hg (N := 1) ?hd (cs := #[.string s]) (t := 9) ?hr ?_; (case hd => rfl); (case hg => rfl); (case hr => first | (go_simp; done) | (go_simp; rfl)); intro gs hg wa hbox hb2; have HB1 := Lib.hid hb2; have BS1 := Lib.hid hbox; have GS := Lib.hid (Nat.le_of_eq hg.symm); clear hb2 hbox hg) | ((with_reducible refine gate_dst (N := 2) rfl ?_); refine box_event ?hg (N := 2) ?hd (cs := #[.bool false, .slice none 0 0]) (t := 56) ?hr ?_; (case hd => rfl); (case hg => rfl); (case hr => first | (go_simp; done) | (go_simp; rfl)); intro g2 hg wb hbox hb2; have HB2 := Lib.hid (HB1.out.trans (hb2.mono HB1.out.size)); have BS2 := Lib.hid (blk_below BS1.out hb2); have BR2 := Lib.hid hbox; have GR := Lib.hid (show gs < g2 ∧ w.heap.size ≤ g2 from ⟨by rw [hg]; exact blk_lt BS1.out, by rw [hg]; exact HB1.out.size⟩); clear hb2 hbox hg))
  have HBIG := Lib.hid (show ([hd, lb] ++ encL leaf items).length < 9000000000 by have := HSZ.out; have := HEL.out; have := HLN.out; rw [List.length_append]; show 2 + _ < _; omega)
  go_upto_region 3 with (first | (go_at_call 26; refine (takeL_calls [hd, lb] (encL leaf items) 2 (by have h := BS2.out; rw [HS2.out] at h; exact h) rfl HBIG.out).mono ?_; rintro e w3 ⟨rfl, hs3, hk3⟩; rw [show ba [hd, lb] = ⟨#[hd, lb]⟩ from rfl]; have BS3 := Lib.hid hs3; have BR3 := Lib.hid (hk3.blk BR2.out (by have := GR.out.1; omega)); have HB3 := Lib.hid (HB2.out.trans (hk3.below HB2.out.size (fun k hk e => by have := GS.out; omega))); clear hs3 hk3))
  have hix1 : (((⟨#[hd, lb]⟩ : ByteArray)[1]'(show 1 < 2 by decide)).toNat : Int) = (ln : Int) := hlbn
  have h00 : ((ln : Int) == 0) = false := by rw [beq_eq_false_iff_ne]; omega
  have h01 : ((ln : Int) = 0) = False := eq_false (by omega)
  cases leaf with
  | false =>
    obtain rfl : hd = 78 := HHD.out
    have hix0 : (((⟨#[78, lb]⟩ : ByteArray)[0]'(show 0 < 2 by decide)).toNat : Int) = 78 := rfl
    go_upto_region 6 with fail
    obtain ⟨gn, hgn⟩ : ∃ gn, gn = w3.heap.size := ⟨_, rfl⟩
    obtain ⟨w5, hw5⟩ : ∃ w5, w5 = w3.alloc (.cells #[.bool false, .slice none 0 0] 56) := ⟨_, rfl⟩
    rw [← hw5, ← hgn]
    have ha5 : Below w3.heap.size w3 w5 := by rw [hw5]; exact below_alloc (Below.refl _ _) _
    have BN5 := Lib.hid (show w5.heap[gn]? = some (.cells #[.bool false, .slice none 0 0] 56 (0, 0)) by rw [hw5, hgn]; exact blk_new _ _)
    have BS5 := Lib.hid (blk_below BS3.out ha5)
    have BR5 := Lib.hid (blk_below BR3.out ha5)
    have HB5 := Lib.hid (HB3.out.trans (ha5.mono HB3.out.size))
    have GN := Lib.hid (show w.heap.size ≤ gn ∧ gs < gn ∧ g2 < gn from ⟨by rw [hgn]; exact HB3.out.size, by rw [hgn]; exact blk_lt BS3.out, by rw [hgn]; exact blk_lt BR3.out⟩)
    clear hgn hw5 ha5
    go_wp2_with fail
    go_loopw [41] (fun a wr => ∃ i : Nat, a = .int .u8 (i : Int) ∧ i ≤ ln ∧ Hid (wr.heap[gs]? = some (.cells #[.string (ba (encL false (items.drop i)))] 9 (0, 0))) ∧ Hid (∃ v, wr.heap[gn]? = some (.cells #[.bool false, v] 56 (0, 0)) ∧ RowI wr w.heap.size v (items.take i)) ∧ Hid (wr.heap[g2]? = some (.cells #[.bool false, .slice none 0 0] 56 (0, 0))) ∧ Hid (Below w.heap.size w wr)) (fun a _ => ln - (intOf a).toNat)
    case atStart => exact ⟨0, rfl, Nat.zero_le _, by rw [List.drop_zero]; exact BS5, Lib.hid ⟨_, BN5.out, by rw [List.take_zero]; exact World.ownsRow_nil _ _ _ _⟩, BR5, HB5⟩
    case round =>
      obtain ⟨i, rfl, hi, HSi, HNi, HRi, HBi⟩ := hrel
      by_cases hin : i < ln
      · have e1 : decide ((i : Int) < (ln : Int)) = true := decide_eq_true (by omega)
        obtain ⟨x, hx⟩ : ∃ x, items[i]? = some x := ⟨_, List.getElem?_eq_getElem (by rw [← HLN.out]; exact hin)⟩
        have hokx := List.all_eq_true.1 HOI.out x (List.mem_of_getElem? hx)
        have hks : x.key.size < 256 := by simp only [okI, Bool.and_eq_true, decide_eq_true_eq] at hokx; exact hokx.1
        obtain ⟨v, hvn, hvr⟩ := HNi.out
        obtain ⟨gx, hgx⟩ : ∃ gx, gx = wr.heap.size := ⟨_, rfl⟩
        obtain ⟨rest, hrest⟩ : ∃ rest, rest = encL false (items.drop (i + 1)) := ⟨_, rfl⟩
        have hsi := HSi.out
        rw [encL_drop hx, ← hrest] at hsi
        obtain ⟨kb, hkb⟩ : ∃ kb : UInt8, kb = UInt8.ofNat (x.key.size % 256) := ⟨_, rfl⟩
        have hkbn : (kb.toNat : Int) = (x.key.size : Int) := by rw [hkb, UInt8.toNat_ofNat']; omega
        have hkl : x.key.data.toList.length = x.key.size := by rw [Array.length_toList]; rfl
        have hrl : rest.length ≤ 17000000 := by
          rw [hrest]
          have h1 := encL_len false (items.drop (i + 1)) (by rw [List.all_eq_true]; exact fun y hy => List.all_eq_true.1 HOI.out y (List.mem_of_mem_drop hy))
          have h2 : (items.drop (i + 1)).length ≤ ln := by rw [List.length_drop, ← HLN.out]; omega
          omega
        have hcs : x.val.size = 0 ∧ x.child < 65536 := by
          simp only [okI, Bool.and_eq_true, decide_eq_true_eq, if_neg (show ¬ false = true by decide)] at hokx
          exact hokx.2
        have hsi2 : encI false x ++ rest = [kb] ++ (x.key.data.toList ++ (by2 x.child ++ rest)) := by rw [hkb]; simp [encI]
        obtain ⟨cn, hcn⟩ : ∃ cn, cn = x.child := ⟨_, rfl⟩
        obtain ⟨tl, htl⟩ : ∃ tl, tl = rest := ⟨_, rfl⟩
        rw [hsi2, ← hcn, ← htl] at hsi
        have hcnl : cn < 65536 := by omega
        have htll : tl.length ≤ 17100000 := by
          rw [htl]
          try rw [List.length_append]
          omega
        have HCN := Lib.hid (And.intro hcn htl)
        have HSI := Lib.hid hsi
        have HVN := Lib.hid hvn
        have HVR := Lib.hid hvr
        have HREST := Lib.hid hrest
        have HX := Lib.hid hx
        have HCS := Lib.hid hcs
        have HLEN := Lib.hid (show ([kb] ++ (x.key.data.toList ++ (by2 cn ++ tl))).length < 9000000000 ∧ (x.key.data.toList ++ (by2 cn ++ tl)).length < 9000000000 ∧ (by2 cn ++ tl).length < 9000000000 ∧ tl.length < 9000000000 by
          simp only [List.length_append, List.length_cons, List.length_nil, by2, hkl]; omega)
        have HKB := Lib.hid hkb
        have GX := Lib.hid hgx
        have hixk : (((⟨#[kb]⟩ : ByteArray)[0]'(show 0 < 1 by decide)).toNat : Int) = (x.key.size : Int) := hkbn
        clear hgx hsi hsi2 hvn hvr hrest hx hcs hkb hkbn hrl htll htl hcn hokx
        go_upto_region 9 with fail
        obtain ⟨w6, hw6⟩ : ∃ w6, w6 = wr.alloc (.cells #[.string ⟨#[]⟩, .string ⟨#[]⟩, .int .i64 0] 53) := ⟨_, rfl⟩
        rw [← hw6, ← GX.out]
        have ha6 : Below wr.heap.size wr w6 := by rw [hw6]; exact below_alloc (Below.refl _ _) _
        have D6 := Lib.hid (show DS w w6 gs gn g2 gx false v (items.take i) ([kb] ++ (x.key.data.toList ++ (by2 cn ++ tl))) ⟨#[]⟩ ⟨#[]⟩ 0 from ⟨blk_below HSI.out ha6, blk_below HVN.out ha6, blk_below HRi.out ha6, by rw [hw6, GX.out]; exact blk_new _ _, RowI.keep HVR.out ha6, fun e => by have := (World.ownsRow.lt HVR.out _ e).2; rw [GX.out] at this; exact absurd this (Nat.lt_irrefl _), HBi.out.trans (ha6.mono HBi.out.size), GS.out, by rw [GX.out]; exact HBi.out.size⟩)
        clear hw6 ha6
        go_upto_region 10 with (first | (go_at_call 26; refine (takeL_calls [kb] _ 1 D6.out.s rfl HLEN.out.1).mono ?_; rintro e w7 ⟨rfl, hs7, hk7⟩; rw [show ba [kb] = ⟨#[kb]⟩ from rfl]; have D7 := Lib.hid (D6.out.take hs7 hk7); clear hs7 hk7))
        have e0 := (blk_cell D7.out.x 0).trans rfl
        go_upto_region 13 with (first | (go_at_call 26; refine (takeL_calls x.key.data.toList _ x.key.size D7.out.s hkl.symm HLEN.out.2.1).mono ?_; rintro e w8 ⟨rfl, hs8, hk8⟩; rw [ba_list]; have D8 := Lib.hid (D7.out.take hs8 hk8); clear hs8 hk8; have e8 := (blk_cell D8.out.x 0).trans rfl; have f8 := blk_frozen D8.out.x 0))
        obtain ⟨w9, hw9⟩ : ∃ w9, w9 = w8.setCell ⟨gx, 0, none⟩ (.string x.key) := ⟨_, rfl⟩
        rw [← hw9]
        have D9 := Lib.hid (show DS w w9 gs gn g2 gx false v (items.take i) (by2 cn ++ tl) x.key ⟨#[]⟩ 0 by rw [hw9]; exact D8.out.set 0 _ rfl)
        clear hw9 e0 e8 f8
        go_upto_region 16 with (first | (go_at_call 26; refine (takeL_calls (by2 cn) _ 2 D9.out.s rfl HLEN.out.2.2.1).mono ?_; rintro e w10 ⟨rfl, hs10, hk10⟩; rw [show ba (by2 cn) = ⟨#[UInt8.ofNat (cn / 256 % 256), UInt8.ofNat (cn % 256)]⟩ from rfl]; have D10 := Lib.hid (D9.out.take hs10 hk10); clear hs10 hk10))
        obtain ⟨ka, hka⟩ : ∃ ka : UInt8, ka = UInt8.ofNat (cn / 256 % 256) := ⟨_, rfl⟩
        obtain ⟨kc, hkc⟩ : ∃ kc : UInt8, kc = UInt8.ofNat (cn % 256) := ⟨_, rfl⟩
        rw [← hka, ← hkc]
        have hixa : (((⟨#[ka, kc]⟩ : ByteArray)[0]'(show 0 < 2 by decide)).toNat : Int) = ((cn / 256 : Nat) : Int) := by
          show (ka.toNat : Int) = _
          rw [hka, UInt8.toNat_ofNat']; omega
        have hixc : (((⟨#[ka, kc]⟩ : ByteArray)[1]'(show 1 < 2 by decide)).toNat : Int) = ((cn % 256 : Nat) : Int) := by
          show (kc.toNat : Int) = _
          rw [hkc, UInt8.toNat_ofNat']; omega
        clear hka hkc
        go_upto_region 18 with fail
        obtain ⟨w11, hw11⟩ : ∃ w11, w11 = w10.drew := ⟨_, rfl⟩
        have D11 := Lib.hid (D10.out.below (w' := w11) (by rw [hw11]; exact below_drew (Below.refl _ _)))
        have HW11 := Lib.hid hw11
        clear hw11
        have e2 := (blk_cell D11.out.x 2).trans rfl
        have f2 := blk_frozen D11.out.x 2
        refine start_ (n := 10) (S := fun w' => True) (ds := [9]) #[false, false, false, false, false, false, false, false, false, false] (by kernel_rfl) rfl rfl trivial (fun hHeld => ?_)
        rw [← HW11.out]
        refine pure_ (i := 0) (N := some 71) (v := ?_) (a' := ?_) #[true, false, false, false, false, false, false, false, false, false] rfl rfl (by kernel_rfl) (fun _ _ _ h => h) (Or.inl ⟨by rfl, ?_⟩) ?_ ?_
        rotate_left
        · intro w'
          go_simp
          with_reducible rfl
        rotate_left
        · simp only [Act.put, List.setIfInBounds_toArray, List.set_cons_zero, List.set_cons_succ]
          rfl
        refine pure_ (i := 4) (N := some 75) (v := ?_) (a' := ?_) #[true, false, false, false, true, false, false, false, false, false] rfl rfl (by kernel_rfl) (fun _ _ _ h => h) (Or.inl ⟨by rfl, ?_⟩) ?_ ?_
        rotate_left
        · intro w'
          go_simp
          with_reducible rfl
        rotate_left
        · simp only [Act.put, List.setIfInBounds_toArray, List.set_cons_zero, List.set_cons_succ]
          rfl
        refine take_ (i := 1) (N := some 72) (v := ?_) (a' := ?_) #[true, true, false, false, true, false, false, false, false, false] rfl rfl (by kernel_rfl) (fun _ _ _ h => h) (Or.inl ⟨by rfl, ?_⟩) hHeld ?_ ?_
        rotate_left
        · intro w' _
          go_simp
          with_reducible rfl
        rotate_left
        · simp only [Act.put, List.setIfInBounds_toArray, List.set_cons_zero, List.set_cons_succ]
          rfl
        refine pure_ (i := 2) (N := some 73) (v := ?_) (a' := ?_) #[true, true, true, false, true, false, false, false, false, false] rfl rfl (by kernel_rfl) (fun _ _ _ h => h) (Or.inl ⟨by rfl, ?_⟩) ?_ ?_
        rotate_left
        · intro w'
          go_simp
          with_reducible rfl
        rotate_left
        · simp only [Act.put, List.setIfInBounds_toArray, List.set_cons_zero, List.set_cons_succ]
          rfl
        refine pure_ (i := 3) (N := some 74) (v := ?_) (a' := ?_) #[true, true, true, true, true, false, false, false, false, false] rfl rfl (by kernel_rfl) (fun _ _ _ h => h) (Or.inl ⟨by rfl, ?_⟩) ?_ ?_
        rotate_left
        · intro w'
          go_simp
          with_reducible rfl
        rotate_left
        · simp only [Act.put, List.setIfInBounds_toArray, List.set_cons_zero, List.set_cons_succ]
          rfl
        refine take_ (i := 5) (N := some 76) (v := ?_) (a' := ?_) #[true, true, true, true, true, true, false, false, false, false] rfl rfl (by kernel_rfl) (fun _ _ _ h => h) (Or.inl ⟨by rfl, ?_⟩) hHeld ?_ ?_
        rotate_left
        · intro w' _
          go_simp
          with_reducible rfl
        rotate_left
        · simp only [Act.put, List.setIfInBounds_toArray, List.set_cons_zero, List.set_cons_succ]
          rfl
        refine pure_ (i := 6) (N := some 77) (v := ?_) (a' := ?_) #[true, true, true, true, true, true, true, false, false, false] rfl rfl (by kernel_rfl) (fun _ _ _ h => h) (Or.inl ⟨by rfl, ?_⟩) ?_ ?_
        rotate_left
        · intro w'
          go_simp
          with_reducible rfl
        rotate_left
        · simp only [Act.put, List.setIfInBounds_toArray, List.set_cons_zero, List.set_cons_succ]
          rfl
        refine pure_ (i := 7) (N := some 78) (v := ?_) (a' := ?_) #[true, true, true, true, true, true, true, true, false, false] rfl rfl (by kernel_rfl) (fun _ _ _ h => h) (Or.inl ⟨by rfl, ?_⟩) ?_ ?_
        rotate_left
        · intro w'
          go_simp
          with_reducible rfl
        rotate_left
        · simp only [Act.put, List.setIfInBounds_toArray, List.set_cons_zero, List.set_cons_succ]
          rfl
        refine pure_ (i := 8) (N := some 79) (v := ?_) (a' := ?_) #[true, true, true, true, true, true, true, true, true, false] rfl rfl (by kernel_rfl) (fun _ _ _ h => h) (Or.inl ⟨by rfl, ?_⟩) ?_ ?_
        rotate_left
        · intro w'
          go_simp
          with_reducible rfl
        rotate_left
        · simp only [Act.put, List.setIfInBounds_toArray, List.set_cons_zero, List.set_cons_succ]
          rfl
        refine last_ (i := 9) (N := none) #[true, true, true, true, true, true, true, true, true, true] rfl rfl (by kernel_rfl) (by decide) (fun K hK => ?_)
        refine skip_ (w1 := ?_) (by rfl) rfl ?_ ?_
        rotate_left
        · go_simp
          rfl
        refine hK.out _ _ ?_
        clear hK K
        refine done_ (by kernel_rfl) ?_
        rw [or_child cn hcnl]
        obtain ⟨w12, hw12⟩ : ∃ w12, w12 = w11.setCell ⟨gx, 2, none⟩ (.int .i64 (cn : Int)) := ⟨_, rfl⟩
        rw [← hw12]
        have D12 := Lib.hid (show DS w w12 gs gn g2 gx false v (items.take i) tl x.key ⟨#[]⟩ (cn : Int) by rw [hw12]; exact D11.out.set 2 _ rfl)
        clear hw12 e2 f2 hixa hixc hixk
        have HTL := Lib.hid (show (items.take i).length < 1000 ∧ IntKind.u8.wrap ((i : Int) + 1) = ((i + 1 : Nat) : Int) from ⟨by rw [List.length_take]; omega, by rw [IntWalk.u8_in _ (by omega)]; rfl⟩)
        have n0 := (blk_cell D12.out.n 0).trans rfl
        have n1 := (blk_cell D12.out.n 1).trans rfl
        have y0 := (blk_cell D12.out.x 0).trans rfl
        have y1 := (blk_cell D12.out.x 1).trans rfl
        have y2 := (blk_cell D12.out.x 2).trans rfl
        obtain ⟨v', w14, hr14, D14, hn14⟩ := D12.out.append GN.out.1 (by have := GN.out.2.2; omega) rfl HTL.out.1 54
        obtain ⟨A14, n14, c14, rfl⟩ := D14.row.val
        have f14 := blk_frozen hn14 1
        have e14 := (blk_cell hn14 1).trans rfl
        have E14 := Lib.hid D14
        have HN14 := Lib.hid hn14
        clear D14 hn14
        have hwi := HTL.out.2
        go_wp2_with (at_builtin; refine wpList_append_run _ rfl _ _ _ _ rfl _ _ rfl rfl hr14 ?_)
        go_roundw
        case rel =>
          refine ⟨i + 1, rfl, hin, Lib.hid ?_, Lib.hid ⟨_, E14.out.n, ?_⟩, Lib.hid E14.out.r, Lib.hid E14.out.bel⟩
          · have h := E14.out.s
            rw [HCN.out.2, HREST.out] at h
            exact h
          · have h := E14.out.row
            have hx : (⟨x.key, ⟨#[]⟩, cn⟩ : It) = x := by rw [HCN.out.1, ← val_none HCS.out.1]
            rw [hx] at h
            rw [take_next HX.out]
            exact h
        case measure => simp only [intOf] at *; omega
      · have e1 : decide ((i : Int) < (ln : Int)) = false := decide_eq_false (by omega)
        obtain rfl : ln = i := by omega
        obtain ⟨v, hvn, hvr⟩ := HNi.out
        obtain ⟨Av, nv, cv, rfl⟩ := hvr.val
        have c0 := (blk_cell hvn 0).trans rfl
        have c1 := (blk_cell hvn 1).trans rfl
        have d0 := (blk_cell HRi.out 0).trans rfl
        have d1 := (blk_cell HRi.out 1).trans rfl
        have f0 := blk_frozen HRi.out 0
        have f1 := blk_frozen HRi.out 1
        have HVN := Lib.hid hvn
        have HVR := Lib.hid hvr
        clear hvn hvr
        go_wp2_with fail
        refine bodyPost_ret (results_row_tmp rfl _ _ g2 56 #[.bool false, .slice Av nv cv] (0, 0) _ rfl (heap_set2 HRi.out _ _) Try.underlying56 rfl infoN) rfl ?_
        have htk : items.take ln = items := List.take_of_length_le (by rw [HLN.out]; exact Nat.le_refl _)
        have hrow := HVR.out
        rw [htk] at hrow
        refine ⟨_, rfl, row_keep hrow (fun k hk => ?_), below_set2 HBi.out GR.out.2 _ _⟩
        have hne : k ≠ g2 := fun e => own_ne hrow HRi.out (by decide) (by rw [hk, e])
        rw [Below.heap_setCell _ _ _ _ (fun e => hne e), Below.heap_setCell _ _ _ _ (fun e => hne e)]
  | true =>
    obtain rfl : hd = 76 := HHD.out
    have hix0 : (((⟨#[76, lb]⟩ : ByteArray)[0]'(show 0 < 2 by decide)).toNat : Int) = 76 := rfl
    go_upto_region 6 with fail
    obtain ⟨gn, hgn⟩ : ∃ gn, gn = w3.heap.size := ⟨_, rfl⟩
    obtain ⟨w5, hw5⟩ : ∃ w5, w5 = w3.alloc (.cells #[.bool true, .slice none 0 0] 56) := ⟨_, rfl⟩
    rw [← hw5, ← hgn]
    have ha5 : Below w3.heap.size w3 w5 := by rw [hw5]; exact below_alloc (Below.refl _ _) _
    have BN5 := Lib.hid (show w5.heap[gn]? = some (.cells #[.bool true, .slice none 0 0] 56 (0, 0)) by rw [hw5, hgn]; exact blk_new _ _)
    have BS5 := Lib.hid (blk_below BS3.out ha5)
    have BR5 := Lib.hid (blk_below BR3.out ha5)
    have HB5 := Lib.hid (HB3.out.trans (ha5.mono HB3.out.size))
    have GN := Lib.hid (show w.heap.size ≤ gn ∧ gs < gn ∧ g2 < gn from ⟨by rw [hgn]; exact HB3.out.size, by rw [hgn]; exact blk_lt BS3.out, by rw [hgn]; exact blk_lt BR3.out⟩)
    clear hgn hw5 ha5
    go_wp2_with fail
    go_loopw [41] (fun a wr => ∃ i : Nat, a = .int .u8 (i : Int) ∧ i ≤ ln ∧ Hid (wr.heap[gs]? = some (.cells #[.string (ba (encL true (items.drop i)))] 9 (0, 0))) ∧ Hid (∃ v, wr.heap[gn]? = some (.cells #[.bool true, v] 56 (0, 0)) ∧ RowI wr w.heap.size v (items.take i)) ∧ Hid (wr.heap[g2]? = some (.cells #[.bool false, .slice none 0 0] 56 (0, 0))) ∧ Hid (Below w.heap.size w wr)) (fun a _ => ln - (intOf a).toNat)
    case atStart => exact ⟨0, rfl, Nat.zero_le _, by rw [List.drop_zero]; exact BS5, Lib.hid ⟨_, BN5.out, by rw [List.take_zero]; exact World.ownsRow_nil _ _ _ _⟩, BR5, HB5⟩
    case round =>
      obtain ⟨i, rfl, hi, HSi, HNi, HRi, HBi⟩ := hrel
      by_cases hin : i < ln
      · have e1 : decide ((i : Int) < (ln : Int)) = true := decide_eq_true (by omega)
        obtain ⟨x, hx⟩ : ∃ x, items[i]? = some x := ⟨_, List.getElem?_eq_getElem (by rw [← HLN.out]; exact hin)⟩
        have hokx := List.all_eq_true.1 HOI.out x (List.mem_of_getElem? hx)
        have hks : x.key.size < 256 := by simp only [okI, Bool.and_eq_true, decide_eq_true_eq] at hokx; exact hokx.1
        obtain ⟨v, hvn, hvr⟩ := HNi.out
        obtain ⟨gx, hgx⟩ : ∃ gx, gx = wr.heap.size := ⟨_, rfl⟩
        obtain ⟨rest, hrest⟩ : ∃ rest, rest = encL true (items.drop (i + 1)) := ⟨_, rfl⟩
        have hsi := HSi.out
        rw [encL_drop hx, ← hrest] at hsi
        obtain ⟨kb, hkb⟩ : ∃ kb : UInt8, kb = UInt8.ofNat (x.key.size % 256) := ⟨_, rfl⟩
        have hkbn : (kb.toNat : Int) = (x.key.size : Int) := by rw [hkb, UInt8.toNat_ofNat']; omega
        have hkl : x.key.data.toList.length = x.key.size := by rw [Array.length_toList]; rfl
        have hrl : rest.length ≤ 17000000 := by
          rw [hrest]
          have h1 := encL_len true (items.drop (i + 1)) (by rw [List.all_eq_true]; exact fun y hy => List.all_eq_true.1 HOI.out y (List.mem_of_mem_drop hy))
          have h2 : (items.drop (i + 1)).length ≤ ln := by rw [List.length_drop, ← HLN.out]; omega
          omega
        have hcs : x.val.size < 65536 ∧ x.child = 0 := by
          simp only [okI, Bool.and_eq_true, decide_eq_true_eq, if_pos trivial, beq_iff_eq] at hokx
          exact hokx.2
        have hsi2 : encI true x ++ rest = [kb] ++ (x.key.data.toList ++ (by2 x.val.size ++ (x.val.data.toList ++ rest))) := by rw [hkb]; simp [encI]
        obtain ⟨cn, hcn⟩ : ∃ cn, cn = x.val.size := ⟨_, rfl⟩
        obtain ⟨tl, htl⟩ : ∃ tl, tl = x.val.data.toList ++ rest := ⟨_, rfl⟩
        rw [hsi2, ← hcn, ← htl] at hsi
        have hvl : x.val.data.toList.length = x.val.size := by rw [Array.length_toList]; rfl
        have hcnl : cn < 65536 := by omega
        have htll : tl.length ≤ 17100000 := by
          rw [htl]
          try rw [List.length_append]
          omega
        have HCN := Lib.hid (And.intro hcn htl)
        have HSI := Lib.hid hsi
        have HVN := Lib.hid hvn
        have HVR := Lib.hid hvr
        have HREST := Lib.hid hrest
        have HX := Lib.hid hx
        have HCS := Lib.hid hcs
        have HLEN := Lib.hid (show ([kb] ++ (x.key.data.toList ++ (by2 cn ++ tl))).length < 9000000000 ∧ (x.key.data.toList ++ (by2 cn ++ tl)).length < 9000000000 ∧ (by2 cn ++ tl).length < 9000000000 ∧ tl.length < 9000000000 by
          simp only [List.length_append, List.length_cons, List.length_nil, by2, hkl]; omega)
        have HKB := Lib.hid hkb
        have GX := Lib.hid hgx
        have hixk : (((⟨#[kb]⟩ : ByteArray)[0]'(show 0 < 1 by decide)).toNat : Int) = (x.key.size : Int) := hkbn
        clear hgx hsi hsi2 hvn hvr hrest hx hcs hkb hkbn hrl htll htl hcn hokx
        go_upto_region 9 with fail
        obtain ⟨w6, hw6⟩ : ∃ w6, w6 = wr.alloc (.cells #[.string ⟨#[]⟩, .string ⟨#[]⟩, .int .i64 0] 53) := ⟨_, rfl⟩
        rw [← hw6, ← GX.out]
        have ha6 : Below wr.heap.size wr w6 := by rw [hw6]; exact below_alloc (Below.refl _ _) _
        have D6 := Lib.hid (show DS w w6 gs gn g2 gx true v (items.take i) ([kb] ++ (x.key.data.toList ++ (by2 cn ++ tl))) ⟨#[]⟩ ⟨#[]⟩ 0 from ⟨blk_below HSI.out ha6, blk_below HVN.out ha6, blk_below HRi.out ha6, by rw [hw6, GX.out]; exact blk_new _ _, RowI.keep HVR.out ha6, fun e => by have := (World.ownsRow.lt HVR.out _ e).2; rw [GX.out] at this; exact absurd this (Nat.lt_irrefl _), HBi.out.trans (ha6.mono HBi.out.size), GS.out, by rw [GX.out]; exact HBi.out.size⟩)
        clear hw6 ha6
        go_upto_region 10 with (first | (go_at_call 26; refine (takeL_calls [kb] _ 1 D6.out.s rfl HLEN.out.1).mono ?_; rintro e w7 ⟨rfl, hs7, hk7⟩; rw [show ba [kb] = ⟨#[kb]⟩ from rfl]; have D7 := Lib.hid (D6.out.take hs7 hk7); clear hs7 hk7))
        have e0 := (blk_cell D7.out.x 0).trans rfl
        go_upto_region 13 with (first | (go_at_call 26; refine (takeL_calls x.key.data.toList _ x.key.size D7.out.s hkl.symm HLEN.out.2.1).mono ?_; rintro e w8 ⟨rfl, hs8, hk8⟩; rw [ba_list]; have D8 := Lib.hid (D7.out.take hs8 hk8); clear hs8 hk8; have e8 := (blk_cell D8.out.x 0).trans rfl; have f8 := blk_frozen D8.out.x 0))
        obtain ⟨w9, hw9⟩ : ∃ w9, w9 = w8.setCell ⟨gx, 0, none⟩ (.string x.key) := ⟨_, rfl⟩
        rw [← hw9]
        have D9 := Lib.hid (show DS w w9 gs gn g2 gx true v (items.take i) (by2 cn ++ tl) x.key ⟨#[]⟩ 0 by rw [hw9]; exact D8.out.set 0 _ rfl)
        clear hw9 e0 e8 f8
        go_upto_region 16 with (first | (go_at_call 26; refine (takeL_calls (by2 cn) _ 2 D9.out.s rfl HLEN.out.2.2.1).mono ?_; rintro e w10 ⟨rfl, hs10, hk10⟩; rw [show ba (by2 cn) = ⟨#[UInt8.ofNat (cn / 256 % 256), UInt8.ofNat (cn % 256)]⟩ from rfl]; have D10 := Lib.hid (D9.out.take hs10 hk10); clear hs10 hk10))
        obtain ⟨ka, hka⟩ : ∃ ka : UInt8, ka = UInt8.ofNat (cn / 256 % 256) := ⟨_, rfl⟩
        obtain ⟨kc, hkc⟩ : ∃ kc : UInt8, kc = UInt8.ofNat (cn % 256) := ⟨_, rfl⟩
        rw [← hka, ← hkc]
        have hixa : (((⟨#[ka, kc]⟩ : ByteArray)[0]'(show 0 < 2 by decide)).toNat : Int) = ((cn / 256 : Nat) : Int) := by
          show (ka.toNat : Int) = _
          rw [hka, UInt8.toNat_ofNat']; omega
        have hixc : (((⟨#[ka, kc]⟩ : ByteArray)[1]'(show 1 < 2 by decide)).toNat : Int) = ((cn % 256 : Nat) : Int) := by
          show (kc.toNat : Int) = _
          rw [hkc, UInt8.toNat_ofNat']; omega
        clear hka hkc
        go_upto_region 18 with fail
        obtain ⟨w11, hw11⟩ : ∃ w11, w11 = w10.drew := ⟨_, rfl⟩
        have D11 := Lib.hid (D10.out.below (w' := w11) (by rw [hw11]; exact below_drew (Below.refl _ _)))
        have HW11 := Lib.hid hw11
        clear hw11
        have e2 := (blk_cell D11.out.x 2).trans rfl
        have f2 := blk_frozen D11.out.x 2
        refine start_ (n := 10) (S := fun w' => True) (ds := [9]) #[false, false, false, false, false, false, false, false, false, false] (by kernel_rfl) rfl rfl trivial (fun hHeld => ?_)
        rw [← HW11.out]
        refine pure_ (i := 0) (N := some 71) (v := ?_) (a' := ?_) #[true, false, false, false, false, false, false, false, false, false] rfl rfl (by kernel_rfl) (fun _ _ _ h => h) (Or.inl ⟨by rfl, ?_⟩) ?_ ?_
        rotate_left
        · intro w'
          go_simp
          with_reducible rfl
        rotate_left
        · simp only [Act.put, List.setIfInBounds_toArray, List.set_cons_zero, List.set_cons_succ]
          rfl
        refine pure_ (i := 4) (N := some 75) (v := ?_) (a' := ?_) #[true, false, false, false, true, false, false, false, false, false] rfl rfl (by kernel_rfl) (fun _ _ _ h => h) (Or.inl ⟨by rfl, ?_⟩) ?_ ?_
        rotate_left
        · intro w'
          go_simp
          with_reducible rfl
        rotate_left
        · simp only [Act.put, List.setIfInBounds_toArray, List.set_cons_zero, List.set_cons_succ]
          rfl
        refine take_ (i := 1) (N := some 72) (v := ?_) (a' := ?_) #[true, true, false, false, true, false, false, false, false, false] rfl rfl (by kernel_rfl) (fun _ _ _ h => h) (Or.inl ⟨by rfl, ?_⟩) hHeld ?_ ?_
        rotate_left
        · intro w' _
          go_simp
          with_reducible rfl
        rotate_left
        · simp only [Act.put, List.setIfInBounds_toArray, List.set_cons_zero, List.set_cons_succ]
          rfl
        refine pure_ (i := 2) (N := some 73) (v := ?_) (a' := ?_) #[true, true, true, false, true, false, false, false, false, false] rfl rfl (by kernel_rfl) (fun _ _ _ h => h) (Or.inl ⟨by rfl, ?_⟩) ?_ ?_
        rotate_left
        · intro w'
          go_simp
          with_reducible rfl
        rotate_left
        · simp only [Act.put, List.setIfInBounds_toArray, List.set_cons_zero, List.set_cons_succ]
          rfl
        refine pure_ (i := 3) (N := some 74) (v := ?_) (a' := ?_) #[true, true, true, true, true, false, false, false, false, false] rfl rfl (by kernel_rfl) (fun _ _ _ h => h) (Or.inl ⟨by rfl, ?_⟩) ?_ ?_
        rotate_left
        · intro w'
          go_simp
          with_reducible rfl
        rotate_left
        · simp only [Act.put, List.setIfInBounds_toArray, List.set_cons_zero, List.set_cons_succ]
          rfl
        refine take_ (i := 5) (N := some 76) (v := ?_) (a' := ?_) #[true, true, true, true, true, true, false, false, false, false] rfl rfl (by kernel_rfl) (fun _ _ _ h => h) (Or.inl ⟨by rfl, ?_⟩) hHeld ?_ ?_
        rotate_left
        · intro w' _
          go_simp
          with_reducible rfl
        rotate_left
        · simp only [Act.put, List.setIfInBounds_toArray, List.set_cons_zero, List.set_cons_succ]
          rfl
        refine pure_ (i := 6) (N := some 77) (v := ?_) (a' := ?_) #[true, true, true, true, true, true, true, false, false, false] rfl rfl (by kernel_rfl) (fun _ _ _ h => h) (Or.inl ⟨by rfl, ?_⟩) ?_ ?_
        rotate_left
        · intro w'
          go_simp
          with_reducible rfl
        rotate_left
        · simp only [Act.put, List.setIfInBounds_toArray, List.set_cons_zero, List.set_cons_succ]
          rfl
        refine pure_ (i := 7) (N := some 78) (v := ?_) (a' := ?_) #[true, true, true, true, true, true, true, true, false, false] rfl rfl (by kernel_rfl) (fun _ _ _ h => h) (Or.inl ⟨by rfl, ?_⟩) ?_ ?_
        rotate_left
        · intro w'
          go_simp
          with_reducible rfl
        rotate_left
        · simp only [Act.put, List.setIfInBounds_toArray, List.set_cons_zero, List.set_cons_succ]
          rfl
        refine pure_ (i := 8) (N := some 79) (v := ?_) (a' := ?_) #[true, true, true, true, true, true, true, true, true, false] rfl rfl (by kernel_rfl) (fun _ _ _ h => h) (Or.inl ⟨by rfl, ?_⟩) ?_ ?_
        rotate_left
        · intro w'
          go_simp
          with_reducible rfl
        rotate_left
        · simp only [Act.put, List.setIfInBounds_toArray, List.set_cons_zero, List.set_cons_succ]
          rfl
        refine last_ (i := 9) (N := none) #[true, true, true, true, true, true, true, true, true, true] rfl rfl (by kernel_rfl) (by decide) (fun K hK => ?_)
        refine skip_ (w1 := ?_) (by rfl) rfl ?_ ?_
        rotate_left
        · go_simp
          rfl
        refine hK.out _ _ ?_
        clear hK K
        refine done_ (by kernel_rfl) ?_
        rw [or_child cn hcnl]
        obtain ⟨w12, hw12⟩ : ∃ w12, w12 = w11.setCell ⟨gx, 2, none⟩ (.int .i64 (cn : Int)) := ⟨_, rfl⟩
        rw [← hw12]
        have D12 := Lib.hid (show DS w w12 gs gn g2 gx true v (items.take i) tl x.key ⟨#[]⟩ (cn : Int) by rw [hw12]; exact D11.out.set 2 _ rfl)
        clear hw12 e2 f2 hixa hixc hixk
        have HTL := Lib.hid (show (items.take i).length < 1000 ∧ IntKind.u8.wrap ((i : Int) + 1) = ((i + 1 : Nat) : Int) from ⟨by rw [List.length_take]; omega, by rw [IntWalk.u8_in _ (by omega)]; rfl⟩)
        have n0 := (blk_cell D12.out.n 0).trans rfl
        have y2 := (blk_cell D12.out.x 2).trans rfl
        rw [HCN.out.2] at D12
        go_upto_region 23 with (first | (go_at_call 26; refine (takeL_calls x.val.data.toList rest cn D12.out.s (by rw [HCN.out.1]; exact Array.length_toList.symm) (by have h := HLEN.out.2.2.2; rw [HCN.out.2] at h; exact h)).mono ?_; rintro e w13 ⟨rfl, hs13, hk13⟩; rw [ba_list]; have D13 := Lib.hid (D12.out.take hs13 hk13); clear hs13 hk13; have e13 := (blk_cell D13.out.x 1).trans rfl; have f13 := blk_frozen D13.out.x 1))
        obtain ⟨w14, hw14⟩ : ∃ w14, w14 = w13.setCell ⟨gx, 1, none⟩ (.string x.val) := ⟨_, rfl⟩
        rw [← hw14]
        have D14 := Lib.hid (show DS w w14 gs gn g2 gx true v (items.take i) rest x.key x.val (cn : Int) by rw [hw14]; exact D13.out.set 1 _ rfl)
        clear hw14 e13 f13 y2
        have e15 := (blk_cell D14.out.x 2).trans rfl
        have f15 := blk_frozen D14.out.x 2
        clear n0
        go_upto_region 24 with fail
        obtain ⟨w15, hw15⟩ : ∃ w15, w15 = w14.setCell ⟨gx, 2, none⟩ (.int .i64 0) := ⟨_, rfl⟩
        rw [← hw15]
        have D15 := Lib.hid (show DS w w15 gs gn g2 gx true v (items.take i) rest x.key x.val ((0 : Nat) : Int) by rw [hw15]; exact D14.out.set 2 _ rfl)
        clear hw15 e15 f15
        have n1 := (blk_cell D15.out.n 1).trans rfl
        have y0 := (blk_cell D15.out.x 0).trans rfl
        have y1 := (blk_cell D15.out.x 1).trans rfl
        have y2 := (blk_cell D15.out.x 2).trans rfl
        obtain ⟨v', w16, hr16, DA, hn16⟩ := D15.out.append GN.out.1 (by have := GN.out.2.2; omega) rfl HTL.out.1 54
        obtain ⟨A16, n16, c16, rfl⟩ := DA.row.val
        have f16 := blk_frozen hn16 1
        have e16 := (blk_cell hn16 1).trans rfl
        have E16 := Lib.hid DA
        have HN16 := Lib.hid hn16
        clear DA hn16
        have hwi := HTL.out.2
        go_wp2_with (at_builtin; refine wpList_append_run _ rfl _ _ _ _ rfl _ _ rfl rfl hr16 ?_)
        go_roundw
        case rel =>
          refine ⟨i + 1, rfl, hin, Lib.hid ?_, Lib.hid ⟨_, E16.out.n, ?_⟩, Lib.hid E16.out.r, Lib.hid E16.out.bel⟩
          · have h := E16.out.s
            rw [HREST.out] at h
            exact h
          · have h := E16.out.row
            have hx : (⟨x.key, x.val, 0⟩ : It) = x := by rw [← HCS.out.2]
            rw [hx] at h
            rw [take_next HX.out]
            exact h
        case measure => simp only [intOf] at *; omega
      · have e1 : decide ((i : Int) < (ln : Int)) = false := decide_eq_false (by omega)
        obtain rfl : ln = i := by omega
        obtain ⟨v, hvn, hvr⟩ := HNi.out
        obtain ⟨Av, nv, cv, rfl⟩ := hvr.val
        have c0 := (blk_cell hvn 0).trans rfl
        have c1 := (blk_cell hvn 1).trans rfl
        have d0 := (blk_cell HRi.out 0).trans rfl
        have d1 := (blk_cell HRi.out 1).trans rfl
        have f0 := blk_frozen HRi.out 0
        have f1 := blk_frozen HRi.out 1
        have HVN := Lib.hid hvn
        have HVR := Lib.hid hvr
        clear hvn hvr
        go_wp2_with fail
        refine bodyPost_ret (results_row_tmp rfl _ _ g2 56 #[.bool true, .slice Av nv cv] (0, 0) _ rfl (heap_set2 HRi.out _ _) Try.underlying56 rfl infoN) rfl ?_
        have htk : items.take ln = items := List.take_of_length_le (by rw [HLN.out]; exact Nat.le_refl _)
        have hrow := HVR.out
        rw [htk] at hrow
        refine ⟨_, rfl, row_keep hrow (fun k hk => ?_), below_set2 HBi.out GR.out.2 _ _⟩
        have hne : k ≠ g2 := fun e => own_ne hrow HRi.out (by decide) (by rw [hk, e])
        rw [Below.heap_setCell _ _ _ _ (fun e => hne e), Below.heap_setCell _ _ _ _ (fun e => hne e)]
#print axioms decode_calls
end Go.Proofs.YtkmbkgjfhjjicaaT
