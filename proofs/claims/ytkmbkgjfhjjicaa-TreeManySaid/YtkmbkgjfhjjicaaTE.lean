/- Tree: encode. -/
import Derived.Test.YtkmbkgjfhjjicaaTL
import Derived.Laws.BytesArg
import Derived.Lib.AppendStr
import Derived.Lib.UnsafeStr
import Derived.Lib.BufferWrite
import Derived.Great.BuildSlice
import Derived.Deep.AppendLies
namespace Go.Proofs.YtkmbkgjfhjjicaaT
open Go.RowKit Go.Maps Go.Proofs Go.Proofs.YtkmbkgjfhjjicaaW.PrintWords Go.Proofs.YtkmbkgjfhjjicaaW.PrintLast

/-- One append, where its run is known. -/
theorem step_append_run {P : Program} {ops : Array Oper} {o : Oper} {a : Act} {w : World} {K : Act → World → Prop} {Q : Exit → Act → World → Prop} {E : Prop}
    (hg : o.guard = none) (d x : Operand) (dT sT : TypeId) (hop : o.op = Op.call { callee := Callee.builtin Builtin.append, args := #[d, x], argTypes := #[dT, sT] })
    (v u : Value) (hd : a.eval d = v) (hx : a.eval x = u) {v' : Value} {w' : World} (hr : (Builtin.append_ #[dT, sT] o.type #[v, u]).run P w = .ok v' w') (hK : K (a.put o.dst v') w') :
    if Region.wanted o (yielded ops a.tmps) = true then Oper.wp P o a w K Q else E := by
  have hw : Region.wanted o (yielded ops a.tmps) = true := by simp [Region.wanted, hg]
  rw [if_pos hw]
  unfold Oper.wp
  simp [execOp, hop, resolve, invoke, builtin, hd, hx, hr, Result.andThen]
  exact hK
theorem wpList_append_run {P : Program} (w : World) {ops : Array Oper} {rest : List Oper} {o : Oper} {a : Act} {Q : Exit → Act → World → Prop} (hgd : o.guard = none) (d x : Operand) (dT sT : TypeId)
    (hop : o.op = Op.call { callee := Callee.builtin Builtin.append, args := #[d, x], argTypes := #[dT, sT] }) (v u : Value) (hd : a.eval d = v) (hx : a.eval x = u) {v' : Value} {w' : World}
    (hr : (Builtin.append_ #[dT, sT] o.type #[v, u]).run P w = .ok v' w') (h : wpList P ops Q rest (a.put o.dst v') w') : wpList P ops Q (o :: rest) a w :=
  wpList_plain hgd fun _ hK => by
    unfold Oper.wp
    simp [execOp, hop, resolve, invoke, builtin, hd, hx, hr, Result.andThen]
    exact hK _ _ h
/-- Bytes in a row of the call's own. -/
def BufAt (w : World) (B : Nat) (v : Value) (bs : List UInt8) : Prop := w.ownsRow B 5 1 v bs.length (Lib.byteCells bs)
theorem infoB : (Try.prog.info? 5).map (fun i => (i.zero, i.size, i.bytes)) = some (some (.int .u8 0), 1, 1) := by kernel_rfl
theorem info_u8 : ∃ i, Try.prog.info? 5 = some i ∧ i.zero = some (.int .u8 0) ∧ i.size = 1 ∧ i.bytes = 1 := by
  obtain ⟨i, hi, h⟩ := Option.map_eq_some_iff.1 infoB
  exact ⟨i, hi, congrArg Prod.fst h, congrArg (fun p => p.2.1) h, congrArg (fun p => p.2.2) h⟩
theorem BufAt.run_str {w : World} {B : Nat} {v : Value} {bs : List UInt8} (h : BufAt w B v bs) (s : ByteArray) (hl : bs.length + s.size ≤ 1000000000) (hB : B ≤ w.heap.size) (ty : TypeId) :
    ∃ v' w', (Builtin.append_ #[26, 9] ty #[v, .string s]).run Try.prog w = .ok v' w' ∧ BufAt w' B v' (bs ++ s.data.toList) ∧ w.grownBy w' v.ownBlock := by
  obtain ⟨i, hi, h1, h2, h3⟩ := info_u8
  obtain ⟨v', w', hr, ho, hg, _⟩ := Lib.run_append_own_string (P := Try.prog) w B 26 9 ty 5 i Try.underlying26 Try.underlying9 hi h1 h2 h3 v bs.length (Lib.byteCells bs) h s (by unfold maxLen; omega) (by omega) hB
  refine ⟨v', w', hr, ?_, hg⟩
  unfold BufAt
  rw [List.length_append, Lib.byteCells_append]
  have e : s.data.toList.length = s.size := by rw [Array.length_toList]; rfl
  rw [e]
  exact ho
theorem BufAt.run_bytes {w : World} {B : Nat} {v : Value} {bs : List UInt8} (h : BufAt w B v bs) {g : Nat} {fr : Nat × Nat} (l : List UInt8) (hg : w.heap[g]? = some (.cells (Lib.byteCells l).toArray 5 fr)) (hl : bs.length + l.length ≤ 1000000000) (hB : B ≤ w.heap.size) (ty : TypeId) :
    ∃ v' w', (Builtin.append_ #[26, 26] ty #[v, .slice (some ⟨g, 0, none⟩) l.length l.length]).run Try.prog w = .ok v' w' ∧ BufAt w' B v' (bs ++ l) ∧ w.grownBy w' v.ownBlock := by
  obtain ⟨i, hi, h1, h2, h3⟩ := info_u8
  obtain ⟨v', w', hr, ho, hgr, _⟩ := run_append_own (P := Try.prog) w B 26 ty 5 i (.int .u8 0) 1 1 Try.underlying26 hi h1 h2 h3 rfl (by decide) v bs.length (Lib.byteCells bs) h ⟨g, 0, none⟩ l.length l.length (Lib.byteCells l) (by rw [Lib.byteCells_length, Nat.mul_one]) (fun j u hu => by
    have := World.news_of_block hg j u (by simpa using hu)
    exact this) (Lib.byteCells_one l) (by unfold maxLen; omega) (by omega) hB
  refine ⟨v', w', hr, ?_, hgr⟩
  unfold BufAt
  rw [List.length_append, Lib.byteCells_append]
  exact ho
theorem BufAt.keep {w w' : World} {B : Nat} {v : Value} {bs : List UInt8} (h : BufAt w B v bs) (hb : Below w.heap.size w w') : BufAt w' B v bs := by
  obtain ⟨h1, h2⟩ := h
  refine ⟨h1, ?_⟩
  rcases h2 with h2 | ⟨g, cap, cur, rfl, hg, hh, r⟩
  · exact .inl h2
  · exact .inr ⟨g, cap, cur, rfl, hg, (hb.block g (Array.getElem?_eq_some_iff.1 hh).1).trans hh, r⟩
theorem BufAt.row {w : World} {B : Nat} {v : Value} {bs : List UInt8} (h : BufAt w B v bs) : ∀ k, v.ownBlock = some k → B ≤ k := fun k hk => (h.lt k hk).1
theorem grown_below {w0 w w' : World} {B : Nat} {v : Value} {bs : List UInt8} (h : BufAt w B v bs) (hb : Below B w0 w) (hB : B ≤ w.heap.size) (hg : w.grownBy w' v.ownBlock) : Below B w0 w' := by
  refine hb.trans ⟨hg.os, hg.tape, hg.output, hg.size, fun k hk => hg.block k (Nat.lt_of_lt_of_le hk hB) (fun e => ?_)⟩
  have := h.row k e.symm
  omega
/-- The text of such a row. -/
theorem BufAt.text {w : World} {B : Nat} {v : Value} {bs : List UInt8} (h : BufAt w B v bs) (h0 : bs ≠ []) : (convert 26 9 v).run Try.prog w = .ok (.string ⟨bs.toArray⟩) w := by
  rcases h.2 with ⟨_, hn⟩ | ⟨g, cap, cur, rfl, _, hh, _⟩
  · exact absurd (List.length_eq_zero_iff.1 hn) h0
  · have hc := fun j u hu => h.cells (g := g) rfl j u hu
    have hr := run_convert_bytes_arg (P := Try.prog) (w := w) 26 5 Try.underlying26 Try.underlying5 g 0 bs.length cap (bs.map fun b => (b.toNat : Int)) (by simp) (fun i hi => by
      have hb : bs[i]? = some bs[i] := List.getElem?_eq_getElem hi
      have h1 := hc i (.int .u8 bs[i].toNat) (by simp [Lib.byteCells, hb])
      have hadd : (⟨g, 0, none⟩ : Addr).add i = ⟨g, 0 + i, none⟩ := by unfold Addr.add; split <;> simp_all
      rw [hadd] at h1
      rw [h1]
      simp [List.getD, hb]) 9 Try.underlying9
    rw [hr]
    congr 2
    simp [strOfNums, Function.comp_def]
theorem encI_len (leaf : Bool) (x : It) (h : okI leaf x = true) : (encI leaf x).length ≤ 66000 := by
  simp only [okI, Bool.and_eq_true, decide_eq_true_eq] at h
  have hk : x.key.data.toList.length = x.key.size := by rw [Array.length_toList]; rfl
  have hv : x.val.data.toList.length = x.val.size := by rw [Array.length_toList]; rfl
  unfold encI by2
  cases leaf with
  | false =>
    rw [if_neg (by decide)]
    simp only [List.length_append, List.length_cons, List.length_nil, hk]
    omega
  | true =>
    rw [if_pos rfl] at h ⊢
    simp only [Bool.and_eq_true, decide_eq_true_eq] at h
    simp only [List.length_append, List.length_cons, List.length_nil, hk, hv]
    omega
theorem encL_len (leaf : Bool) : ∀ (l : List It), l.all (okI leaf) = true → (encL leaf l).length ≤ l.length * 66000
  | [], _ => by simp [encL]
  | x :: l, h => by
    rw [List.all_cons, Bool.and_eq_true] at h
    have h1 := encI_len leaf x h.1
    have h2 := encL_len leaf l h.2
    have e : encL leaf (x :: l) = encI leaf x ++ encL leaf l := by simp [encL]
    rw [e, List.length_append, List.length_cons]
    omega
theorem by2_cells (n : Nat) : (#[.int .u8 ((n : Int) / 256 % 256), .int .u8 ((n : Int) % 256)] : Array Value) = (Lib.byteCells (by2 n)).toArray := by
  have h1 : ((UInt8.ofNat (n / 256 % 256)).toNat : Int) = (n : Int) / 256 % 256 := by rw [UInt8.toNat_ofNat']; omega
  have h2 : ((UInt8.ofNat (n % 256)).toNat : Int) = (n : Int) % 256 := by rw [UInt8.toNat_ofNat']; omega
  show _ = #[Value.int .u8 ((UInt8.ofNat (n / 256 % 256)).toNat : Int), Value.int .u8 ((UInt8.ofNat (n % 256)).toNat : Int)]
  rw [h1, h2]
theorem encL_take {leaf : Bool} {l : List It} {i : Nat} {x : It} (h : l[i]? = some x) : encL leaf (l.take (i + 1)) = encL leaf (l.take i) ++ encI leaf x := by
  rw [List.take_add_one, h]
  simp [encL]
set_option maxHeartbeats 4000000 in
set_option maxRecDepth 100000 in
theorem encode_calls {w : World} (n : Nd) (A : Option Addr) (c : Nat) (hA : ItsAt w A n.items) (hok : n.items.all (okI n.leaf) = true) (hl : n.items.length ≤ 1000) :
    Calls Try.prog 11 #[.agg #[.bool n.leaf, .slice A n.items.length c]] w fun e w' => e = .returned (.string ⟨(encN n).toArray⟩) ∧ Below w.heap.size w w' := by
  obtain ⟨leaf, items⟩ := n
  simp only at hA hok hl ⊢
  obtain ⟨R, hR⟩ : ∃ R, R = encN ⟨leaf, items⟩ := ⟨_, rfl⟩
  rw [← hR]
  obtain ⟨ln, hln⟩ : ∃ ln, ln = items.length := ⟨_, rfl⟩
  rw [← hln] at hl ⊢
  have HA := Lib.hid hA
  have HR := Lib.hid hR
  have HL := Lib.hid hln
  have HOK := Lib.hid hok
  clear hA hR hln hok
  go_enter Try.func11, Try.ntmps11
  go_upto_region 2 with (first | ((with_reducible refine gate_dst (N := 1) rfl ?_); refine box_event ?hg (N := 1) ?hd (cs := #[.bool leaf, .slice A ln c]) (t := 56) ?hr ?_; (case hd => rfl); (case hg => rfl); (case hr => first | (go_simp; done) | (go_simp; rfl)); intro gn hg wa hbox hb2; have HB1 := Lib.hid hb2; have BN1 := Lib.hid hbox; clear hb2 hbox hg; have c1 := (blk_cell BN1.out 1).trans rfl))
  obtain ⟨B, hB⟩ : ∃ B, B = wa.heap.size := ⟨_, rfl⟩
  obtain ⟨w2, hw2⟩ : ∃ w2, w2 = wa.alloc (.cells #[.int .u8 78, .int .u8 ((ln : Int) % 256)] 5) := ⟨_, rfl⟩
  rw [← hw2, ← hB]
  have hb2 : Below B wa w2 := by rw [hw2, hB]; exact below_alloc (Below.refl _ _) _
  have hblk2 : w2.heap[B]? = some (.cells #[.int .u8 78, .int .u8 ((ln : Int) % 256)] 5 (0, 0)) := by rw [hw2, hB]; exact blk_new _ _
  have hBle : B ≤ w2.heap.size := by have := hb2.size; omega
  have hu8 : ((UInt8.ofNat (ln % 256)).toNat : Int) = (ln : Int) % 256 := by rw [UInt8.toNat_ofNat']; omega
  have BN2 := Lib.hid (blk_below BN1.out (hB ▸ hb2))
  clear c1
  have c0 := (blk_cell BN2.out 0).trans rfl
  have c1 := (blk_cell BN2.out 1).trans rfl
  have f0 := blk_frozen hblk2 0
  have e0 := (blk_cell hblk2 0).trans rfl
  have HBK2 := Lib.hid hblk2
  have HB2 := Lib.hid hb2
  have HBB := Lib.hid hB
  have HLE := Lib.hid hBle
  have HU8 := Lib.hid hu8
  clear hw2 hb2 hblk2 hB hBle hu8
  cases leaf with
  | false =>
    --DEV{A
    have hbuf : BufAt w2 B (.slice (some ⟨B, 0, none⟩) 2 2) [78, UInt8.ofNat (ln % 256)] := by
      refine ⟨rfl, .inr ⟨B, 2, _, rfl, Nat.le_refl _, HBK2.out, Nat.le_refl _, by unfold maxLen; omega, rfl, ?_⟩⟩
      show [Value.int .u8 78, Value.int .u8 ((ln : Int) % 256)] = [Value.int .u8 ((78 : UInt8).toNat : Int), Value.int .u8 ((UInt8.ofNat (ln % 256)).toNat : Int)]
      rw [HU8.out]
      rfl
    have HBUF := Lib.hid hbuf
    clear hbuf e0 f0
    go_wp2_with fail
    go_loopw [3, 18] (fun v a wr => ∃ i : Nat, a = .int .i64 (i : Int) ∧ i ≤ ln ∧ Hid (BufAt wr B v ([78, UInt8.ofNat (ln % 256)] ++ encL false (items.take i))) ∧ Hid (Below B wa wr)) (fun _ a _ => ln - (intOf a).toNat)
    case atStart => exact ⟨0, rfl, Nat.zero_le _, by rw [List.take_zero]; exact HBUF, HB2⟩
    case round =>
      obtain ⟨i, rfl, hi, HBi, HWi⟩ := hrel
      by_cases hin : i < ln
      · have e1 : decide ((i : Int) < (ln : Int)) = true := decide_eq_true (by omega)
        have hiz : (i : Int) < (ln : Int) := by omega
        obtain ⟨x, hx⟩ : ∃ x, items[i]? = some x := ⟨_, List.getElem?_eq_getElem (by rw [← HL.out]; exact hin)⟩
        obtain ⟨blk, off, rfl, hit⟩ := HA.out.item (by rintro h; rw [h] at hx; simp at hx)
        obtain ⟨x0, x1, x2⟩ := hit i x hx
        have hwr : Below w.heap.size w wr := HB1.out.trans (HWi.out.mono (by rw [HBB.out]; exact HB1.out.size))
        have y0 := hwr.cell (World.block_lt_of_cell? w _ x0) |>.trans x0
        have y1 := hwr.cell (World.block_lt_of_cell? w _ x1) |>.trans x1
        have y2 := hwr.cell (World.block_lt_of_cell? w _ x2) |>.trans x2
        clear hit x0 x1 x2
        go_upto_region 7 with fail
        obtain ⟨gx, hgx⟩ : ∃ gx, gx = wr.heap.size := ⟨_, rfl⟩
        obtain ⟨w4, hw4⟩ : ∃ w4, w4 = wr.alloc (.cells #[.string x.key, .string x.val, .int .i64 (x.child : Int)] 53) := ⟨_, rfl⟩
        rw [← hw4, ← hgx]
        have hx4 : w4.heap[gx]? = some (.cells #[.string x.key, .string x.val, .int .i64 (x.child : Int)] 53 (0, 0)) := by rw [hw4, hgx]; exact blk_new _ _
        have hb4 : Below wr.heap.size wr w4 := by rw [hw4]; exact below_alloc (Below.refl _ _) _
        obtain ⟨w5, hw5⟩ : ∃ w5, w5 = w4.drew := ⟨_, rfl⟩
        have hb5 : Below w4.heap.size w4 w5 := by rw [hw5]; exact below_drew (Below.refl _ _)
        have hb45 : Below wr.heap.size wr w5 := hb4.trans (hb5.mono hb4.size)
        have hx5 : w5.heap[gx]? = some (.cells #[.string x.key, .string x.val, .int .i64 (x.child : Int)] 53 (0, 0)) := blk_below hx4 hb5
        have hBr : B ≤ wr.heap.size := Nat.le_trans (by rw [HBB.out]; exact Nat.le_refl _) HWi.out.size
        have hW5 : Below B wa w5 := HWi.out.trans (hb45.mono hBr)
        have hok := List.all_eq_true.1 HOK.out x (List.mem_of_getElem? hx)
        have hks : x.key.size < 256 := by simp only [okI, Bool.and_eq_true, decide_eq_true_eq] at hok; exact hok.1
        have hbl : (encL false (items.take i)).length ≤ 66000000 := by
          have h1 := encL_len false (items.take i) (by rw [List.all_eq_true]; exact fun y hy => List.all_eq_true.1 HOK.out y (List.mem_of_mem_take hy))
          rw [List.length_take] at h1
          omega
        obtain ⟨bs, hbs⟩ : ∃ bs, bs = [78, UInt8.ofNat (ln % 256)] ++ encL false (items.take i) := ⟨_, rfl⟩
        have hbsl : bs.length ≤ 66000002 := by rw [hbs, List.length_append]; simp only [List.length_cons, List.length_nil]; omega
        have hu5 : BufAt w5 B u3 bs := by rw [hbs]; exact HBi.out.keep hb45
        have hn6 := blk_new w5 (.cells #[.int .u8 ((x.key.size : Int) % 256)] 5)
        have hcell6 : (#[.int .u8 ((x.key.size : Int) % 256)] : Array Value) = (Lib.byteCells [UInt8.ofNat (x.key.size % 256)]).toArray := by
          have h8 : ((UInt8.ofNat (x.key.size % 256)).toNat : Int) = (x.key.size : Int) % 256 := by rw [UInt8.toNat_ofNat']; omega
          show _ = #[Value.int .u8 ((UInt8.ofNat (x.key.size % 256)).toNat : Int)]
          rw [h8]
        have ha6 : Below w5.heap.size w5 (w5.alloc (.cells #[.int .u8 ((x.key.size : Int) % 256)] 5)) := below_alloc (Below.refl _ _) _
        have hB6 : B ≤ (w5.alloc (.cells #[.int .u8 ((x.key.size : Int) % 256)] 5)).heap.size := Nat.le_trans (Nat.le_trans hBr hb45.size) ha6.size
        rw [hcell6] at hn6
        obtain ⟨v7, w7, hr7, hu7, hg7⟩ := (hu5.keep ha6).run_bytes [UInt8.ofNat (x.key.size % 256)] (by rw [← hcell6] at hn6 ⊢; exact hn6) (by simp only [List.length_cons, List.length_nil]; omega) hB6 26
        replace hr7 : (Builtin.append_ #[26, 26] 26 #[u3, .slice (some ⟨w5.heap.size, 0, none⟩) 1 1]).run Try.prog (w5.alloc (.cells #[.int .u8 ((x.key.size : Int) % 256)] 5)) = .ok v7 w7 := hr7
        have hW7 := grown_below (hu5.keep ha6) (hW5.trans (ha6.mono (Nat.le_trans hBr hb45.size))) hB6 hg7
        have hx7 : w7.heap[gx]? = some (.cells #[.string x.key, .string x.val, .int .i64 (x.child : Int)] 53 (0, 0)) := by
          have h6 := blk_alloc hx5 (.cells #[.int .u8 ((x.key.size : Int) % 256)] 5)
          exact (hg7.block gx (Array.getElem?_eq_some_iff.1 h6).1 (own_ne (hu5.keep ha6) h6 (by decide))).trans h6
        have hB7 : B ≤ w7.heap.size := Nat.le_trans hB6 hg7.size
        obtain ⟨v8, w8, hr8, hu8', hg8⟩ := hu7.run_str x.key (by simp only [List.length_append, List.length_cons, List.length_nil]; omega) hB7 26
        have hW8 := grown_below hu7 hW7 hB7 hg8
        have hx8 : w8.heap[gx]? = some (.cells #[.string x.key, .string x.val, .int .i64 (x.child : Int)] 53 (0, 0)) := (hg8.block gx (Array.getElem?_eq_some_iff.1 hx7).1 (own_ne hu7 hx7 (by decide))).trans hx7
        have hB8 : B ≤ w8.heap.size := Nat.le_trans hB7 hg8.size
        have BX5 := Lib.hid hx5
        have BX7 := Lib.hid hx7
        have BX8 := Lib.hid hx8
        have HU8' := Lib.hid hu8'
        have HB8 := Lib.hid hW8
        have HW5 := Lib.hid hw5
        have HBS := Lib.hid hbs
        have HX := Lib.hid hx
        have HKS := Lib.hid (And.intro hok hks)
        have HSZ := Lib.hid (And.intro hbsl hB8)
        clear hgx hw4 hx4 hb4 hw5 hb5 hb45 hx5 hBr hW5 hok hks hbl hbs hbsl hu5 hn6 hcell6 ha6 hB6 hu7 hg7 hW7 hx7 hB7 hu8' hg8 hW8 hx8 hB8 hx
        refine start_ (n := 11) (S := fun w' => w'.cell? ⟨gx, 0, none⟩ = some (.string x.key)) (ds := [9]) #[false, false, false, false, false, false, false, false, false, false, false] (by kernel_rfl) rfl rfl ((by rw [← HW5.out]; exact (blk_cell BX5.out 0).trans rfl)) (fun hHeld => ?_)
        rw [← HW5.out] at hHeld ⊢
        refine pure_ (i := 0) (N := some 22) (v := ?_) (a' := ?_) #[true, false, false, false, false, false, false, false, false, false, false] rfl rfl (by kernel_rfl) (fun _ _ _ h => h) (Or.inl ⟨by rfl, ?_⟩) ?_ ?_
        rotate_left
        · intro w'
          go_simp
          with_reducible rfl
        rotate_left
        · simp only [Act.put, List.setIfInBounds_toArray, List.set_cons_zero, List.set_cons_succ]
          rfl
        refine pure_ (i := 1) (N := some 23) (v := ?_) (a' := ?_) #[true, true, false, false, false, false, false, false, false, false, false] rfl rfl (by kernel_rfl) (fun _ _ _ h => h) (Or.inl ⟨by rfl, ?_⟩) ?_ ?_
        rotate_left
        · intro w'
          go_simp
          with_reducible rfl
        rotate_left
        · simp only [Act.put, List.setIfInBounds_toArray, List.set_cons_zero, List.set_cons_succ]
          rfl
        refine pure_ (i := 7) (N := some 29) (v := ?_) (a' := ?_) #[true, true, false, false, false, false, false, true, false, false, false] rfl rfl (by kernel_rfl) (fun _ _ _ h => h) (Or.inl ⟨by rfl, ?_⟩) ?_ ?_
        rotate_left
        · intro w'
          go_simp
          with_reducible rfl
        rotate_left
        · simp only [Act.put, List.setIfInBounds_toArray, List.set_cons_zero, List.set_cons_succ]
          rfl
        refine take_ (i := 2) (N := some 24) (v := ?_) (a' := ?_) #[true, true, true, false, false, false, false, true, false, false, false] rfl rfl (by kernel_rfl) (fun _ _ _ h => h) (Or.inl ⟨by rfl, ?_⟩) hHeld ?_ ?_
        rotate_left
        · intro w' s0
          go_simp
          with_reducible rfl
        rotate_left
        · simp only [Act.put, List.setIfInBounds_toArray, List.set_cons_zero, List.set_cons_succ]
          rfl
        refine pure_ (i := 3) (N := some 25) (v := ?_) (a' := ?_) #[true, true, true, true, false, false, false, true, false, false, false] rfl rfl (by kernel_rfl) (fun _ _ _ h => h) (Or.inl ⟨by rfl, ?_⟩) ?_ ?_
        rotate_left
        · intro w'
          go_simp
          with_reducible rfl
        rotate_left
        · simp only [Act.put, List.setIfInBounds_toArray, List.set_cons_zero, List.set_cons_succ]
          rfl
        refine pure_ (i := 4) (N := some 26) (v := ?_) (a' := ?_) #[true, true, true, true, true, false, false, true, false, false, false] rfl rfl (by kernel_rfl) (fun _ _ _ h => h) (Or.inl ⟨by rfl, ?_⟩) ?_ ?_
        rotate_left
        · intro w'
          go_simp
          with_reducible rfl
        rotate_left
        · simp only [Act.put, List.setIfInBounds_toArray, List.set_cons_zero, List.set_cons_succ]
          rfl
        refine take_ (i := 8) (N := some 30) (v := ?_) (a' := ?_) #[true, true, true, true, true, false, false, true, true, false, false] rfl rfl (by kernel_rfl) (fun _ _ _ h => h) (Or.inl ⟨by rfl, ?_⟩) hHeld ?_ ?_
        rotate_left
        · intro w' s0
          go_simp
          with_reducible rfl
        rotate_left
        · simp only [Act.put, List.setIfInBounds_toArray, List.set_cons_zero, List.set_cons_succ]
          rfl
        refine one_ (i := 5) (N := some 27) #[true, true, true, true, true, true, false, true, true, false, false] rfl rfl (by kernel_rfl) (by decide) (fun K hK => ?_)
        refine value_ (w1 := ?_) (v := ?_) (by rfl) rfl ?_ ?_
        rotate_left 2
        · go_simp
          constructor
          · rfl
          · rfl
        refine hK.out _ _ ((blk_cell (blk_alloc BX5.out _) 0).trans rfl) (fun hHeld => ?_)
        clear hK K
        refine norm_ (a' := ?_) ?_ ?_
        rotate_left
        · show Act.put _ (some 27) _ = _
          simp only [Act.put, List.setIfInBounds_toArray, List.set_cons_zero, List.set_cons_succ]
          rfl
        refine one_ (i := 6) (N := some 28) #[true, true, true, true, true, true, true, true, true, false, false] rfl rfl (by kernel_rfl) (by decide) (fun K hK => ?_)
        refine step_append_run rfl _ _ _ _ rfl _ _ rfl rfl hr7 ?_
        refine hK.out _ _ ((blk_cell BX7.out 0).trans rfl) (fun hHeld => ?_)
        clear hK K
        refine norm_ (a' := ?_) ?_ ?_
        rotate_left
        · show Act.put _ (some 28) _ = _
          simp only [Act.put, List.setIfInBounds_toArray, List.set_cons_zero, List.set_cons_succ]
          rfl
        refine last_ (i := 9) (N := some 31) #[true, true, true, true, true, true, true, true, true, true, false] rfl rfl (by kernel_rfl) (by decide) (fun K hK => ?_)
        refine step_append_run rfl _ _ _ _ rfl _ _ rfl rfl hr8 ?_
        refine hK.out _ _ ?_
        clear hK K
        refine norm_ (a' := ?_) ?_ ?_
        rotate_left
        · show Act.put _ (some 31) _ = _
          simp only [Act.put, List.setIfInBounds_toArray, List.set_cons_zero, List.set_cons_succ]
          rfl
        refine pure_ (i := 10) (N := some 3) (v := ?_) (a' := ?_) #[true, true, true, true, true, true, true, true, true, true, true] rfl rfl (by kernel_rfl) (fun _ _ _ h => h) (Or.inl ⟨by rfl, ?_⟩) ?_ ?_
        rotate_left
        · intro w'
          go_simp
          with_reducible rfl
        rotate_left
        · simp only [Act.put, List.setIfInBounds_toArray, List.set_cons_zero, List.set_cons_succ]
          rfl
        refine done_ (by kernel_rfl) ?_

        have BN8 := Lib.hid (blk_below BN1.out (show Below wa.heap.size wa w8 from HBB.out ▸ HB8.out))
        clear c0 c1
        have c0 := (blk_cell BN8.out 0).trans rfl
        have g2 := (blk_cell BX8.out 2).trans rfl
        go_upto_region 10 with fail
        have hn9 := blk_new w8 (.cells #[.int .u8 ((x.child : Int) / 256 % 256), .int .u8 ((x.child : Int) % 256)] 5)
        have hcell9 : (#[.int .u8 ((x.child : Int) / 256 % 256), .int .u8 ((x.child : Int) % 256)] : Array Value) = (Lib.byteCells (by2 x.child)).toArray := by2_cells x.child
        have ha9 : Below w8.heap.size w8 (w8.alloc (.cells #[.int .u8 ((x.child : Int) / 256 % 256), .int .u8 ((x.child : Int) % 256)] 5)) := below_alloc (Below.refl _ _) _
        have hsz := HSZ.out
        have hB9 := Nat.le_trans hsz.2 ha9.size
        rw [hcell9] at hn9
        have hks := HKS.out.2
        have hkl : x.key.data.toList.length = x.key.size := by rw [Array.length_toList]; rfl
        obtain ⟨v10, w10, hr10, hu10, hg10⟩ := (HU8'.out.keep ha9).run_bytes (by2 x.child) (by rw [← hcell9] at hn9 ⊢; exact hn9) (by simp only [List.length_append, List.length_cons, List.length_nil, by2, hkl]; omega) hB9 26
        replace hr10 : (Builtin.append_ #[26, 26] 26 #[v8, .slice (some ⟨w8.heap.size, 0, none⟩) 2 2]).run Try.prog (w8.alloc (.cells #[.int .u8 ((x.child : Int) / 256 % 256), .int .u8 ((x.child : Int) % 256)] 5)) = .ok v10 w10 := hr10
        have HW10 := Lib.hid (grown_below (HU8'.out.keep ha9) (HB8.out.trans (ha9.mono hsz.2)) hB9 hg10)
        have HU10 := Lib.hid hu10
        have hwi : IntKind.i64.wrap ((i : Int) + 1) = ((i + 1 : Nat) : Int) := by rw [IntWalk.i64_in _ (by omega)]; rfl
        clear hn9 hcell9 ha9 hB9 hg10 hu10 hsz
        go_wp2_with (at_builtin; refine wpList_append_run _ rfl _ _ _ _ rfl _ _ rfl rfl hr10 ?_)
        go_roundw
        case rel =>
          refine ⟨i + 1, rfl, hin, ?_, HW10⟩
          have h10 := HU10.out
          rw [HBS.out] at h10
          rw [encL_take HX.out]
          simp only [encI, if_neg (show ¬ false = true by decide), List.append_assoc, List.cons_append, List.nil_append] at h10 ⊢
          exact Lib.hid h10
        case measure => simp only [intOf] at *; omega
      · have e1 : decide ((i : Int) < (ln : Int)) = false := decide_eq_false (by omega)
        obtain rfl : ln = i := by omega
        have htk : items.take ln = items := List.take_of_length_le (by rw [HL.out]; exact Nat.le_refl _)
        rw [htk] at HBi
        have hcv := HBi.out.text (by simp)
        go_wp2_with fail
        go_ret
        refine ⟨?_, HB1.out.trans (HWi.out.mono (by rw [HBB.out]; exact HB1.out.size))⟩
        rw [HR.out]
        show _ = Ending.returned (.string ⟨([78, UInt8.ofNat (items.length % 256)] ++ encL false items).toArray⟩)
        rw [← HL.out]
        try rfl
    --DEV}
  | true =>
    --DEV{B
    go_upto_region 4 with fail
    obtain ⟨w3, hw3⟩ : ∃ w3, w3 = w2.setCell ⟨B, 0, none⟩ (.int .u8 76) := ⟨_, rfl⟩
    rw [← hw3]
    have hblk3 : w3.heap[B]? = some (.cells #[.int .u8 76, .int .u8 ((ln : Int) % 256)] 5 (0, 0)) := by rw [hw3]; exact (heap_set HBK2.out _).trans rfl
    have hb3 : Below B wa w3 := by rw [hw3]; exact HB2.out.setCell (p := ⟨B, 0, none⟩) (Nat.le_refl _) _
    have hbuf : BufAt w3 B (.slice (some ⟨B, 0, none⟩) 2 2) [76, UInt8.ofNat (ln % 256)] := by
      refine ⟨rfl, .inr ⟨B, 2, _, rfl, Nat.le_refl _, hblk3, Nat.le_refl _, by unfold maxLen; omega, rfl, ?_⟩⟩
      show [Value.int .u8 76, Value.int .u8 ((ln : Int) % 256)] = [Value.int .u8 ((76 : UInt8).toNat : Int), Value.int .u8 ((UInt8.ofNat (ln % 256)).toNat : Int)]
      rw [HU8.out]
      rfl
    have BN3 := Lib.hid (blk_below BN1.out (show Below wa.heap.size wa w3 from HBB.out ▸ hb3))
    have HBUF := Lib.hid hbuf
    have HB3 := Lib.hid hb3
    clear hbuf e0 f0 c0 c1 hw3 hblk3 hb3
    have c1 := (blk_cell BN3.out 1).trans rfl
    go_wp2_with fail
    go_loopw [3, 18] (fun v a wr => ∃ i : Nat, a = .int .i64 (i : Int) ∧ i ≤ ln ∧ Hid (BufAt wr B v ([76, UInt8.ofNat (ln % 256)] ++ encL true (items.take i))) ∧ Hid (Below B wa wr)) (fun _ a _ => ln - (intOf a).toNat)
    case atStart => exact ⟨0, rfl, Nat.zero_le _, by rw [List.take_zero]; exact HBUF, HB3⟩
    case round =>
      obtain ⟨i, rfl, hi, HBi, HWi⟩ := hrel
      by_cases hin : i < ln
      · have e1 : decide ((i : Int) < (ln : Int)) = true := decide_eq_true (by omega)
        have hiz : (i : Int) < (ln : Int) := by omega
        obtain ⟨x, hx⟩ : ∃ x, items[i]? = some x := ⟨_, List.getElem?_eq_getElem (by rw [← HL.out]; exact hin)⟩
        obtain ⟨blk, off, rfl, hit⟩ := HA.out.item (by rintro h; rw [h] at hx; simp at hx)
        obtain ⟨x0, x1, x2⟩ := hit i x hx
        have hwr : Below w.heap.size w wr := HB1.out.trans (HWi.out.mono (by rw [HBB.out]; exact HB1.out.size))
        have y0 := hwr.cell (World.block_lt_of_cell? w _ x0) |>.trans x0
        have y1 := hwr.cell (World.block_lt_of_cell? w _ x1) |>.trans x1
        have y2 := hwr.cell (World.block_lt_of_cell? w _ x2) |>.trans x2
        clear hit x0 x1 x2
        go_upto_region 7 with fail
        obtain ⟨gx, hgx⟩ : ∃ gx, gx = wr.heap.size := ⟨_, rfl⟩
        obtain ⟨w4, hw4⟩ : ∃ w4, w4 = wr.alloc (.cells #[.string x.key, .string x.val, .int .i64 (x.child : Int)] 53) := ⟨_, rfl⟩
        rw [← hw4, ← hgx]
        have hx4 : w4.heap[gx]? = some (.cells #[.string x.key, .string x.val, .int .i64 (x.child : Int)] 53 (0, 0)) := by rw [hw4, hgx]; exact blk_new _ _
        have hb4 : Below wr.heap.size wr w4 := by rw [hw4]; exact below_alloc (Below.refl _ _) _
        obtain ⟨w5, hw5⟩ : ∃ w5, w5 = w4.drew := ⟨_, rfl⟩
        have hb5 : Below w4.heap.size w4 w5 := by rw [hw5]; exact below_drew (Below.refl _ _)
        have hb45 : Below wr.heap.size wr w5 := hb4.trans (hb5.mono hb4.size)
        have hx5 : w5.heap[gx]? = some (.cells #[.string x.key, .string x.val, .int .i64 (x.child : Int)] 53 (0, 0)) := blk_below hx4 hb5
        have hBr : B ≤ wr.heap.size := Nat.le_trans (by rw [HBB.out]; exact Nat.le_refl _) HWi.out.size
        have hW5 : Below B wa w5 := HWi.out.trans (hb45.mono hBr)
        have hok := List.all_eq_true.1 HOK.out x (List.mem_of_getElem? hx)
        have hks : x.key.size < 256 := by simp only [okI, Bool.and_eq_true, decide_eq_true_eq] at hok; exact hok.1
        have hbl : (encL true (items.take i)).length ≤ 66000000 := by
          have h1 := encL_len true (items.take i) (by rw [List.all_eq_true]; exact fun y hy => List.all_eq_true.1 HOK.out y (List.mem_of_mem_take hy))
          rw [List.length_take] at h1
          omega
        obtain ⟨bs, hbs⟩ : ∃ bs, bs = [76, UInt8.ofNat (ln % 256)] ++ encL true (items.take i) := ⟨_, rfl⟩
        have hbsl : bs.length ≤ 66000002 := by rw [hbs, List.length_append]; simp only [List.length_cons, List.length_nil]; omega
        have hu5 : BufAt w5 B u3 bs := by rw [hbs]; exact HBi.out.keep hb45
        have hn6 := blk_new w5 (.cells #[.int .u8 ((x.key.size : Int) % 256)] 5)
        have hcell6 : (#[.int .u8 ((x.key.size : Int) % 256)] : Array Value) = (Lib.byteCells [UInt8.ofNat (x.key.size % 256)]).toArray := by
          have h8 : ((UInt8.ofNat (x.key.size % 256)).toNat : Int) = (x.key.size : Int) % 256 := by rw [UInt8.toNat_ofNat']; omega
          show _ = #[Value.int .u8 ((UInt8.ofNat (x.key.size % 256)).toNat : Int)]
          rw [h8]
        have ha6 : Below w5.heap.size w5 (w5.alloc (.cells #[.int .u8 ((x.key.size : Int) % 256)] 5)) := below_alloc (Below.refl _ _) _
        have hB6 : B ≤ (w5.alloc (.cells #[.int .u8 ((x.key.size : Int) % 256)] 5)).heap.size := Nat.le_trans (Nat.le_trans hBr hb45.size) ha6.size
        rw [hcell6] at hn6
        obtain ⟨v7, w7, hr7, hu7, hg7⟩ := (hu5.keep ha6).run_bytes [UInt8.ofNat (x.key.size % 256)] (by rw [← hcell6] at hn6 ⊢; exact hn6) (by simp only [List.length_cons, List.length_nil]; omega) hB6 26
        replace hr7 : (Builtin.append_ #[26, 26] 26 #[u3, .slice (some ⟨w5.heap.size, 0, none⟩) 1 1]).run Try.prog (w5.alloc (.cells #[.int .u8 ((x.key.size : Int) % 256)] 5)) = .ok v7 w7 := hr7
        have hW7 := grown_below (hu5.keep ha6) (hW5.trans (ha6.mono (Nat.le_trans hBr hb45.size))) hB6 hg7
        have hx7 : w7.heap[gx]? = some (.cells #[.string x.key, .string x.val, .int .i64 (x.child : Int)] 53 (0, 0)) := by
          have h6 := blk_alloc hx5 (.cells #[.int .u8 ((x.key.size : Int) % 256)] 5)
          exact (hg7.block gx (Array.getElem?_eq_some_iff.1 h6).1 (own_ne (hu5.keep ha6) h6 (by decide))).trans h6
        have hB7 : B ≤ w7.heap.size := Nat.le_trans hB6 hg7.size
        obtain ⟨v8, w8, hr8, hu8', hg8⟩ := hu7.run_str x.key (by simp only [List.length_append, List.length_cons, List.length_nil]; omega) hB7 26
        have hW8 := grown_below hu7 hW7 hB7 hg8
        have hx8 : w8.heap[gx]? = some (.cells #[.string x.key, .string x.val, .int .i64 (x.child : Int)] 53 (0, 0)) := (hg8.block gx (Array.getElem?_eq_some_iff.1 hx7).1 (own_ne hu7 hx7 (by decide))).trans hx7
        have hB8 : B ≤ w8.heap.size := Nat.le_trans hB7 hg8.size
        have BX5 := Lib.hid hx5
        have BX7 := Lib.hid hx7
        have BX8 := Lib.hid hx8
        have HU8' := Lib.hid hu8'
        have HB8 := Lib.hid hW8
        have HW5 := Lib.hid hw5
        have HBS := Lib.hid hbs
        have HX := Lib.hid hx
        have HKS := Lib.hid (And.intro hok hks)
        have HSZ := Lib.hid (And.intro hbsl hB8)
        clear hgx hw4 hx4 hb4 hw5 hb5 hb45 hx5 hBr hW5 hok hks hbl hbs hbsl hu5 hn6 hcell6 ha6 hB6 hu7 hg7 hW7 hx7 hB7 hu8' hg8 hW8 hx8 hB8 hx
        refine start_ (n := 11) (S := fun w' => w'.cell? ⟨gx, 0, none⟩ = some (.string x.key)) (ds := [9]) #[false, false, false, false, false, false, false, false, false, false, false] (by kernel_rfl) rfl rfl ((by rw [← HW5.out]; exact (blk_cell BX5.out 0).trans rfl)) (fun hHeld => ?_)
        rw [← HW5.out] at hHeld ⊢
        refine pure_ (i := 0) (N := some 22) (v := ?_) (a' := ?_) #[true, false, false, false, false, false, false, false, false, false, false] rfl rfl (by kernel_rfl) (fun _ _ _ h => h) (Or.inl ⟨by rfl, ?_⟩) ?_ ?_
        rotate_left
        · intro w'
          go_simp
          with_reducible rfl
        rotate_left
        · simp only [Act.put, List.setIfInBounds_toArray, List.set_cons_zero, List.set_cons_succ]
          rfl
        refine pure_ (i := 1) (N := some 23) (v := ?_) (a' := ?_) #[true, true, false, false, false, false, false, false, false, false, false] rfl rfl (by kernel_rfl) (fun _ _ _ h => h) (Or.inl ⟨by rfl, ?_⟩) ?_ ?_
        rotate_left
        · intro w'
          go_simp
          with_reducible rfl
        rotate_left
        · simp only [Act.put, List.setIfInBounds_toArray, List.set_cons_zero, List.set_cons_succ]
          rfl
        refine pure_ (i := 7) (N := some 29) (v := ?_) (a' := ?_) #[true, true, false, false, false, false, false, true, false, false, false] rfl rfl (by kernel_rfl) (fun _ _ _ h => h) (Or.inl ⟨by rfl, ?_⟩) ?_ ?_
        rotate_left
        · intro w'
          go_simp
          with_reducible rfl
        rotate_left
        · simp only [Act.put, List.setIfInBounds_toArray, List.set_cons_zero, List.set_cons_succ]
          rfl
        refine take_ (i := 2) (N := some 24) (v := ?_) (a' := ?_) #[true, true, true, false, false, false, false, true, false, false, false] rfl rfl (by kernel_rfl) (fun _ _ _ h => h) (Or.inl ⟨by rfl, ?_⟩) hHeld ?_ ?_
        rotate_left
        · intro w' s0
          go_simp
          with_reducible rfl
        rotate_left
        · simp only [Act.put, List.setIfInBounds_toArray, List.set_cons_zero, List.set_cons_succ]
          rfl
        refine pure_ (i := 3) (N := some 25) (v := ?_) (a' := ?_) #[true, true, true, true, false, false, false, true, false, false, false] rfl rfl (by kernel_rfl) (fun _ _ _ h => h) (Or.inl ⟨by rfl, ?_⟩) ?_ ?_
        rotate_left
        · intro w'
          go_simp
          with_reducible rfl
        rotate_left
        · simp only [Act.put, List.setIfInBounds_toArray, List.set_cons_zero, List.set_cons_succ]
          rfl
        refine pure_ (i := 4) (N := some 26) (v := ?_) (a' := ?_) #[true, true, true, true, true, false, false, true, false, false, false] rfl rfl (by kernel_rfl) (fun _ _ _ h => h) (Or.inl ⟨by rfl, ?_⟩) ?_ ?_
        rotate_left
        · intro w'
          go_simp
          with_reducible rfl
        rotate_left
        · simp only [Act.put, List.setIfInBounds_toArray, List.set_cons_zero, List.set_cons_succ]
          rfl
        refine take_ (i := 8) (N := some 30) (v := ?_) (a' := ?_) #[true, true, true, true, true, false, false, true, true, false, false] rfl rfl (by kernel_rfl) (fun _ _ _ h => h) (Or.inl ⟨by rfl, ?_⟩) hHeld ?_ ?_
        rotate_left
        · intro w' s0
          go_simp
          with_reducible rfl
        rotate_left
        · simp only [Act.put, List.setIfInBounds_toArray, List.set_cons_zero, List.set_cons_succ]
          rfl
        refine one_ (i := 5) (N := some 27) #[true, true, true, true, true, true, false, true, true, false, false] rfl rfl (by kernel_rfl) (by decide) (fun K hK => ?_)
        refine value_ (w1 := ?_) (v := ?_) (by rfl) rfl ?_ ?_
        rotate_left 2
        · go_simp
          constructor
          · rfl
          · rfl
        refine hK.out _ _ ((blk_cell (blk_alloc BX5.out _) 0).trans rfl) (fun hHeld => ?_)
        clear hK K
        refine norm_ (a' := ?_) ?_ ?_
        rotate_left
        · show Act.put _ (some 27) _ = _
          simp only [Act.put, List.setIfInBounds_toArray, List.set_cons_zero, List.set_cons_succ]
          rfl
        refine one_ (i := 6) (N := some 28) #[true, true, true, true, true, true, true, true, true, false, false] rfl rfl (by kernel_rfl) (by decide) (fun K hK => ?_)
        refine step_append_run rfl _ _ _ _ rfl _ _ rfl rfl hr7 ?_
        refine hK.out _ _ ((blk_cell BX7.out 0).trans rfl) (fun hHeld => ?_)
        clear hK K
        refine norm_ (a' := ?_) ?_ ?_
        rotate_left
        · show Act.put _ (some 28) _ = _
          simp only [Act.put, List.setIfInBounds_toArray, List.set_cons_zero, List.set_cons_succ]
          rfl
        refine last_ (i := 9) (N := some 31) #[true, true, true, true, true, true, true, true, true, true, false] rfl rfl (by kernel_rfl) (by decide) (fun K hK => ?_)
        refine step_append_run rfl _ _ _ _ rfl _ _ rfl rfl hr8 ?_
        refine hK.out _ _ ?_
        clear hK K
        refine norm_ (a' := ?_) ?_ ?_
        rotate_left
        · show Act.put _ (some 31) _ = _
          simp only [Act.put, List.setIfInBounds_toArray, List.set_cons_zero, List.set_cons_succ]
          rfl
        refine pure_ (i := 10) (N := some 3) (v := ?_) (a' := ?_) #[true, true, true, true, true, true, true, true, true, true, true] rfl rfl (by kernel_rfl) (fun _ _ _ h => h) (Or.inl ⟨by rfl, ?_⟩) ?_ ?_
        rotate_left
        · intro w'
          go_simp
          with_reducible rfl
        rotate_left
        · simp only [Act.put, List.setIfInBounds_toArray, List.set_cons_zero, List.set_cons_succ]
          rfl
        refine done_ (by kernel_rfl) ?_

        have BN8 := Lib.hid (blk_below BN1.out (show Below wa.heap.size wa w8 from HBB.out ▸ HB8.out))
        clear c1
        have c0 := (blk_cell BN8.out 0).trans rfl
        skip
        go_upto_region 9 with fail
        obtain ⟨w9, hw9⟩ : ∃ w9, w9 = w8.drew := ⟨_, rfl⟩
        have hb9 : Below w8.heap.size w8 w9 := by rw [hw9]; exact below_drew (Below.refl _ _)
        have hx9 := blk_below BX8.out hb9
        have hsz := HSZ.out
        have hks := HKS.out.2
        have hvs : x.val.size < 65536 := by
          have h := HKS.out.1
          simp only [okI, Bool.and_eq_true, decide_eq_true_eq, if_pos trivial] at h
          exact h.2.1
        have hkl : x.key.data.toList.length = x.key.size := by rw [Array.length_toList]; rfl
        have hu9 := HU8'.out.keep hb9
        have hB9 := Nat.le_trans hsz.2 hb9.size
        have hn10 := blk_new w9 (.cells #[.int .u8 ((x.val.size : Int) / 256 % 256), .int .u8 ((x.val.size : Int) % 256)] 5)
        have hcell10 : (#[.int .u8 ((x.val.size : Int) / 256 % 256), .int .u8 ((x.val.size : Int) % 256)] : Array Value) = (Lib.byteCells (by2 x.val.size)).toArray := by2_cells x.val.size
        have ha10 : Below w9.heap.size w9 (w9.alloc (.cells #[.int .u8 ((x.val.size : Int) / 256 % 256), .int .u8 ((x.val.size : Int) % 256)] 5)) := below_alloc (Below.refl _ _) _
        have hB10 := Nat.le_trans hB9 ha10.size
        rw [hcell10] at hn10
        obtain ⟨v11, w11, hr11, hu11, hg11⟩ := (hu9.keep ha10).run_bytes (by2 x.val.size) (by rw [← hcell10] at hn10 ⊢; exact hn10) (by simp only [List.length_append, List.length_cons, List.length_nil, by2, hkl]; omega) hB10 26
        replace hr11 : (Builtin.append_ #[26, 26] 26 #[v8, .slice (some ⟨w9.heap.size, 0, none⟩) 2 2]).run Try.prog (w9.alloc (.cells #[.int .u8 ((x.val.size : Int) / 256 % 256), .int .u8 ((x.val.size : Int) % 256)] 5)) = .ok v11 w11 := hr11
        have hW9 : Below B wa w9 := HB8.out.trans (hb9.mono hsz.2)
        have hW11 := grown_below (hu9.keep ha10) (hW9.trans (ha10.mono hB9)) hB10 hg11
        have hx11 : w11.heap[gx]? = some (.cells #[.string x.key, .string x.val, .int .i64 (x.child : Int)] 53 (0, 0)) := by
          have h10 := blk_alloc hx9 (.cells #[.int .u8 ((x.val.size : Int) / 256 % 256), .int .u8 ((x.val.size : Int) % 256)] 5)
          exact (hg11.block gx (Array.getElem?_eq_some_iff.1 h10).1 (own_ne (hu9.keep ha10) h10 (by decide))).trans h10
        have hB11 := Nat.le_trans hB10 hg11.size
        obtain ⟨v12, w12, hr12, hu12, hg12⟩ := hu11.run_str x.val (by simp only [List.length_append, List.length_cons, List.length_nil, by2, hkl]; omega) hB11 26
        have HW12 := Lib.hid (grown_below hu11 hW11 hB11 hg12)
        have HU12 := Lib.hid hu12
        have HW9 := Lib.hid hw9
        have BX9 := Lib.hid hx9
        have BX11 := Lib.hid hx11
        clear hw9 hb9 hx9 hsz hks hvs hkl hu9 hB9 hn10 hcell10 ha10 hB10 hu11 hg11 hW9 hW11 hx11 hB11 hu12 hg12
        refine start_ (n := 16) (S := fun w' => w'.cell? ⟨gx, 1, none⟩ = some (.string x.val)) (ds := [14]) #[false, false, false, false, false, false, false, false, false, false, false, false, false, false, false, false] (by kernel_rfl) rfl rfl ((by rw [← HW9.out]; exact (blk_cell BX9.out 1).trans rfl)) (fun hHeld => ?_)
        rw [← HW9.out] at hHeld ⊢
        refine pure_ (i := 0) (N := some 34) (v := ?_) (a' := ?_) #[true, false, false, false, false, false, false, false, false, false, false, false, false, false, false, false] rfl rfl (by kernel_rfl) (fun _ _ _ h => h) (Or.inl ⟨by rfl, ?_⟩) ?_ ?_
        rotate_left
        · intro w'
          go_simp
          with_reducible rfl
        rotate_left
        · simp only [Act.put, List.setIfInBounds_toArray, List.set_cons_zero, List.set_cons_succ]
          rfl
        refine pure_ (i := 1) (N := some 35) (v := ?_) (a' := ?_) #[true, true, false, false, false, false, false, false, false, false, false, false, false, false, false, false] rfl rfl (by kernel_rfl) (fun _ _ _ h => h) (Or.inl ⟨by rfl, ?_⟩) ?_ ?_
        rotate_left
        · intro w'
          go_simp
          with_reducible rfl
        rotate_left
        · simp only [Act.put, List.setIfInBounds_toArray, List.set_cons_zero, List.set_cons_succ]
          rfl
        refine pure_ (i := 6) (N := some 40) (v := ?_) (a' := ?_) #[true, true, false, false, false, false, true, false, false, false, false, false, false, false, false, false] rfl rfl (by kernel_rfl) (fun _ _ _ h => h) (Or.inl ⟨by rfl, ?_⟩) ?_ ?_
        rotate_left
        · intro w'
          go_simp
          with_reducible rfl
        rotate_left
        · simp only [Act.put, List.setIfInBounds_toArray, List.set_cons_zero, List.set_cons_succ]
          rfl
        refine pure_ (i := 12) (N := some 46) (v := ?_) (a' := ?_) #[true, true, false, false, false, false, true, false, false, false, false, false, true, false, false, false] rfl rfl (by kernel_rfl) (fun _ _ _ h => h) (Or.inl ⟨by rfl, ?_⟩) ?_ ?_
        rotate_left
        · intro w'
          go_simp
          with_reducible rfl
        rotate_left
        · simp only [Act.put, List.setIfInBounds_toArray, List.set_cons_zero, List.set_cons_succ]
          rfl
        refine take_ (i := 2) (N := some 36) (v := ?_) (a' := ?_) #[true, true, true, false, false, false, true, false, false, false, false, false, true, false, false, false] rfl rfl (by kernel_rfl) (fun _ _ _ h => h) (Or.inl ⟨by rfl, ?_⟩) hHeld ?_ ?_
        rotate_left
        · intro w' s0
          go_simp
          with_reducible rfl
        rotate_left
        · simp only [Act.put, List.setIfInBounds_toArray, List.set_cons_zero, List.set_cons_succ]
          rfl
        refine pure_ (i := 3) (N := some 37) (v := ?_) (a' := ?_) #[true, true, true, true, false, false, true, false, false, false, false, false, true, false, false, false] rfl rfl (by kernel_rfl) (fun _ _ _ h => h) (Or.inl ⟨by rfl, ?_⟩) ?_ ?_
        rotate_left
        · intro w'
          go_simp
          with_reducible rfl
        rotate_left
        · simp only [Act.put, List.setIfInBounds_toArray, List.set_cons_zero, List.set_cons_succ]
          rfl
        refine pure_ (i := 4) (N := some 38) (v := ?_) (a' := ?_) #[true, true, true, true, true, false, true, false, false, false, false, false, true, false, false, false] rfl rfl (by kernel_rfl) (fun _ _ _ h => h) (Or.inl ⟨by rfl, ?_⟩) ?_ ?_
        rotate_left
        · intro w'
          go_simp
          with_reducible rfl
        rotate_left
        · simp only [Act.put, List.setIfInBounds_toArray, List.set_cons_zero, List.set_cons_succ]
          rfl
        refine pure_ (i := 5) (N := some 39) (v := ?_) (a' := ?_) #[true, true, true, true, true, true, true, false, false, false, false, false, true, false, false, false] rfl rfl (by kernel_rfl) (fun _ _ _ h => h) (Or.inl ⟨by rfl, ?_⟩) ?_ ?_
        rotate_left
        · intro w'
          go_simp
          with_reducible rfl
        rotate_left
        · simp only [Act.put, List.setIfInBounds_toArray, List.set_cons_zero, List.set_cons_succ]
          rfl
        refine take_ (i := 7) (N := some 41) (v := ?_) (a' := ?_) #[true, true, true, true, true, true, true, true, false, false, false, false, true, false, false, false] rfl rfl (by kernel_rfl) (fun _ _ _ h => h) (Or.inl ⟨by rfl, ?_⟩) hHeld ?_ ?_
        rotate_left
        · intro w' s0
          go_simp
          with_reducible rfl
        rotate_left
        · simp only [Act.put, List.setIfInBounds_toArray, List.set_cons_zero, List.set_cons_succ]
          rfl
        refine pure_ (i := 8) (N := some 42) (v := ?_) (a' := ?_) #[true, true, true, true, true, true, true, true, true, false, false, false, true, false, false, false] rfl rfl (by kernel_rfl) (fun _ _ _ h => h) (Or.inl ⟨by rfl, ?_⟩) ?_ ?_
        rotate_left
        · intro w'
          go_simp
          with_reducible rfl
        rotate_left
        · simp only [Act.put, List.setIfInBounds_toArray, List.set_cons_zero, List.set_cons_succ]
          rfl
        refine pure_ (i := 9) (N := some 43) (v := ?_) (a' := ?_) #[true, true, true, true, true, true, true, true, true, true, false, false, true, false, false, false] rfl rfl (by kernel_rfl) (fun _ _ _ h => h) (Or.inl ⟨by rfl, ?_⟩) ?_ ?_
        rotate_left
        · intro w'
          go_simp
          with_reducible rfl
        rotate_left
        · simp only [Act.put, List.setIfInBounds_toArray, List.set_cons_zero, List.set_cons_succ]
          rfl
        refine take_ (i := 13) (N := some 47) (v := ?_) (a' := ?_) #[true, true, true, true, true, true, true, true, true, true, false, false, true, true, false, false] rfl rfl (by kernel_rfl) (fun _ _ _ h => h) (Or.inl ⟨by rfl, ?_⟩) hHeld ?_ ?_
        rotate_left
        · intro w' s0
          go_simp
          with_reducible rfl
        rotate_left
        · simp only [Act.put, List.setIfInBounds_toArray, List.set_cons_zero, List.set_cons_succ]
          rfl
        refine one_ (i := 10) (N := some 44) #[true, true, true, true, true, true, true, true, true, true, true, false, true, true, false, false] rfl rfl (by kernel_rfl) (by decide) (fun K hK => ?_)
        refine value_ (w1 := ?_) (v := ?_) (by rfl) rfl ?_ ?_
        rotate_left 2
        · go_simp
          constructor
          · rfl
          · rfl
        refine hK.out _ _ ((blk_cell (blk_alloc BX9.out _) 1).trans rfl) (fun hHeld => ?_)
        clear hK K
        refine norm_ (a' := ?_) ?_ ?_
        rotate_left
        · show Act.put _ (some 44) _ = _
          simp only [Act.put, List.setIfInBounds_toArray, List.set_cons_zero, List.set_cons_succ]
          rfl
        refine one_ (i := 11) (N := some 45) #[true, true, true, true, true, true, true, true, true, true, true, true, true, true, false, false] rfl rfl (by kernel_rfl) (by decide) (fun K hK => ?_)
        refine step_append_run rfl _ _ _ _ rfl _ _ rfl rfl hr11 ?_
        refine hK.out _ _ ((blk_cell BX11.out 1).trans rfl) (fun hHeld => ?_)
        clear hK K
        refine norm_ (a' := ?_) ?_ ?_
        rotate_left
        · show Act.put _ (some 45) _ = _
          simp only [Act.put, List.setIfInBounds_toArray, List.set_cons_zero, List.set_cons_succ]
          rfl
        refine last_ (i := 14) (N := some 48) #[true, true, true, true, true, true, true, true, true, true, true, true, true, true, true, false] rfl rfl (by kernel_rfl) (by decide) (fun K hK => ?_)
        refine step_append_run rfl _ _ _ _ rfl _ _ rfl rfl hr12 ?_
        refine hK.out _ _ ?_
        clear hK K
        refine norm_ (a' := ?_) ?_ ?_
        rotate_left
        · show Act.put _ (some 48) _ = _
          simp only [Act.put, List.setIfInBounds_toArray, List.set_cons_zero, List.set_cons_succ]
          rfl
        refine pure_ (i := 15) (N := some 3) (v := ?_) (a' := ?_) #[true, true, true, true, true, true, true, true, true, true, true, true, true, true, true, true] rfl rfl (by kernel_rfl) (fun _ _ _ h => h) (Or.inl ⟨by rfl, ?_⟩) ?_ ?_
        rotate_left
        · intro w'
          go_simp
          with_reducible rfl
        rotate_left
        · simp only [Act.put, List.setIfInBounds_toArray, List.set_cons_zero, List.set_cons_succ]
          rfl
        refine done_ (by kernel_rfl) ?_

        have hwi : IntKind.i64.wrap ((i : Int) + 1) = ((i + 1 : Nat) : Int) := by rw [IntWalk.i64_in _ (by omega)]; rfl
        go_wp2_with fail
        go_roundw
        case rel =>
          refine ⟨i + 1, rfl, hin, ?_, HW12⟩
          have h12 := HU12.out
          rw [HBS.out] at h12
          rw [encL_take HX.out]
          simp only [encI, if_pos trivial, List.append_assoc, List.cons_append, List.nil_append] at h12 ⊢
          exact Lib.hid h12
        case measure => simp only [intOf] at *; omega
      · have e1 : decide ((i : Int) < (ln : Int)) = false := decide_eq_false (by omega)
        obtain rfl : ln = i := by omega
        have htk : items.take ln = items := List.take_of_length_le (by rw [HL.out]; exact Nat.le_refl _)
        rw [htk] at HBi
        have hcv := HBi.out.text (by simp)
        go_wp2_with fail
        go_ret
        refine ⟨?_, HB1.out.trans (HWi.out.mono (by rw [HBB.out]; exact HB1.out.size))⟩
        rw [HR.out]
        show _ = Ending.returned (.string ⟨([76, UInt8.ofNat (items.length % 256)] ++ encL true items).toArray⟩)
        rw [← HL.out]
        try rfl
    --DEV}
#print axioms encode_calls
end Go.Proofs.YtkmbkgjfhjjicaaT
