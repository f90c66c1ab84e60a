/- knots.Sort walked. -/
import Derived.Test.YtgbeigippahbaaaKI
import Derived.Test.YtgbeigippahbaaaKS
import Derived.Deep.CutBlock
import Derived.Deep.DeepCutAuto
namespace Go.Proofs.YtgbeigippahbaaaK
open Go.RowKit Go.Proofs Go.Proofs.YtgbeigippahbaaaW.PrintWords Go.Proofs.YtgbeigippahbaaaW.PrintLast

theorem infoBool' : (Try.prog.info? 4).map (fun i => (i.zero, i.size, i.bytes)) = some (some (.bool false), 1, 1) := by kernel_rfl
theorem cells_zero' (z : Value) (hz : z.cells = #[z]) (n : Nat) : madeCells z.cells (n * 1) = ((List.range n).map (fun _ => z)).toArray := by
  rw [hz]
  apply Array.ext
  · rw [size_madeCells]; simp
  · intro k hk hk'
    simp [madeCells, Nat.mod_one]
theorem make_ints' (n : Nat) (hn : n ≤ 100000) (W : World) : (Instr.makeSlice 24 (.int .i64 (n : Int)) (.int .i64 (n : Int))).run Try.prog W = .ok (.slice (some ⟨W.heap.size, 0, none⟩) n n) (W.alloc (.cells (numsC n fun _ => 0).toArray 3)) := by
  obtain ⟨i, hi, hi'⟩ := Option.map_eq_some_iff.1 infoInt
  injection hi' with hz hi'
  injection hi' with hs hb
  have hmk := run_make (P := Try.prog) W 24 3 i _ Try.underlying24 hi hz .i64 .i64 (n : Int) (n : Int) (by omega) (Int.le_refl _) (by rw [hb]; omega) (by omega)
  rw [hs, Int.toNat_natCast, cells_zero' _ rfl] at hmk
  exact hmk
theorem slice_none (W : World) : (Instr.buildSlice 36 0 #[]).run Try.prog W = .ok (.slice (some ⟨W.heap.size, 0, none⟩) 0 0) (W.alloc (.cells #[] 3)) := by
  obtain ⟨i0, hi, hz⟩ := Option.map_eq_some_iff.1 infoInt
  injection hz with hz0 hz
  injection hz with hz1 hz2
  simp [Instr.buildSlice, run_underlying Try.underlying36, sizeOf, typeInfo, hi, newRow, Instr.fill]
  refine congrArg (fun x => W.alloc (Obj.cells x 3)) ?_
  apply Array.ext <;> simp
theorem sumR_le {f : Nat → Nat} {c : Nat} : ∀ {n : Nat}, (∀ j, j < n → f j ≤ c) → sumR f n ≤ n * c
  | 0, _ => Nat.zero_le _
  | n + 1, h => by
    rw [sumR, Nat.succ_mul]
    exact Nat.add_le_add (sumR_le (fun j hj => h j (by omega))) (h n (by omega))
structure SW (w : World) (B g0 gw R n : Nat) (adj : Nat → List Nat) (wait : Nat → Nat) (vr : Value) (rs : List Nat) (vl : Value) (L : List Nat) : Prop where
  out : OutAt w B g0 n adj
  wait : w.heap[gw]? = some (.cells (numsC n wait).toArray 3 (0, 0))
  heap : RAt w B R vr rs
  lst : w.ownsRow B 3 1 vl L.length (L.map iv)
  gB : B ≤ gw
  gR : gw ≠ R
  rg : vr.ownBlock ≠ some gw
  lg : vl.ownBlock ≠ some gw
  lR : vl.ownBlock ≠ some R
  lr : ∀ k, vl.ownBlock = some k → vr.ownBlock ≠ some k
section
variable {w w' : World} {B g0 gw R n : Nat} {adj : Nat → List Nat} {wait : Nat → Nat} {vr vr' vl : Value} {rs rs' L : List Nat}
theorem SW.setWait (h : SW w B g0 gw R n adj wait vr rs vl L) (v x : Nat) : SW (w.setCell ⟨gw, v, none⟩ (iv x)) B g0 gw R n adj (upd wait v x) vr rs vl L := by
  have hk : Keep w (w.setCell ⟨gw, v, none⟩ (iv x)) (fun k => k ≠ gw) := Keep.setCell _ _ _ (fun h => h rfl)
  have hgB := h.gB
  refine ⟨h.out.keep hk (fun k hk => by omega), by rw [heap_set h.wait, numsC_upd], ⟨hk.heap h.heap.cell (Ne.symm h.gR), own_keep h.heap.own (fun k e => hk.block k (own_lt' h.heap.own e) (fun e2 => h.rg (by rw [e, e2]))), h.heap.ne, h.heap.base⟩, own_keep h.lst (fun k e => hk.block k (own_lt' h.lst e) (fun e2 => h.lg (by rw [e, e2]))), h.gB, h.gR, h.rg, h.lg, h.lR, h.lr⟩
theorem SW.heapStep (h : SW w B g0 gw R n adj wait vr rs vl L) (hr : RAt w' B R vr' rs') (hs : RStep w w' R vr vr') : SW w' B g0 gw R n adj wait vr' rs' vl L := by
  have hRB := h.heap.base
  have hgw := (Array.getElem?_eq_some_iff.1 h.wait).1
  refine ⟨h.out.keep hs.keep (fun k hk => ⟨by omega, fun e => by have := own_base h.heap.own k e; omega⟩), hs.keep.heap h.wait ⟨h.gR, h.rg⟩, hr, own_keep h.lst (fun k e => hs.keep.block k (own_lt' h.lst e) ⟨fun e2 => h.lR (by rw [e, e2]), h.lr k e⟩), h.gB, h.gR, ?_, h.lg, h.lR, ?_⟩
  · rcases hs.place with hp | ⟨j, hj, hle⟩
    · rw [hp]; exact h.rg
    · rw [hj]
      intro e
      injection e with e
      omega
  · intro k hk
    rcases hs.place with hp | ⟨j, hj, hle⟩
    · rw [hp]; exact h.lr k hk
    · rw [hj]
      intro e
      injection e with e
      have := own_lt' h.lst hk
      omega
theorem SW.appendL (h : SW w B g0 gw R n adj wait vr rs vl L) {m : Nat} {vl' : Value} (hown : w'.ownsRow B 3 1 vl' (L.length + 1) (L.map iv ++ [iv m])) (hg : w.grownBy w' vl.ownBlock) (hat : vl'.ownBlock = vl.ownBlock ∨ ∃ k, vl'.ownBlock = some k ∧ w.heap.size ≤ k) : SW w' B g0 gw R n adj wait vr rs vl' (L ++ [m]) := by
  have hk := Keep.of_grown hg
  have hgw := (Array.getElem?_eq_some_iff.1 h.wait).1
  have hR := (Array.getElem?_eq_some_iff.1 h.heap.cell).1
  refine ⟨h.out.keep hk (fun k hk e => by have := own_base h.lst k e; omega), hk.heap h.wait h.lg, ⟨hk.heap h.heap.cell h.lR, own_keep h.heap.own (fun k e => hk.block k (own_lt' h.heap.own e) (fun e2 => h.lr k e2 e)), h.heap.ne, h.heap.base⟩, ?_, h.gB, h.gR, h.rg, ?_, ?_, ?_⟩
  · rw [List.map_append, List.length_append]
    exact hown
  · rcases hat with hp | ⟨j, hj, hle⟩
    · rw [hp]; exact h.lg
    · rw [hj]; intro e; injection e with e; omega
  · rcases hat with hp | ⟨j, hj, hle⟩
    · rw [hp]; exact h.lR
    · rw [hj]; intro e; injection e with e; omega
  · intro k hk'
    rcases hat with hp | ⟨j, hj, hle⟩
    · exact h.lr k (hp ▸ hk')
    · rw [hj] at hk'
      injection hk' with hk'
      intro e
      have := own_lt' h.heap.own e
      omega
theorem SW.below {w0 : World} (h : SW w B g0 gw R n adj wait vr rs vl L) (hs : RStep w w' R vr vr') (hb : Below w0.heap.size w0 w) (hB : w0.heap.size ≤ B) : Below w0.heap.size w0 w' :=
  hb.trans (hs.keep.below hb.size (fun k hk => ⟨by have := h.heap.base; omega, fun e => by have := own_base h.heap.own k e; omega⟩))
theorem SW.form (h : SW w B g0 gw R n adj wait vr rs vl L) : ∃ A c, vr = .slice A rs.length c := by
  rcases h.heap.own.2 with ⟨e, h0⟩ | ⟨g', cap', cur, e, _⟩
  · exact ⟨_, _, by rw [e, h0]⟩
  · exact ⟨_, _, e⟩
end
def SortEnd (w : World) (n : Nat) (es : List Edge) (e : Ending) (w' : World) : Prop :=
  Below w.heap.size w w' ∧ ∃ A c L ok, e = .returned (.tuple #[.slice A L.length c, .bool ok]) ∧ SortR (adjE n es) n L ok ∧ ∀ k, k < L.length → ∃ g, A = some ⟨g, 0, none⟩ ∧ w'.cell? ⟨g, k, none⟩ = some (.int .i64 (L.getD k 0 : Int))
set_option maxRecDepth 100000 in
set_option maxHeartbeats 4000000 in
theorem sort_calls {w : World} {A : Option Addr} {c : Nat} (n : Nat) (es : List Edge) (hE : EdgesAt w A es) (hn : 1 ≤ n) (hn' : n ≤ 100000) (he : es.length ≤ 1000000) :
    Calls Try.prog 8 #[.int .i64 (n : Int), .slice A es.length c] w (SortEnd w n es) := by
  have d0 : decide ((n : Int) < 1) = false := decide_eq_false (by omega)
  have HE := Lib.hid hE
  have hmk := make_ints' n hn'
  have hsn := slice_none
  clear hE
  go_enter Try.func8, Try.ntmps8
  go_wp2_with (first | (go_at_call 14; refine (next_calls n es HE.out hn hn' he).mono ?_; rintro e w1 ⟨g0, rfl, ho, hb⟩; have HO1 := Lib.hid ho; have HB1 := Lib.hid hb; clear ho hb))
  obtain ⟨adj, hadj⟩ : ∃ adj, adj = adjE n es := ⟨_, rfl⟩
  have HADJ := Lib.hid hadj
  have AL := Lib.hid (show ∀ v u, u ∈ adj v → u < n from fun v u hu => by rw [hadj] at hu; exact adjE_lt hu)
  have ALEN := Lib.hid (show ∀ v, (adj v).length ≤ 1000000 from fun v => by rw [hadj]; exact Nat.le_trans (adjE_len n es v) he)
  obtain ⟨gw, hgw⟩ : ∃ gw, gw = w1.heap.size := ⟨_, rfl⟩
  have P0 := Lib.hid (show OutAt (w1.alloc (.cells (numsC n fun _ => 0).toArray 3)) w1.heap.size g0 n adj ∧ (w1.alloc (.cells (numsC n fun _ => 0).toArray 3)).heap[gw]? = some (.cells (numsC n fun v => sumR (fun u => (adj u).count v) 0).toArray 3 (0, 0)) from by
    have hk : Keep w1 (w1.alloc (.cells (numsC n fun _ => 0).toArray 3)) (fun k => k < w1.heap.size) := Keep.of_below (below_alloc (Below.refl _ _) _) (Nat.le_refl _)
    refine ⟨by rw [hadj]; exact HO1.out.keep hk (fun k hlt => hlt), ?_⟩
    rw [hgw]
    exact heap_alloc_last w1 _)
  have BE0 := Lib.hid (show Below w.heap.size w (w1.alloc (.cells (numsC n fun _ => 0).toArray 3)) from below_alloc HB1.out _)
  have HLT := Lib.hid (show w.heap.size ≤ w1.heap.size from HB1.out.size)
  have GW := Lib.hid (show w1.heap.size ≤ gw by omega)
  rw [← hgw]
  clear hgw hadj HO1 HB1 hmk
  go_loopw [27] (fun a wr => ∃ i : Nat, a = .int .i64 (i : Int) ∧ i ≤ n ∧ Hid (OutAt wr w1.heap.size g0 n adj ∧ wr.heap[gw]? = some (.cells (numsC n fun v => sumR (fun u => (adj u).count v) i).toArray 3 (0, 0))) ∧ Hid (Below w.heap.size w wr)) (fun a _ => n - (intOf a).toNat)
  case atStart => exact ⟨0, rfl, by omega, P0, BE0⟩
  case round =>
    clear P0 BE0
    obtain ⟨i, rfl, hi, P1, B1⟩ := hrel
    by_cases hin : i < n
    · have di : decide ((i : Int) < (n : Int)) = true := decide_eq_true (by omega)
      have hwi : IntKind.i64.wrap ((i : Int) + 1) = ((i + 1 : Nat) : Int) := by rw [IntWalk.i64_in _ (by omega)]; rfl
      obtain ⟨Ai, ci, hrow, hcap, hel⟩ := P1.out.1.row i hin
      obtain ⟨ln, hln⟩ : ∃ ln, ln = (adj i).length := ⟨_, rfl⟩
      rw [← hln] at hrow hcap hel
      have hlnb : ln ≤ 1000000 := by rw [hln]; exact ALEN.out i
      have HLN := Lib.hid hln
      have HEL := Lib.hid hel
      clear hln hel
      go_wp2_with fail
      clear hrow
      obtain ⟨wo, hwo⟩ : ∃ wo, wo = wr := ⟨_, rfl⟩
      rw [← hwo] at P1 B1 HEL ⊢
      clear hwo
      go_loopw [33] (fun a wr => ∃ j : Nat, a = .int .i64 (j : Int) ∧ j ≤ ln ∧ Hid (wr.heap[gw]? = some (.cells (numsC n fun v => sumR (fun u => (adj u).count v) i + ((adj i).take j).count v).toArray 3 (0, 0))) ∧ Hid (Below w1.heap.size wo wr)) (fun a _ => ln - (intOf a).toNat)
      case atStart => exact ⟨0, rfl, by omega, Lib.hid (by simpa using P1.out.2), Lib.hid (Below.refl _ _)⟩
      case round =>
        obtain ⟨j, rfl, hj, P2, B2⟩ := hrel
        by_cases hjl : j < ln
        · have dj : decide ((j : Int) < (ln : Int)) = true := decide_eq_true (by omega)
          have hwj : IntKind.i64.wrap ((j : Int) + 1) = ((j + 1 : Nat) : Int) := by rw [IntWalk.i64_in _ (by omega)]; rfl
          obtain ⟨ga, rfl, hgaN, hcu⟩ := HEL.out j hjl
          obtain ⟨u, hu⟩ : ∃ u, u = (adj i).getD j 0 := ⟨_, rfl⟩
          have hun : u < n := by rw [hu]; exact AL.out i _ (getD_mem (by rw [← HLN.out]; exact hjl))
          have cu : wr.cell? ⟨ga, j, none⟩ = some (.int .i64 (u : Int)) := by rw [B2.out.cell (p := ⟨ga, j, none⟩) hgaN, hu]; exact hcu
          obtain ⟨x, hx⟩ : ∃ x, x = sumR (fun q => (adj q).count u) i + ((adj i).take j).count u := ⟨_, rfl⟩
          have cx : wr.cell? ⟨gw, u, none⟩ = some (.int .i64 (x : Int)) := by rw [hx]; exact numsC_at P2.out hun
          have fx : wr.frozen? ⟨gw, u, none⟩ = false := frozen_at P2.out
          have hxb : x ≤ 100000 * 1000000 + 1000000 := by
            have h1 := sumR_le (f := fun q => (adj q).count u) (n := i) (c := 1000000) (fun q _ => Nat.le_trans List.count_le_length (ALEN.out q))
            have h2 := count_take_le (l := adj i) (v := u) j
            have h3 := ALEN.out i
            have h4 : i * 1000000 ≤ 100000 * 1000000 := Nat.mul_le_mul_right _ (by omega)
            omega
          obtain ⟨x1, hx1⟩ : ∃ x1, x1 = x + 1 := ⟨_, rfl⟩
          have hwx : IntKind.i64.wrap ((x : Int) + 1) = (x1 : Int) := by rw [IntWalk.i64_in _ (by omega)]; omega
          have P3 := Lib.hid (show (wr.setCell ⟨gw, u, none⟩ (.int .i64 (x1 : Int))).heap[gw]? = some (.cells (numsC n fun v => sumR (fun q => (adj q).count v) i + ((adj i).take (j + 1)).count v).toArray 3 (0, 0)) from by
            rw [heap_set P2.out]
            have := numsC_upd n (fun v => sumR (fun q => (adj q).count v) i + ((adj i).take j).count v) u x1
            rw [this]
            refine congrArg (fun f => some (Obj.cells (numsC n f).toArray 3 (0, 0))) (funext fun v => ?_)
            have et : (adj i).take (j + 1) = (adj i).take j ++ [u] := by rw [List.take_add_one, hu, List.getD_eq_getElem?_getD, List.getElem?_eq_getElem (show j < (adj i).length by rw [← HLN.out]; exact hjl)]; rfl
            rw [et, List.count_append]
            show (if v = u then x1 else _) = _
            by_cases e : v = u
            · rw [if_pos e, e, List.count_singleton_self, hx1, hx]
              omega
            · rw [if_neg e, List.count_singleton, if_neg (by simpa using Ne.symm e)]
              show sumR _ i + List.count v ((adj i).take j) = _
              omega)
          have B3 := Lib.hid (show Below w1.heap.size wo (wr.setCell ⟨gw, u, none⟩ (.int .i64 (x1 : Int))) from B2.out.trans ((Keep.setCell (ok := fun k => k ≠ gw) wr _ _ (fun h => h rfl)).below (Nat.le_trans GW.out (Nat.le_of_lt (Array.getElem?_eq_some_iff.1 P2.out).1)) (fun k hk => by have := GW.out; omega)))
          clear hu hcu hx hx1 P2 B2
          go_wp2_with fail
          go_roundw
          case rel => exact ⟨j + 1, (by first | trivial | go_num), by omega, P3, B3⟩
          case measure => simp [intOf]; omega
        · have dj : decide ((j : Int) < (ln : Int)) = false := decide_eq_false (by omega)
          have P3 := Lib.hid (show OutAt wr w1.heap.size g0 n adj ∧ wr.heap[gw]? = some (.cells (numsC n fun v => sumR (fun u => (adj u).count v) (i + 1)).toArray 3 (0, 0)) from by
            refine ⟨P1.out.1.below B2.out, ?_⟩
            have := P2.out
            rw [show j = (adj i).length by rw [← HLN.out]; omega, List.take_length] at this
            exact this)
          have B3 := Lib.hid (show Below w.heap.size w wr from B1.out.trans (B2.out.mono HLT.out))
          clear P1 P2 B1 B2 HEL
          go_wp2_with fail
          go_roundw
          case rel => exact ⟨i + 1, (by first | trivial | go_num), by omega, P3, B3⟩
          case measure => simp [intOf]; omega
    · have di : decide ((i : Int) < (n : Int)) = false := decide_eq_false (by omega)
      obtain rfl : n = i := by omega
      go_wp2_with fail
      obtain ⟨wq, hwq⟩ : ∃ wq, wq = ((wr.alloc (.cells #[] 3)).alloc (.cells #[.slice (some ⟨wr.heap.size, 0, none⟩) 0 0] 36)) := ⟨_, rfl⟩
      obtain ⟨R, hR⟩ : ∃ R, R = wr.heap.size + 1 := ⟨_, rfl⟩
      obtain ⟨wait, hwait⟩ : ∃ wait : Nat → Nat, wait = fun v => sumR (fun u => (adj u).count v) n := ⟨_, rfl⟩
      have hgwl := (Array.getElem?_eq_some_iff.1 P1.out.2).1
      have sw0 : SW wq w1.heap.size g0 gw R n adj wait (.slice (some ⟨wr.heap.size, 0, none⟩) 0 0) [] (.slice none 0 0) [] := by
        have e1 : (wr.alloc (.cells #[] 3)).heap.size = wr.heap.size + 1 := by simp only [World.alloc, Array.size_push]
        have hb : Below wr.heap.size wr wq := by rw [hwq]; exact below_alloc (below_alloc (Below.refl _ _) _) _
        have hk : Keep wr wq (fun k => k < wr.heap.size) := Keep.of_below hb (Nat.le_refl _)
        have hsz : w1.heap.size ≤ wr.heap.size := Nat.le_trans GW.out (Nat.le_of_lt hgwl)
        have hlit := World.ownsRow_lit (base := w1.heap.size) (e := 3) (size := 1) wr #[] 0 hsz (by decide) rfl
        refine ⟨P1.out.1.keep hk (fun k hk => Nat.lt_of_lt_of_le hk hsz), by rw [hwait]; exact hk.heap P1.out.2 hgwl, ⟨?_, ?_, ?_, by omega⟩, World.ownsRow_nil _ _ _ _, GW.out, by omega, ?_, fun e => (by cases e), fun e => (by cases e), fun k e => (by cases e)⟩
        · rw [hwq, hR, ← e1]
          exact heap_alloc_last _ _
        · rw [hwq]
          exact own_keep hlit (fun k hk => Below.heap_alloc _ _ _ (by have hk' : wr.heap.size = k := (by simpa [Value.ownBlock] using hk); omega))
        · intro e
          have e' : wr.heap.size = R := by simpa [Value.ownBlock] using e
          omega
        · intro e
          have e' : wr.heap.size = gw := by simpa [Value.ownBlock] using e
          omega
      have BQ := Lib.hid (show Below w.heap.size w wq by rw [hwq]; exact below_alloc (below_alloc B1.out _) _)
      have SW0 := Lib.hid sw0
      have HWAIT := Lib.hid hwait
      rw [← hwq, ← hR]
      clear hwq hR hgwl sw0 P1 B1 hwait hsn
      go_loopw [48] (fun a wr => ∃ (v : Nat) (rs : List Nat) (vr : Value), a = .int .i64 (v : Int) ∧ v ≤ n ∧ Hid (SW wr w1.heap.size g0 gw R n adj wait vr rs (.slice none 0 0) []) ∧ Hid (Hp (at0 rs) rs.length ∧ rs.Nodup ∧ ∀ u, u ∈ rs ↔ u < v ∧ wait u = 0) ∧ Hid (Below w.heap.size w wr)) (fun a _ => n - (intOf a).toNat)
      case atStart => exact ⟨0, [], _, rfl, by omega, SW0, Lib.hid ⟨(fun k _ h => (by cases h)), List.nodup_nil, fun u => by simp⟩, BQ⟩
      case round =>
        clear SW0 BQ
        obtain ⟨v, rs, vr, rfl, hv, S1, I1, B1⟩ := hrel
        by_cases hvn : v < n
        · have dv : decide ((v : Int) < (n : Int)) = true := decide_eq_true (by omega)
          have hwv : IntKind.i64.wrap ((v : Int) + 1) = ((v + 1 : Nat) : Int) := by rw [IntWalk.i64_in _ (by omega)]; rfl
          have hrl : rs.length ≤ 1000000 := by
            have := nodup_len (n := n) I1.out.2.1 (fun u hu => by have := ((I1.out.2.2 u).1 hu).1; omega)
            omega
          by_cases hz : wait v = 0
          · have cz : wr.cell? ⟨gw, v, none⟩ = some (.int .i64 0) := by have := numsC_at S1.out.wait hvn; rw [hz] at this; exact this
            have HRL := Lib.hid hrl
            have HZ := Lib.hid hz
            clear hrl hz
            go_wp2_with (first | (go_at_call 15; refine (hpush_calls (x := v) S1.out.heap I1.out.1 HRL.out).mono ?_; rintro e w3 ⟨rfl, vr', ys, q1, q2, q3, q4⟩; have S2 := Lib.hid (S1.out.heapStep q1 q4); have B2 := Lib.hid (S1.out.below q4 B1.out HLT.out); have Q2 := Lib.hid q2; have Q3 := Lib.hid q3; clear q1 q2 q3 q4))
            go_roundw
            case rel =>
              refine ⟨v + 1, ys, vr', (by first | trivial | go_num), by omega, S2, Lib.hid ⟨Q3.out, ?_, fun u => ?_⟩, B2⟩
              · rw [Q2.out.nodup_iff]
                refine List.nodup_append.2 ⟨I1.out.2.1, by simp, fun a ha b hb => ?_⟩
                rw [List.mem_singleton.1 hb]
                have := ((I1.out.2.2 a).1 ha).1
                omega
              · rw [Q2.out.mem_iff, List.mem_append, List.mem_singleton, I1.out.2.2]
                constructor
                · rintro (⟨h1, h2⟩ | rfl)
                  · exact ⟨by omega, h2⟩
                  · exact ⟨by omega, HZ.out⟩
                · rintro ⟨h1, h2⟩
                  by_cases e : u = v
                  · exact .inr e
                  · exact .inl ⟨by omega, h2⟩
            case measure => simp [intOf]; omega
          · obtain ⟨x, hx⟩ : ∃ x, x = wait v := ⟨_, rfl⟩
            have cz : wr.cell? ⟨gw, v, none⟩ = some (.int .i64 (x : Int)) := by rw [hx]; exact numsC_at S1.out.wait hvn
            have dx : decide ((x : Int) = 0) = false := decide_eq_false (by omega)
            have x0 : ¬ (x : Int) = 0 := by omega
            have HZ := Lib.hid hz
            clear hrl hz hx
            go_wp2_with fail
            go_roundw
            case rel =>
              refine ⟨v + 1, rs, vr, (by first | trivial | go_num), by omega, S1, Lib.hid ⟨I1.out.1, I1.out.2.1, fun u => ?_⟩, B1⟩
              rw [I1.out.2.2]
              constructor
              · rintro ⟨h1, h2⟩; exact ⟨by omega, h2⟩
              · rintro ⟨h1, h2⟩
                refine ⟨?_, h2⟩
                rcases Nat.lt_succ_iff_lt_or_eq.1 h1 with h | rfl
                · exact h
                · exact absurd h2 HZ.out
            case measure => simp [intOf]; omega
        · have dv : decide ((v : Int) < (n : Int)) = false := decide_eq_false (by omega)
          obtain rfl : n = v := by omega
          have K1 := Lib.hid (show KI adj n [] rs wait from KI.start (fun v _ => by rw [HWAIT.out]) I1.out.2.1 I1.out.2.2)
          have HP1 := Lib.hid I1.out.1
          clear I1 HWAIT
          go_wp2_with fail
          go_loopg [14] n (fun kq vl wr => ∃ (L rs : List Nat) (wait : Nat → Nat) (vr : Value), Aside0 (kq = n - L.length) ∧ Hid (SW wr w1.heap.size g0 gw R n adj wait vr rs vl L) ∧ Hid (KI adj n L rs wait) ∧ Hid (Hp (at0 rs) rs.length) ∧ Hid (Below w.heap.size w wr))
          case atStart => exact ⟨[], rs, wait, vr, ⟨rfl⟩, S1, K1, HP1, B1⟩
          case round =>
            clear S1 K1 HP1 B1
            obtain ⟨L, rs, wait, vr, GK, S1, K1, HP1, B1⟩ := hrel
            obtain ⟨Ar, cr, rfl⟩ := S1.out.form
            obtain ⟨m0, hm0⟩ : ∃ m0, m0 = rs.length := ⟨_, rfl⟩
            have cR := load_ready S1.out.heap.cell
            rw [← hm0] at cR
            have hm0b : m0 ≤ 100000 := by have := K1.out.rs_len; omega
            have hm0c : m0 ≤ 9223372036854775807 := by omega
            have HM0 := Lib.hid hm0
            clear hm0
            by_cases h0 : m0 = 0
            · subst h0
              have h0 : rs = [] := List.length_eq_zero_iff.1 HM0.out.symm
              obtain ⟨Al, cl, hvl⟩ : ∃ A c, u14 = .slice A L.length c := by
                rcases S1.out.lst.2 with ⟨e, h1⟩ | ⟨g', cap', cur, e, _⟩
                · exact ⟨_, _, by rw [e, h1]⟩
                · exact ⟨_, _, e⟩
              subst hvl
              subst h0
              obtain ⟨k, hk⟩ : ∃ k, k = L.length := ⟨_, rfl⟩
              have hkn : k ≤ n := by rw [hk]; exact K1.out.g.len
              have HK := Lib.hid hk
              have HT := Lib.hid K1.out.told
              have HS := Lib.hid (show ∀ k, k < L.length → ∃ g, Al = some ⟨g, 0, none⟩ ∧ wr.cell? ⟨g, k, none⟩ = some (.int .i64 (L.getD k 0 : Int)) from fun k hk => by
                obtain ⟨g, c, hv, _⟩ := S1.out.lst.form (by omega)
                injection hv with hv
                refine ⟨g, hv, ?_⟩
                have := S1.out.lst
                rw [hv] at this
                exact own_at this hk rfl)
              rw [← hk]
              have hm0d : (0 : Nat) ≤ 9223372036854775807 := by omega
              clear hk S1 K1 HP1 hm0b hm0c
              by_cases hkl : k < n
              · have dk : decide ((k : Int) < (n : Int)) = true := decide_eq_true (by omega)
                go_wp2_with (first | (go_at_call 16; refine (len_calls hm0d).mono ?_; rintro e w2 ⟨rfl, rfl⟩))
                go_ret2
                refine ⟨B1.out, none, 0, [], false, rfl, ?_, fun k h => by cases h⟩
                rw [← HADJ.out]
                have := HT.out
                rw [← HK.out, if_neg (by omega), decide_eq_false (by omega)] at this
                exact this
              · have dk : decide ((k : Int) < (n : Int)) = false := decide_eq_false (by omega)
                go_wp2_with (first | (go_at_call 16; refine (len_calls hm0d).mono ?_; rintro e w2 ⟨rfl, rfl⟩))
                go_ret2
                refine ⟨B1.out, Al, cl, L, true, by rw [HK.out]; rfl, ?_, HS.out⟩
                rw [← HADJ.out]
                have := HT.out
                rw [← HK.out, if_pos (by omega), decide_eq_true (by omega)] at this
                exact this
            · have hpos : 0 < m0 := by omega
              have dpos : decide ((m0 : Int) > 0) = true := decide_eq_true (by omega)
              have hLn : L.length ≤ n := K1.out.g.len
              go_wp2_with (first | (go_at_call 16; refine (len_calls hm0c).mono ?_; rintro e w2 ⟨rfl, rfl⟩) | (go_at_call 17; refine (hpop_calls S1.out.heap HP1.out (by rw [← HM0.out]; exact hpos) (by rw [← HM0.out]; omega)).mono ?_; rintro e w3 ⟨m, rfl, v', ys, q1, q2, q3, q4, q5⟩; have S2 := Lib.hid (S1.out.heapStep q1 q5); have B2 := Lib.hid (S1.out.below q5 B1.out HLT.out); have J2 := Lib.hid (K1.out.pop q2 q3); have Q4 := Lib.hid q4; have ta := assert_int m; have SZ2 := Lib.hid (Nat.le_trans S2.out.gB (Nat.le_of_lt (Array.getElem?_eq_some_iff.1 S2.out.wait).1)); clear q1 q2 q3 q4 q5) | ((with_reducible refine gate_dst (N := 74) rfl ?_); refine print_append_cells (w0 := w3) (W := w3) w1.heap.size rfl (.tmp 71) (.tmp 73) 24 3 _ 1 8 rfl Try.underlying24 infoInt rfl (by decide) (by decide) u14 L.length (L.map iv) [iv m] rfl rfl rfl (by simp [Value.oneCell']) S2.out.lst (Below.refl _ _) SZ2.out (by omega) ?_; intro v1 w4 hown hbe hg hat; have S3 := Lib.hid (S2.out.appendL hown hg hat); have B3 := Lib.hid (bgrown B2.out hg (fun k e => Nat.le_trans HLT.out (own_base S2.out.lst k e))); clear hown hbe hg hat; have hmn := J2.out.mn; obtain ⟨Am, cm, hrow, hcap, hel⟩ := S3.out.out.row m hmn; obtain ⟨ln, hln⟩ : ∃ ln, ln = (adj m).length := ⟨_, rfl⟩; rw [← hln] at hrow hcap hel; have hlnb : ln ≤ 1000000 := (by rw [hln]; exact ALEN.out m); have HLN := Lib.hid hln; have HEL := Lib.hid hel; clear hln hel))
              clear hrow
              have E3 := Lib.hid (show KJ adj n L m ((adj m).drop 0) ys wait from J2.out)
              have BW := Lib.hid (Below.refl w1.heap.size w4)
              clear J2 cR dpos hpos h0
              go_loopw [80] (fun a wr => ∃ (j : Nat) (rs : List Nat) (wait : Nat → Nat) (vr : Value), a = .int .i64 (j : Int) ∧ j ≤ ln ∧ Hid (SW wr w1.heap.size g0 gw R n adj wait vr rs v1 (L ++ [m])) ∧ Hid (KJ adj n L m ((adj m).drop j) rs wait) ∧ Hid (Hp (at0 rs) rs.length) ∧ Hid (Below w1.heap.size w4 wr)) (fun a _ => ln - (intOf a).toNat)
              case atStart => exact ⟨0, ys, wait, v', rfl, by omega, S3, E3, Q4, BW⟩
              case round =>
                clear S3 E3 Q4 BW S2 B2 S1 K1 HP1 B1
                obtain ⟨j, rs, wait, vr, rfl, hj, S4, J4, H4, B4⟩ := hrel
                by_cases hjl : j < ln
                · have dj : decide ((j : Int) < (ln : Int)) = true := decide_eq_true (by omega)
                  have hwj : IntKind.i64.wrap ((j : Int) + 1) = ((j + 1 : Nat) : Int) := by rw [IntWalk.i64_in _ (by omega)]; rfl
                  obtain ⟨ga, rfl, hgaN, hcu⟩ := HEL.out j hjl
                  obtain ⟨u, hu⟩ : ∃ u, u = (adj m).getD j 0 := ⟨_, rfl⟩
                  have hjm : j < (adj m).length := by rw [← HLN.out]; exact hjl
                  have hun : u < n := by rw [hu]; exact AL.out m _ (getD_mem hjm)
                  have cu : wr.cell? ⟨ga, j, none⟩ = some (.int .i64 (u : Int)) := by rw [B4.out.cell (p := ⟨ga, j, none⟩) hgaN, hu]; exact hcu
                  have hdr : (adj m).drop j = u :: (adj m).drop (j + 1) := by
                    rw [List.drop_eq_getElem_cons hjm, hu, List.getD_eq_getElem?_getD, List.getElem?_eq_getElem hjm]
                    rfl
                  have J5 := Lib.hid (show KJ adj n L m (u :: (adj m).drop (j + 1)) rs wait by rw [← hdr]; exact J4.out)
                  obtain ⟨x, hx⟩ : ∃ x, x = wait u := ⟨_, rfl⟩
                  have hx0 : 0 < x := by rw [hx]; exact (J5.out.pos hun).1
                  have cx : wr.cell? ⟨gw, u, none⟩ = some (.int .i64 (x : Int)) := by rw [hx]; exact numsC_at S4.out.wait hun
                  have fx : wr.frozen? ⟨gw, u, none⟩ = false := frozen_at S4.out.wait
                  obtain ⟨x1, hx1⟩ : ∃ x1, x1 = x - 1 := ⟨_, rfl⟩
                  have hxb : x ≤ 100000 * 1000000 + 1000000 := by
                    have h0 := J5.out.w u hun
                    have h1 := sumR_le (f := fun q => if q ∈ L ++ [m] then 0 else (adj q).count u) (n := n) (c := 1000000) (fun q _ => by
                      show (if q ∈ L ++ [m] then 0 else (adj q).count u) ≤ _
                      split
                      · omega
                      · exact Nat.le_trans List.count_le_length (ALEN.out q))
                    have h2 : (u :: (adj m).drop (j + 1)).count u ≤ 1000000 := Nat.le_trans List.count_le_length (by rw [← hdr, List.length_drop]; have := ALEN.out m; omega)
                    have h3 : left adj n (L ++ [m]) u ≤ n * 1000000 := h1
                    have h4 : n * 1000000 ≤ 100000 * 1000000 := Nat.mul_le_mul_right _ (by omega)
                    omega
                  have hwx : IntKind.i64.wrap ((x : Int) - 1) = (x1 : Int) := by rw [IntWalk.i64_in _ (by omega)]; omega
                  have S5 := Lib.hid (show SW (wr.setCell ⟨gw, u, none⟩ (.int .i64 (x1 : Int))) w1.heap.size g0 gw R n adj (upd wait u x1) vr rs v1 (L ++ [m]) from S4.out.setWait u x1)
                  have B5 := Lib.hid (show Below w1.heap.size w4 (wr.setCell ⟨gw, u, none⟩ (.int .i64 (x1 : Int))) from B4.out.trans ((Keep.setCell (ok := fun k => k ≠ gw) wr _ _ (fun h => h rfl)).below (Nat.le_trans GW.out (Nat.le_of_lt (Array.getElem?_eq_some_iff.1 S4.out.wait).1)) (fun k hk => by have := GW.out; omega)))
                  have HX := Lib.hid (show x1 = wait u - 1 by rw [hx1, hx])
                  have hrl : rs.length ≤ 1000000 := by have := J4.out.len.1; omega
                  have HRL := Lib.hid hrl
                  clear hu hcu hdr hx hx0 hx1 hxb hrl S4 J4 B4 hjm
                  by_cases hz : x1 = 0
                  · subst hz
                    go_wp2_with (first | (go_at_call 15; refine (hpush_calls (x := u) S5.out.heap H4.out HRL.out).mono ?_; rintro e w5 ⟨rfl, vr', ys', q1, q2, q3, q4⟩; have S6 := Lib.hid (S5.out.heapStep q1 q4); have B6 := Lib.hid (B5.out.trans (q4.keep.below (Nat.le_trans GW.out (Nat.le_of_lt (Array.getElem?_eq_some_iff.1 S5.out.wait).1)) (fun k hk => ⟨by have := S5.out.heap.base; omega, fun e => by have := own_base S5.out.heap.own k e; omega⟩))); have Q2 := Lib.hid q2; have Q3 := Lib.hid q3; clear q1 q2 q3 q4))
                    go_roundw
                    case rel => exact ⟨j + 1, ys', _, vr', (by first | trivial | go_num), by omega, S6, Lib.hid (by have := J5.out.push hun HX.out.symm Q2.out; rw [← HX.out] at this; exact this), Q3, B6⟩
                    case measure => simp [intOf]; omega
                  · have x0 : ¬ (x1 : Int) = 0 := by omega
                    have dx : decide ((x1 : Int) = 0) = false := decide_eq_false x0
                    have HZ := Lib.hid hz
                    clear hz
                    go_wp2_with fail
                    go_roundw
                    case rel => exact ⟨j + 1, rs, _, vr, (by first | trivial | go_num), by omega, S5, Lib.hid (by have := J5.out.keep hun (by rw [← HX.out]; exact HZ.out); rw [← HX.out] at this; exact this), H4, B5⟩
                    case measure => simp [intOf]; omega
                · have dj : decide ((j : Int) < (ln : Int)) = false := decide_eq_false (by omega)
                  have K5 := Lib.hid (show KI adj n (L ++ [m]) rs wait by
                    have := J4.out
                    rw [List.drop_eq_nil_of_le (by rw [← HLN.out]; omega)] at this
                    exact this.done)
                  have B5 := Lib.hid (show Below w.heap.size w wr from B3.out.trans (B4.out.mono HLT.out))
                  have HLL := Lib.hid J4.out.len.2
                  clear J4 HEL B3 B4
                  go_wp2_with fail
                  go_roundg (n - (L ++ [m]).length)
                  case measure => rw [GK.out, List.length_append, List.length_singleton]; have := HLL.out; omega
                  case rel => exact ⟨L ++ [m], rs, wait, vr, ⟨rfl⟩, S4, K5, H4, B5⟩
#print axioms sort_calls
end Go.Proofs.YtgbeigippahbaaaK
