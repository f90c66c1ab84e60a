/- The document's Sort walked. -/
import Derived.Test.YtgbeigippahbaaaKE
namespace Go.Proofs.YtgbeigippahbaaaK
open Go.RowKit Go.Proofs Go.Proofs.YtgbeigippahbaaaW.PrintWords Go.Proofs.YtgbeigippahbaaaW.PrintLast

/-- Is i held back by one of the first edges? -/
def frE (n : Nat) (es : List Edge) (L : List Nat) (i : Nat) : Nat → Bool
  | 0 => true
  | q + 1 => frE n es L i q && !(okE n (es.getD q (0, 0)) && (decide ((es.getD q (0, 0)).2 = (i : Int)) && !decide ((es.getD q (0, 0)).1.toNat ∈ L)))
theorem frE_iff {n : Nat} {es : List Edge} {L : List Nat} {i : Nat} : ∀ {q : Nat}, frE n es L i q = true ↔ ∀ j, j < q → okE n (es.getD j (0, 0)) = true → (es.getD j (0, 0)).2 = (i : Int) → (es.getD j (0, 0)).1.toNat ∈ L
  | 0 => by simp [frE]
  | q + 1 => by
    rw [frE, Bool.and_eq_true, frE_iff]
    constructor
    · rintro ⟨h1, h2⟩ j hj a b
      by_cases e : j = q
      · subst e
        revert a b h2
        generalize es.getD j (0, 0) = e
        intro a b h2
        rw [a, decide_eq_true b] at h2
        simpa using h2
      · exact h1 j (by omega) a b
    · intro h
      refine ⟨fun j hj => h j (by omega), ?_⟩
      cases a : okE n (es.getD q (0, 0)) with
      | false => rfl
      | true =>
        have hq := h q (by omega) a
        revert hq
        generalize es.getD q (0, 0) = e
        intro hq
        by_cases b : e.2 = (i : Int)
        · rw [decide_eq_true b, decide_eq_true (hq b)]
          rfl
        · rw [decide_eq_false b]
          rfl
theorem frE_free {n : Nat} {es : List Edge} {L : List Nat} {i : Nat} (hi : i < n) : (decide (i ∉ L) && frE n es L i es.length) = true ↔ Free (adjE n es) n L i := by
  rw [Bool.and_eq_true, decide_eq_true_eq, frE_iff]
  constructor
  · rintro ⟨h1, h2⟩
    refine ⟨hi, h1, fun u hu hiu => ?_⟩
    obtain ⟨e, he, e1, e2, _, _⟩ := adjE_mem.1 hiu
    obtain ⟨j, hj, rfl⟩ := List.getElem_of_mem he
    have g : es.getD j (0, 0) = es[j] := by rw [List.getD_eq_getElem?_getD, List.getElem?_eq_getElem hj]; rfl
    have := h2 j hj (by rw [g]; simp only [okE, Bool.and_eq_true, decide_eq_true_eq]; omega) (by rw [g]; exact e2)
    rw [g, e1, Int.toNat_natCast] at this
    exact this
  · rintro ⟨_, h2, h3⟩
    refine ⟨h2, fun j hj a b => ?_⟩
    simp only [okE, Bool.and_eq_true, decide_eq_true_eq] at a
    refine h3 _ (by omega) (adjE_mem.2 ⟨es.getD j (0, 0), ?_, by omega, b, by omega, hi⟩)
    rw [List.getD_eq_getElem?_getD, List.getElem?_eq_getElem hj]
    exact List.getElem_mem _
/-- The best that was found from k on. -/
def BestP (adj : Nat → List Nat) (n : Nat) (L : List Nat) (k : Nat) (bv : Int) : Prop :=
  (bv = -1 ∧ ∀ v, k ≤ v → ¬ Free adj n L v) ∨ ∃ b : Nat, bv = (b : Int) ∧ Free adj n L b ∧ ∀ v, k ≤ v → Free adj n L v → b ≤ v
structure RS (w : World) (B N : Nat) (vl : Value) (L : List Nat) : Prop where
  told : w.heap[B]? = some (.cells (boolsC N fun v => decide (v ∈ L)).toArray 4 (0, 0))
  lst : w.ownsRow B 3 1 vl L.length (L.map iv)
theorem RS.below {w w' : World} {B N : Nat} {vl : Value} {L : List Nat} (h : RS w B N vl L) (hb : Below w.heap.size w w') : RS w' B N vl L :=
  ⟨(hb.block B (Array.getElem?_eq_some_iff.1 h.told).1).trans h.told, own_keep h.lst (fun k e => hb.block k (own_lt' h.lst e))⟩
set_option maxRecDepth 100000 in
set_option maxHeartbeats 8000000 in
theorem refsort_calls {w : World} {A : Option Addr} {c : Nat} (n : Int) (es : List Edge) (hE : EdgesAt w A es) (hn : n ≤ 2000) (hes : es.length ≤ 100000) :
    Calls Try.prog 9 #[.int .i64 n, .slice A es.length c] w (SEnd w n.toNat es) := by
  by_cases hn0 : n < 1
  · have h0 : n.toNat = 0 := by omega
    have hmb := make_bools 0 (by omega)
    have hmb' : ∀ W : World, (Instr.makeSlice 40 (.int .i64 0) (.int .i64 0)).run Try.prog W = .ok (.slice (some ⟨W.heap.size, 0, none⟩) 0 0) (W.alloc (.cells (boolsC 0 fun _ => false).toArray 4)) := hmb
    rw [h0]
    clear hmb h0
    have hs : SortR (adjE 0 es) 0 [] true := ⟨[], .nil, fun v hv => absurd hv.1 (by omega), rfl, rfl⟩
    have HS := Lib.hid hs
    clear hs hE hes
    rcases (show n = 0 ∨ n < 0 by omega) with rfl | hneg
    · clear hn0 hn
      go_enter Try.func9, Try.ntmps9
      go_wp2
      have B0 := Lib.hid (show Below w.heap.size w (w.alloc (.cells (boolsC 0 fun _ => false).toArray 4)) from below_alloc (Below.refl _ _) _)
      go_loopw [6] (fun v wr => v = .slice none 0 0 ∧ Hid (Below w.heap.size w wr)) (fun _ _ => 0)
      case atStart => exact ⟨rfl, B0⟩
      case round =>
        clear B0
        obtain ⟨rfl, B1⟩ := hrel
        go_wp2
        go_ret2
        exact ⟨B1.out, none, 0, [], true, rfl, (fun k hk => (by cases hk)), HS.out⟩
    · have d2 : ¬ (0 : Int) ≤ n := by omega
      have d3 : ¬ (0 : Int) < n := by omega
      clear hn0 hn
      go_enter Try.func9, Try.ntmps9
      go_wp2
      have B0 := Lib.hid (show Below w.heap.size w (w.alloc (.cells (boolsC 0 fun _ => false).toArray 4)) from below_alloc (Below.refl _ _) _)
      go_loopw [6] (fun v wr => v = .slice none 0 0 ∧ Hid (Below w.heap.size w wr)) (fun _ _ => 0)
      case atStart => exact ⟨rfl, B0⟩
      case round =>
        clear B0
        obtain ⟨rfl, B1⟩ := hrel
        go_wp2
        go_ret2
        exact ⟨B1.out, none, 0, [], true, rfl, (fun k hk => (by cases hk)), HS.out⟩
  · obtain ⟨N, rfl⟩ := Int.eq_ofNat_of_zero_le (show 0 ≤ n by omega)
    rw [Int.toNat_natCast]
    obtain ⟨ln, hln⟩ : ∃ ln, ln = es.length := ⟨_, rfl⟩
    rw [← hln]
    have hN1 : 1 ≤ N := by omega
    have hNb : N ≤ 2000 := by omega
    have hlb : ln ≤ 100000 := by omega
    have HLN := Lib.hid hln
    have HE := Lib.hid hE
    have hmb := make_bools N (by omega)
    have dm : (0 : Int) < (N : Int) := by omega
    clear hn0 hE hln hn hes
    go_enter Try.func9, Try.ntmps9
    have hw0 : IntKind.i64.wrap ((N : Int) - 1) = (N : Int) - 1 := IntWalk.i64_in _ (by omega)
    go_wp2
    obtain ⟨B, hB⟩ : ∃ B, B = w.heap.size := ⟨_, rfl⟩
    have R0 := Lib.hid (show RS (w.alloc (.cells (boolsC N fun _ => false).toArray 4)) B N (.slice none 0 0) [] from ⟨by rw [hB]; have := heap_alloc_last w (.cells (boolsC N fun _ => false).toArray 4); rw [this]; exact congrArg (fun f => some (Obj.cells (boolsC N f).toArray 4 (0, 0))) (funext fun v => by simp), World.ownsRow_nil _ _ _ _⟩)
    have B0 := Lib.hid (show Below w.heap.size w (w.alloc (.cells (boolsC N fun _ => false).toArray 4)) from below_alloc (Below.refl _ _) _)
    have HBE := Lib.hid hB
    rw [← hB]
    obtain ⟨adj, hadj⟩ : ∃ adj, adj = adjE N es := ⟨_, rfl⟩
    have HADJ := Lib.hid hadj
    clear hB hmb dm hadj
    go_loopg [6] N (fun kq vl wr => ∃ L : List Nat, Aside0 (kq = N - L.length) ∧ Hid (Greedy adj N L) ∧ Hid (RS wr B N vl L) ∧ Hid (Below w.heap.size w wr))
    case atStart => exact ⟨[], ⟨rfl⟩, Lib.hid .nil, R0, B0⟩
    case round =>
      clear R0 B0
      obtain ⟨L, GK, G1, R1, B1⟩ := hrel
      obtain ⟨Al, cl, rfl⟩ : ∃ A c, u6 = .slice A L.length c := by
        rcases R1.out.lst.2 with ⟨e, h1⟩ | ⟨g', cap', cur, e, _⟩
        · exact ⟨_, _, by rw [e, h1]⟩
        · exact ⟨_, _, e⟩
      obtain ⟨m, hm⟩ : ∃ m, m = L.length := ⟨_, rfl⟩
      have hmN : m ≤ N := by rw [hm]; exact G1.out.len
      have HM := Lib.hid hm
      rw [← hm] at R1 ⊢
      clear hm
      by_cases hlt : m < N
      · as_aux_lemma =>
        have dlt : decide ((m : Int) < (N : Int)) = true := decide_eq_true (by omega)
        obtain ⟨wo, hwo⟩ : ∃ wo, wo = wr := ⟨_, rfl⟩
        rw [← hwo] at R1 B1 ⊢
        clear hwo
        go_wp2_with fail
        go_loopw [8, 9] (fun bv a wx => ∃ (k : Nat) (b i : Int), a = .int .i64 i ∧ bv = .int .i64 b ∧ i = (k : Int) - 1 ∧ k ≤ N ∧ Hid (BestP adj N L k b) ∧ Hid (Below wo.heap.size wo wx)) (fun _ a _ => (intOf a + 1).toNat)
        case atStart => exact ⟨N, -1, _, rfl, rfl, rfl, Nat.le_refl _, Lib.hid (.inl ⟨rfl, fun v hv hf => by have := hf.1; omega⟩), Lib.hid (Below.refl _ _)⟩
        case round =>
          obtain ⟨k, b, i, rfl, rfl, hi, hk, HP, BX⟩ := hrel
          by_cases hk0 : k = 0
          · as_aux_lemma =>
            obtain rfl : (-1 : Int) = i := by omega
            subst hk0
            clear hi
            have BW := Lib.hid (B1.out.trans (BX.out.mono B1.out.size))
            have R2 := Lib.hid (R1.out.below BX.out)
            rcases HP.out with ⟨hb, hst⟩ | ⟨b', hb, hf, hmin⟩
            · subst hb
              have HS := Lib.hid (show SortR (adjE N es) N [] false from ⟨L, by rw [← HADJ.out]; exact G1.out, fun v hv => hst v (Nat.zero_le _) (by rw [HADJ.out]; exact hv), (decide_eq_false (by rw [← HM.out]; omega)).symm, by rw [if_neg (by rw [← HM.out]; omega)]⟩)
              clear HP hst
              go_wp2_with fail
              go_ret2
              exact ⟨BW.out, none, 0, [], false, rfl, (fun k hk => (by cases hk)), HS.out⟩
            · subst hb
              have hbN : b' < N := hf.1
              have b0 : ¬ (b' : Int) < 0 := by omega
              have db0 : decide ((b' : Int) < 0) = false := decide_eq_false b0
              have G2 := Lib.hid (show Greedy adj N (L ++ [b']) from .snoc G1.out hf (fun u hu => hmin u (Nat.zero_le _) hu))
              obtain ⟨tb, htb⟩ : ∃ tb, tb = decide (b' ∈ L) := ⟨_, rfl⟩
              have ct : wr.cell? ⟨B, b', none⟩ = some (.bool tb) := by rw [htb]; exact boolsC_at R2.out.told hbN
              have ft : wr.frozen? ⟨B, b', none⟩ = false := frozen_at R2.out.told
              have SZ := Lib.hid (show wr.heap.size = (wr.setCell ⟨B, b', none⟩ (.bool true)).heap.size by simp [World.setCell])
              have O3 := Lib.hid (show (wr.setCell ⟨B, b', none⟩ (.bool true)).ownsRow B 3 1 (.slice Al m cl) m (L.map iv) from by
                have := R2.out.lst
                rw [← HM.out] at this
                exact own_keep this (fun q e => Below.heap_setCell _ _ _ _ (fun e2 => own_ne R2.out.lst R2.out.told (by decide) (by rw [e]; exact congrArg some e2.symm))))
              have T3 := Lib.hid (show (wr.setCell ⟨B, b', none⟩ (.bool true)).heap[B]? = some (.cells (boolsC N fun v => decide (v ∈ L ++ [b'])).toArray 4 (0, 0)) by
                rw [heap_set R2.out.told, boolsC_upd]
                refine congrArg (fun f => some (Obj.cells (boolsC N f).toArray 4 (0, 0))) (funext fun v => ?_)
                unfold upd
                by_cases e : v = b'
                · rw [if_pos e, e]; simp
                · rw [if_neg e]; simp [e])
              have B3 := Lib.hid (show Below w.heap.size w (wr.setCell ⟨B, b', none⟩ (.bool true)) from bput BW.out (by rw [HBE.out]; exact Nat.le_refl _))
              have Z3 := Lib.hid (show B ≤ (wr.setCell ⟨B, b', none⟩ (.bool true)).heap.size by have := B3.out.size; rw [← HBE.out] at this; exact this)
              clear htb hf hmin HP
              go_wp2_with (first | ((with_reducible refine gate_dst (N := 72) rfl ?_); refine print_append_cells (w0 := wr.setCell ⟨B, b', none⟩ (.bool true)) (W := wr.setCell ⟨B, b', none⟩ (.bool true)) B rfl (.tmp 69) (.tmp 71) 24 3 _ 1 8 rfl Try.underlying24 infoInt rfl (by decide) (by decide) (.slice Al m cl) m (L.map iv) [iv b'] rfl (congrArg (fun q => Value.slice (some ⟨q, 0, none⟩) 1 1) SZ.out) rfl (by simp [Value.oneCell']) O3.out (Below.refl _ _) Z3.out (by omega) ?_; intro v1 w6 hown hbe hg hat; have R4 := Lib.hid (show RS w6 B N v1 (L ++ [b']) from ⟨(hg.block B (Array.getElem?_eq_some_iff.1 T3.out).1 (fun e => own_ne O3.out T3.out (by decide) e)).trans T3.out, by rw [List.length_append, List.map_append, ← HM.out]; exact hown⟩); have B4 := Lib.hid (bgrown B3.out hg (fun q e => by have := own_base O3.out q e; rw [HBE.out] at this; exact this)); clear hown hbe hg hat))
              go_roundg (N - (L ++ [b']).length)
              case measure => rw [GK.out, List.length_append, List.length_singleton, ← HM.out]; omega
              case rel => exact ⟨L ++ [b'], ⟨rfl⟩, G2, R4, B4⟩
          · as_aux_lemma =>
            obtain ⟨j, rfl⟩ : ∃ j, k = j + 1 := ⟨k - 1, by omega⟩
            obtain rfl : (j : Int) = i := by omega
            have hjN : j < N := by omega
            have j0 : ¬ (j : Int) < 0 := by omega
            have dj0 : decide ((j : Int) ≥ 0) = true := decide_eq_true (by omega)
            have hwj : IntKind.i64.wrap ((j : Int) - 1) = (j : Int) - 1 := IntWalk.i64_in _ (by omega)
            have R2 := Lib.hid (R1.out.below BX.out)
            obtain ⟨tb, htb⟩ : ∃ tb, tb = decide (j ∈ L) := ⟨_, rfl⟩
            have ct : wr.cell? ⟨B, j, none⟩ = some (.bool tb) := by rw [htb]; exact boolsC_at R2.out.told hjN
            have HTB := Lib.hid htb
            clear hi htb hk0 R2
            go_wp2_with fail
            obtain ⟨w2, hw2⟩ : ∃ w2, w2 = wr := ⟨_, rfl⟩
            rw [← hw2] at BX ⊢
            clear hw2 ct
            go_loopw [10, 11] (fun fv a wx => ∃ q : Nat, a = .int .i64 (q : Int) ∧ fv = .bool (!tb && frE N es L j q) ∧ q ≤ ln ∧ Hid (Below wo.heap.size wo wx)) (fun _ a _ => ln - (intOf a).toNat)
            case atStart => exact ⟨0, rfl, by simp [frE], by omega, BX⟩
            case round =>
              clear BX
              obtain ⟨q, rfl, rfl, hq, BQ⟩ := hrel
              by_cases hql : q < ln
              · as_aux_lemma =>
                have dq : decide ((q : Int) < (ln : Int)) = true := decide_eq_true (by omega)
                have hwq : IntKind.i64.wrap ((q : Int) + 1) = ((q + 1 : Nat) : Int) := by rw [IntWalk.i64_in _ (by omega)]; rfl
                have ql : (q : Int) < (ln : Int) := by omega
                have hqm : q < es.length := by rw [← HLN.out]; exact hql
                obtain ⟨ad, rfl, hcs⟩ := HE.out.2 q hqm
                obtain ⟨⟨x, y⟩, hxy⟩ : ∃ e, e = es.getD q (0, 0) := ⟨_, rfl⟩
                rw [← hxy] at hcs
                have BW := Lib.hid (B1.out.trans (BQ.out.mono B1.out.size))
                have HCS := Lib.hid (show ∀ j' v, (edC (x, y))[j']? = some v → wr.cell? ((ad.add (q * 2)).add j') = some v from fun p v hv => pw_cell_below BW.out (hcs p v hv))
                have LX := Lib.hid (show ∀ w', Below w.heap.size w w' → w'.cell? (ad.add (q * 2)) = some (.int .i64 x) from fun w' hb => pw_cell_below hb (by have := hcs 0 (.int .i64 x) rfl; rw [show ∀ a : Addr, a.add 0 = a from fun a => if_pos rfl] at this; exact this))
                have LY := Lib.hid (show ∀ w', Below w.heap.size w w' → w'.cell? ⟨(ad.add (q * 2)).block, (ad.add (q * 2)).off + 1, none⟩ = some (.int .i64 y) from fun w' hb => pw_cell_below hb (hcs 1 (.int .i64 y) rfl))
                obtain ⟨fv, hfv⟩ : ∃ fv, fv = (!tb && frE N es L j q) := ⟨_, rfl⟩
                have HF := Lib.hid (show (!tb && frE N es L j (q + 1)) = (fv && !(okE N (x, y) && (decide (y = (j : Int)) && !decide (x.toNat ∈ L)))) by rw [frE, ← hxy, hfv, Bool.and_assoc])
                rw [← hfv]
                clear hcs hxy hqm hfv
                cases hok : okE N (x, y) with
                | false =>
                  have HF' := Lib.hid (show (!tb && frE N es L j (q + 1)) = fv by rw [HF.out, hok]; simp)
                  have hok' : okE (N : Int).toNat (x, y) = false := hok
                  have HOK := Lib.hid hok'
                  clear hok hok'
                  go_wp2_with (first | ((with_reducible refine gate_dst (N := 40) rfl ?_); refine wpList_load_any rfl 30 (.tmp 39) rfl (ad.add (q * 2)) rfl (edC (x, y)) _ HCS.out Try.underlying30 rfl ((zero_of_info infoPair).2) ?_) | (go_at_call 18; refine (right_calls (N : Int) x y HOK.out).mono ?_; rintro e w3 ⟨rfl, hb⟩; have B3 := Lib.hid (BQ.out.trans (hb.mono BQ.out.size)); clear hb))
                  go_roundw
                  case rel => exact ⟨q + 1, (by first | trivial | go_num), by rw [HF'.out], by omega, B3⟩
                  case measure => simp [intOf]; omega
                | true =>
                  have hok' : okE (N : Int).toNat (x, y) = true := hok
                  have HOK := Lib.hid hok'
                  have HO := Lib.hid hok
                  simp only [okE, Bool.and_eq_true, decide_eq_true_eq] at hok
                  obtain ⟨⟨⟨h1, h2⟩, h3⟩, h4⟩ := hok
                  obtain ⟨a, rfl⟩ := Int.eq_ofNat_of_zero_le h1
                  have haN : a < N := by omega
                  clear hok' h1 h2 h3 h4
                  by_cases hyj : y = (j : Int)
                  · subst hyj
                    obtain ⟨ta, hta⟩ : ∃ ta, ta = decide (a ∈ L) := ⟨_, rfl⟩
                    have HTA := Lib.hid (show ∀ w', Below wo.heap.size wo w' → w'.cell? ⟨B, a, none⟩ = some (.bool ta) from fun w' hb => by rw [hta]; exact boolsC_at (R1.out.below hb).told haN)
                    have HF' := Lib.hid (show (!tb && frE N es L j (q + 1)) = (fv && ta) by rw [HF.out, HO.out, hta, Int.toNat_natCast]; cases decide (a ∈ L) <;> simp)
                    clear hta
                    cases ta with
                    | true =>
                      have HF2 := Lib.hid (show (!tb && frE N es L j (q + 1)) = fv by rw [HF'.out]; simp)
                      go_wp2_with (first | ((with_reducible refine gate_dst (N := 40) rfl ?_); refine wpList_load_any rfl 30 (.tmp 39) rfl (ad.add (q * 2)) rfl (edC ((a : Int), (j : Int))) _ HCS.out Try.underlying30 rfl ((zero_of_info infoPair).2) ?_) | (go_at_call 18; refine (right_calls (N : Int) (a : Int) (j : Int) HOK.out).mono ?_; rintro e w3 ⟨rfl, hb⟩; have B3 := Lib.hid (BQ.out.trans (hb.mono BQ.out.size)); clear hb; have BW3 := B1.out.trans (B3.out.mono B1.out.size); have q1 := LX.out _ BW3; have q2 := LY.out _ BW3; have q3 := HTA.out _ B3.out; clear BW3))
                      go_roundw
                      case rel => exact ⟨q + 1, (by first | trivial | go_num), by rw [HF2.out], by omega, B3⟩
                      case measure => simp [intOf]; omega
                    | false =>
                      have HF2 := Lib.hid (show (!tb && frE N es L j (q + 1)) = false by rw [HF'.out]; simp)
                      go_wp2_with (first | ((with_reducible refine gate_dst (N := 40) rfl ?_); refine wpList_load_any rfl 30 (.tmp 39) rfl (ad.add (q * 2)) rfl (edC ((a : Int), (j : Int))) _ HCS.out Try.underlying30 rfl ((zero_of_info infoPair).2) ?_) | (go_at_call 18; refine (right_calls (N : Int) (a : Int) (j : Int) HOK.out).mono ?_; rintro e w3 ⟨rfl, hb⟩; have B3 := Lib.hid (BQ.out.trans (hb.mono BQ.out.size)); clear hb; have BW3 := B1.out.trans (B3.out.mono B1.out.size); have q1 := LX.out _ BW3; have q2 := LY.out _ BW3; have q3 := HTA.out _ B3.out; clear BW3))
                      go_roundw
                      case rel => exact ⟨q + 1, (by first | trivial | go_num), by rw [HF2.out], by omega, B3⟩
                      case measure => simp [intOf]; omega
                  · have HF' := Lib.hid (show (!tb && frE N es L j (q + 1)) = fv by rw [HF.out, decide_eq_false hyj]; simp)
                    have dyj : decide (y = (j : Int)) = false := decide_eq_false hyj
                    have dyj' : (y == (j : Int)) = false := by simpa using hyj
                    go_wp2_with (first | ((with_reducible refine gate_dst (N := 40) rfl ?_); refine wpList_load_any rfl 30 (.tmp 39) rfl (ad.add (q * 2)) rfl (edC ((a : Int), y)) _ HCS.out Try.underlying30 rfl ((zero_of_info infoPair).2) ?_) | (go_at_call 18; refine (right_calls (N : Int) (a : Int) y HOK.out).mono ?_; rintro e w3 ⟨rfl, hb⟩; have B3 := Lib.hid (BQ.out.trans (hb.mono BQ.out.size)); clear hb; have BW3 := B1.out.trans (B3.out.mono B1.out.size); have q1 := LX.out _ BW3; have q2 := LY.out _ BW3; clear BW3))
                    go_roundw
                    case rel => exact ⟨q + 1, (by first | trivial | go_num), by rw [HF'.out], by omega, B3⟩
                    case measure => simp [intOf]; omega
              · as_aux_lemma =>
                have dq : decide ((q : Int) < (ln : Int)) = false := decide_eq_false (by omega)
                have hqe : q = es.length := by rw [← HLN.out]; omega
                have HFR := Lib.hid (show (!tb && frE N es L j q) = true ↔ Free adj N L j by rw [HTB.out, hqe, HADJ.out, ← frE_free hjN]; simp)
                obtain ⟨fv, hfv⟩ : ∃ fv, fv = (!tb && frE N es L j q) := ⟨_, rfl⟩
                rw [← hfv] at HFR ⊢
                clear hfv hqe
                cases fv with
                | true =>
                  have HP' := Lib.hid (show BestP adj N L j (j : Int) from .inr ⟨j, rfl, HFR.out.1 rfl, fun v hv _ => hv⟩)
                  clear HFR
                  go_wp2_with fail
                  go_roundw
                  case rel => exact ⟨j, (j : Int), (j : Int) - 1, (by first | trivial | go_num), rfl, rfl, by omega, HP', BQ⟩
                  case measure => simp [intOf]
                | false =>
                  have HP' := Lib.hid (show BestP adj N L j b from by
                    have hn : ¬ Free adj N L j := fun h => by have := HFR.out.2 h; cases this
                    rcases HP.out with ⟨h1, h2⟩ | ⟨b', h1, h2, h3⟩
                    · exact .inl ⟨h1, fun v hv hf => by
                        by_cases e : v = j
                        · exact hn (e ▸ hf)
                        · exact h2 v (by omega) hf⟩
                    · exact .inr ⟨b', h1, h2, fun v hv hf => by
                        by_cases e : v = j
                        · exact absurd (e ▸ hf) hn
                        · exact h3 v (by omega) hf⟩)
                  clear HFR
                  go_wp2_with fail
                  go_roundw
                  case rel => exact ⟨j, b, (j : Int) - 1, (by first | trivial | go_num), rfl, rfl, by omega, HP', BQ⟩
                  case measure => simp [intOf]
      · as_aux_lemma =>
        have dlt : decide ((m : Int) < (N : Int)) = false := decide_eq_false (by omega)
        have hmn : m = N := by omega
        have HS := Lib.hid (show SortR (adjE N es) N L true from ⟨L, by rw [← HADJ.out]; exact G1.out, by rw [← HADJ.out]; exact G1.out.done (by rw [← HM.out]; omega), (decide_eq_true (by rw [← HM.out]; omega)).symm, by rw [if_pos (by rw [← HM.out]; omega)]⟩)
        clear hmn
        go_wp2_with fail
        go_ret2
        refine ⟨B1.out, Al, cl, L, true, by rw [← HM.out]; rfl, fun k hk => ?_, HS.out⟩
        obtain ⟨g, c, hv, _⟩ := R1.out.lst.form (by omega)
        injection hv with hv
        refine ⟨g, hv, ?_⟩
        have := R1.out.lst
        rw [hv] at this
        rw [HM.out] at this
        exact own_at this hk rfl
#print axioms refsort_calls
end Go.Proofs.YtgbeigippahbaaaK
