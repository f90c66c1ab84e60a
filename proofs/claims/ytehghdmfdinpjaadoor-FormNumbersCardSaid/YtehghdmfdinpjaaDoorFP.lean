/- Forms: (*writer).put. -/
import Derived.Test.YtehghdmfdinpjaaDoorFB
import Derived.Lib.AppendIntMem
import Derived.Lib.ItoaLen
import Derived.Test.YtehghdmfdinpjaaDoorSh
import Derived.Test.YtehghdmfdinpjaaDoorPAllx2
namespace Go.Proofs.YtehghdmfdinpjaaDoorF
open Go.RowKit Go.Proofs Go.Proofs.YtehghdmfdinpjaaDoorW.PrintWords Go.Proofs.YtehghdmfdinpjaaDoorW.PrintLast
open Go.Proofs.YtehghdmfdinpjaaDoor.PAll (S24 k24)

/-- What a writer has come to. -/
structure WS where
  bs : List UInt8
  er : Bool
  dp : Bool
def erV : Bool → Value
  | false => .nilIface
  | true => .iface 61 (.int .i64 1)
def WsAt (w : World) (B g : Nat) (s : WS) : Prop := Wr w B g s.bs (erV s.er) s.dp
def bigF (deep : Nat) (s : WS) : Bool := decide (8 < deep) || decide (65536 < s.bs.length)
def numT (t : ByteArray) : List UInt8 := Lib.itoa (t.size : Int) ++ [58] ++ t.data.toList
mutual
/-- put, on what a writer has come to. -/
def putF : S24 → Nat → WS → WS
  | ⟨l, t, is⟩, deep, s =>
    if (l && !t.toList.isEmpty) || (!l && decide (0 < is.length)) then { s with er := true } else
    match l with
    | false => if bigF deep s then s else { s with bs := s.bs ++ numT t }
    | true =>
      let s1 : WS := if 8 < deep + 1 then { s with dp := true } else s
      let s2 : WS := if bigF deep s then s1 else { s1 with bs := s1.bs ++ [40] }
      let s3 := putL is (deep + 1) s2
      if bigF deep s then s3 else { s3 with bs := s3.bs ++ [41] }
def putL : List S24 → Nat → WS → WS
  | [], _, s => s
  | x :: xs, d, s => putL xs d (putF x d s)
end
mutual
def wt : S24 → Nat
  | ⟨_, t, is⟩ => t.size + 30 + wtL is
def wtL : List S24 → Nat
  | [] => 0
  | x :: xs => wt x + wtL xs
end
theorem wt_pos (x : S24) : 30 ≤ wt x := by cases x; unfold wt; omega
/-- The world's own table of powers. -/
def TabAt (w : World) : Prop := Lib.TabIs Tryd.prog w "internal/strconv.uint64pow10" .u64 Lib.pow10Tab
theorem tab_below {w w' : World} (h : TabAt w) (hb : Below w.heap.size w w') : TabAt w' := (by
  obtain ⟨g, hg⟩ : ∃ g, Tryd.prog.globalNamed "internal/strconv.uint64pow10" = some g := Option.isSome_iff_exists.1 (by kernel_rfl)
  unfold TabAt Lib.TabIs World.var? at h ⊢
  rw [hg] at h ⊢
  rw [Option.bind_some] at h ⊢
  have hlt : g < w.heap.size := by
    rcases Nat.lt_or_ge g w.heap.size with h' | h'
    · exact h'
    · rw [Array.getElem?_eq_none h'] at h; cases h
  rw [hb.block g hlt]
  exact h)
theorem itoa_calls (n : Nat) (hn : n ≤ 9223372036854775807) {w : World} (h : TabAt w) :
    Calls Tryd.prog 35 #[.int .i64 (n : Int)] w fun e w' => e = .returned (.string ⟨(Lib.itoa (n : Int)).toArray⟩) ∧ Below w.heap.size w w' := by
  refine (Tryd.strconv_Itoa n (by omega) (by omega) w h).mono ?_
  rintro e w' ⟨rfl, k, os, rfl⟩
  exact ⟨rfl, Lib.below_grow _ w (Nat.le_refl _) k os⟩
def PutEnd (w0 w : World) (g : Nat) (s : WS) (e : Ending) (w' : World) : Prop := e = .returned (.tuple #[]) ∧ WsAt w' w0.heap.size g s ∧ Below w0.heap.size w0 w'
theorem WsAt.stepB {w w' : World} {B g : Nat} {s : WS} (h : WsAt w B g s) (hb : Below w.heap.size w w') : WsAt w' B g s := Wr.step h hb
theorem putF_bad {l : Bool} {t : ByteArray} {is : List S24} {deep : Nat} {s : WS} (h : ((l && !t.toList.isEmpty) || (!l && decide (0 < is.length))) = true) : putF ⟨l, t, is⟩ deep s = { s with er := true } := by unfold putF; rw [if_pos h]
theorem putF_text {t : ByteArray} {deep : Nat} {s : WS} : putF ⟨false, t, []⟩ deep s = if bigF deep s then s else { s with bs := s.bs ++ numT t } := by unfold putF; rfl
def mid1 (deep : Nat) (s : WS) : WS := if 8 < deep + 1 then { s with dp := true } else s
def mid2 (deep : Nat) (s : WS) : WS := if bigF deep s then mid1 deep s else { mid1 deep s with bs := (mid1 deep s).bs ++ [40] }
def mid4 (bg : Bool) (s : WS) : WS := if bg then s else { s with bs := s.bs ++ [41] }
theorem putF_list {is : List S24} {deep : Nat} {s : WS} : putF ⟨true, ⟨#[]⟩, is⟩ deep s = mid4 (bigF deep s) (putL is (deep + 1) (mid2 deep s)) := by unfold putF; rw [if_neg (by rw [ByteArray.toList_eq]; simp)]; rfl
theorem putL_snoc {x : S24} {deep : Nat} : ∀ {is : List S24} {s : WS}, putL (is ++ [x]) deep s = putF x deep (putL is deep s)
  | [], s => by simp [putL]
  | y :: is, s => by rw [List.cons_append, putL, putL_snoc]; simp [putL]
theorem toList_empty {t : ByteArray} (h : t.toList.isEmpty = true) : t = ⟨#[]⟩ := by
  rw [ByteArray.toList_eq] at h
  obtain ⟨⟨l⟩⟩ := t
  cases l with
  | nil => rfl
  | cons a l => simp at h
theorem itoa_short (n : Nat) (h : n ≤ 9223372036854775807) : (⟨(Lib.itoa (n : Int)).toArray⟩ : ByteArray).size ≤ 25 := by
  have := Lib.itoa_length_le (n : Int) (by omega) (by omega)
  show (Lib.itoa (n : Int)).toArray.size ≤ 25
  rw [List.size_toArray]
  omega
theorem mid1_len (deep : Nat) (s : WS) : (mid1 deep s).bs.length = s.bs.length := by unfold mid1; split <;> rfl
theorem wtL_ge : ∀ (is : List S24), 30 * is.length ≤ wtL is
  | [] => by simp
  | x :: is => by have := wtL_ge is; have := wt_pos x; simp only [wtL, List.length_cons]; omega
theorem numT_len (t : ByteArray) (h : t.size ≤ 1000000000000) : (numT t).length ≤ 26 + t.size := by
  have h1 := itoa_short t.size (by omega)
  have h2 : (⟨(Lib.itoa (t.size : Int)).toArray⟩ : ByteArray).size = (Lib.itoa (t.size : Int)).length := by show (Lib.itoa (t.size : Int)).toArray.size = _; rw [List.size_toArray]
  have h3 : t.data.toList.length = t.size := by rw [Array.length_toList]; rfl
  simp only [numT, List.length_append, List.length_cons, List.length_nil]
  omega
theorem mid2_len (deep : Nat) (s : WS) : (mid2 deep s).bs.length ≤ s.bs.length + 1 := by
  have := mid1_len deep s
  unfold mid2
  split
  · omega
  · simp only [List.length_append, List.length_cons, List.length_nil]; omega
theorem mid4_len (b : Bool) (s : WS) : (mid4 b s).bs.length ≤ s.bs.length + 1 := by
  unfold mid4
  split
  · omega
  · simp only [List.length_append, List.length_cons, List.length_nil]; omega
mutual
theorem putF_len : ∀ (x : S24) (deep : Nat) (s : WS), wt x ≤ 1000000000000 → (putF x deep s).bs.length ≤ s.bs.length + wt x
  | ⟨l, t, is⟩, deep, s, h => by
    by_cases hb : ((l && !t.toList.isEmpty) || (!l && decide (0 < is.length))) = true
    · rw [putF_bad hb]
      show s.bs.length ≤ _
      omega
    · have hq : ((l && !t.toList.isEmpty) || (!l && decide (0 < is.length))) = false := by simpa using hb
      have hw : wt ⟨l, t, is⟩ = t.size + 30 + wtL is := by rw [wt]
      cases l with
      | false =>
        have his : is = [] := List.length_eq_zero_iff.1 (by simpa using hq)
        subst his
        rw [putF_text]
        split
        · omega
        · have := numT_len t (by omega)
          simp only [List.length_append]
          omega
      | true =>
        obtain rfl : t = ⟨#[]⟩ := toList_empty (by simpa using hq)
        rw [putF_list]
        have h1 := putL_len is (deep + 1) (mid2 deep s) (by omega)
        have h2 := mid2_len deep s
        have h3 := mid4_len (bigF deep s) (putL is (deep + 1) (mid2 deep s))
        omega
theorem putL_len : ∀ (is : List S24) (deep : Nat) (s : WS), wtL is ≤ 1000000000000 → (putL is deep s).bs.length ≤ s.bs.length + wtL is
  | [], _, s, _ => by simp [putL]
  | x :: is, deep, s, h => by
    have hw : wtL (x :: is) = wt x + wtL is := by rw [wtL]
    rw [putL]
    have h1 := putF_len x deep s (by omega)
    have h2 := putL_len is deep (putF x deep s) (by omega)
    omega
end
theorem wtL_at : ∀ {is : List S24} {i : Nat} {x : S24}, is[i]? = some x → wtL (is.take i) + wt x ≤ wtL is
  | [], i, x, h => by simp at h
  | y :: is, 0, x, h => by simp at h; subst h; simp only [List.take_zero, wtL]; omega
  | y :: is, i + 1, x, h => by
    have := wtL_at (is := is) (i := i) (x := x) (by simpa using h)
    simp only [List.take_succ_cons, wtL]
    omega
theorem putL_step {is : List S24} {i deep : Nat} {x : S24} {s : WS} (h : is[i]? = some x) : putL (is.take (i + 1)) deep s = putF x deep (putL (is.take i) deep s) := by
  obtain ⟨h1, h2⟩ := List.getElem?_eq_some_iff.1 h
  rw [List.take_succ_eq_append_getElem h1, h2, putL_snoc]
def PutsAt (w0 wx : World) (gb g : Nat) (l : Bool) (t : ByteArray) (A : Option Addr) (ln c : Nat) (s : WS) : Prop := WsAt wx w0.heap.size g s ∧ Below w0.heap.size w0 wx ∧ wx.heap[gb]? = some (.cells #[.bool l, .string t, .slice A ln c] 24 (0, 0))
set_option maxHeartbeats 4000000 in
set_option maxRecDepth 100000 in
theorem put_calls {w0 : World} {g : Nat} (HT : TabAt w0) : ∀ (k : Nat) (x : S24), wt x ≤ k → ∀ (w : World) (s : WS) (A : Option Addr) (c deep : Nat), WsAt w w0.heap.size g s → Below w0.heap.size w0 w → k24.C w0 A x.f2.length x.f2 → x.f2.length ≤ c → s.bs.length + wt x ≤ 1000000000000 → deep + wt x ≤ 1000000000000 →
    Calls Tryd.prog 24 #[.pointer (some ⟨g, 0, none⟩), .agg #[.bool x.f0, .string x.f1, .slice A x.f2.length c], .int .i64 (deep : Int)] w (PutEnd w0 w g (putF x deep s)) := by
  intro k
  induction k with
  | zero => intro x hx; have := wt_pos x; omega
  | succ k ih =>
  intro x hx w s A c deep hs hb hC hc hlen hdp
  obtain ⟨l, t, is⟩ := x
  simp only at hC hc ⊢
  obtain ⟨ln, hln⟩ : ∃ ln, ln = is.length := ⟨_, rfl⟩
  rw [← hln] at hC hc ⊢
  have HS := Lib.hid hs
  have HB := Lib.hid hb
  have HC := Lib.hid hC
  have HLEN := Lib.hid hlen
  have HDP := Lib.hid hdp
  have HLN := Lib.hid hln
  have HX := Lib.hid hx
  have HTB := Lib.hid HT
  have HI := Lib.hid ih
  obtain ⟨R, hR⟩ : ∃ R, R = putF ⟨l, t, is⟩ deep s := ⟨_, rfl⟩
  rw [← hR]
  have HR := Lib.hid hR
  clear hs hb hC hlen hdp hln hx hR ih HT
  go_enter Tryd.func24, Tryd.ntmps24
  go_upto_region 1 with (first | ((with_reducible refine gate_dst (N := 4) rfl ?_); refine box_event ?hg (N := 4) ?hd (cs := #[.bool l, .string t, .slice A ln c]) (t := 24) ?hr ?_; (case hd => rfl); (case hg => rfl); (case hr => first | (go_simp; done) | (go_simp; rfl)); intro gb hg wb hbox hb2; have HB2 := Lib.hid (HB.out.trans (hb2.mono HB.out.size)); have HS2 := Lib.hid (HS.out.stepB hb2); have BX := Lib.hid hbox; clear hb2 hbox hg HB HS))
  simp only [Act.put, List.setIfInBounds_toArray, List.set_cons_zero, List.set_cons_succ]
  go_cut [6] (fun v wx => v = .bool (bigF deep s) ∧ wx = wb)
  case first =>
    as_aux_lemma =>
    have hbg : (decide ((deep : Int) > 8) = true ∧ bigF deep s = true) ∨ (decide ((deep : Int) > 8) = false ∧ decide ((s.bs.length : Int) > 65536) = bigF deep s) := by
      by_cases h1 : 8 < deep
      · exact .inl ⟨decide_eq_true (by omega), by simp [bigF, h1]⟩
      · exact .inr ⟨decide_eq_false (by omega), by rw [bigF, decide_eq_false h1, Bool.false_or]; exact decide_eq_decide.2 (by omega)⟩
    rcases hbg with ⟨h1, h2⟩ | ⟨h1, h2⟩
    · go_wp2_with (first | (go_at_call 25; refine (len_calls HS2.out).mono ?_; rintro e w1 ⟨rfl, rfl⟩))
      go_meet
      exact ⟨by rw [h2], rfl⟩
    · have H2 := Lib.hid h2
      clear h2
      go_wp2_with (first | (go_at_call 25; refine (len_calls HS2.out).mono ?_; rintro e w1 ⟨rfl, rfl⟩))
      go_meet
      exact ⟨by rw [H2.out], rfl⟩
  case rest =>
  obtain ⟨rfl, rfl⟩ := hcut
  obtain ⟨bg, hbg⟩ : ∃ bg, bg = bigF deep s := ⟨_, rfl⟩
  rw [← hbg]
  have HBG := Lib.hid hbg
  clear hbg
  have c0 := (blk_cell BX.out 0).trans rfl
  have c1 := (blk_cell BX.out 1).trans rfl
  have c2 := (blk_cell BX.out 2).trans rfl
  by_cases hbad : ((l && !t.toList.isEmpty) || (!l && decide (0 < ln))) = true
  · as_aux_lemma =>
    have HBAD := Lib.hid hbad
    have hcs : (l = true ∧ t.toList.isEmpty = false) ∨ (l = false ∧ 0 < ln) := by
      cases l
      · exact .inr ⟨rfl, by simpa using hbad⟩
      · exact .inl ⟨rfl, by simpa using hbad⟩
    clear hbad
    rcases hcs with ⟨rfl, h1⟩ | ⟨rfl, h1⟩
    all_goals
      have hlt := HS2.out.lt
      obtain ⟨p, hp⟩ := HS2.out.at
      have fz := hp.frozen 2
      have cz := hp.cells.2.2.1
      clear hp
      go_wp2_with fail
      go_end0
      refine ⟨rfl, ?_, HB2.out.setCell (p := ⟨g, 2, none⟩) (by obtain ⟨p, hp⟩ := HS2.out.at; exact hp.base) _⟩
      rw [HR.out, putF_bad (by rw [← HLN.out]; exact HBAD.out)]
      exact Wr.setErr HS2.out _
  · have hq : ((l && !t.toList.isEmpty) || (!l && decide (0 < ln))) = false := by simpa using hbad
    clear hbad
    cases l with
    | false =>
      have hl0 : ln = 0 := by simpa using hq
      have his : is = [] := List.length_eq_zero_iff.1 (HLN.out.symm.trans hl0)
      subst his
      subst hl0
      cases bg with
      | true =>
        as_aux_lemma =>
        go_wp2_with fail
        go_end0
        refine ⟨rfl, ?_, HB2.out⟩
        rw [HR.out, putF_text, ← HBG.out, if_pos rfl]
        exact HS2.out
      | false =>
        as_aux_lemma =>
        obtain ⟨num, hnum⟩ : ∃ num : ByteArray, num = ⟨(Lib.itoa (t.size : Int)).toArray⟩ := ⟨_, rfl⟩
        have hts : t.size ≤ 1000000000000 := by have := HLEN.out; simp only [wt] at this; omega
        have hns : num.size ≤ 25 := by rw [hnum]; exact itoa_short t.size (by omega)
        have g1 : (9223372036854775807 < num.size + 1) = False := by rw [eq_iff_iff, iff_false]; omega
        have g2 : (9223372036854775807 < num.size + 1 + t.size) = False := by rw [eq_iff_iff, iff_false]; omega
        have HL6 := Lib.hid (show s.bs.length + (num ++ ⟨#[58]⟩ ++ t).size ≤ 140737488355328 by
          have := HLEN.out
          simp only [wt] at this
          rw [ByteArray.size_append, ByteArray.size_append]
          have h1 : (⟨#[58]⟩ : ByteArray).size = 1 := rfl
          omega)
        have HN := Lib.hid hnum
        have TS := Lib.hid hts
        clear hnum hts hns
        go_upto_region 5 with fail
        obtain ⟨w5, hw5⟩ : ∃ w5, w5 = wc.drew := ⟨_, rfl⟩
        have hd : Below wc.heap.size wc w5 := by rw [hw5]; exact below_drew (Below.refl _ _)
        have BX5 := Lib.hid (blk_below BX.out hd)
        have HS5 := Lib.hid (HS2.out.stepB hd)
        have HB5 := Lib.hid (HB2.out.trans (hd.mono HB2.out.size))
        have T5 := Lib.hid (tab_below HTB.out HB5.out)
        have HW5 := Lib.hid hw5
        clear hd hw5
        refine start_ (n := 12) (S := fun w' => w'.cell? ⟨gb, 1, none⟩ = some (.string t)) (ds := []) #[false, false, false, false, false, false, false, false, false, false, false, false] (by kernel_rfl) rfl rfl ((by rw [← HW5.out]; exact (blk_cell BX5.out 1).trans rfl)) (fun hHeld => ?_)
        rw [← HW5.out] at hHeld ⊢
        refine pure_ (i := 0) (N := some 49) (v := ?_) (a' := ?_) #[true, false, false, false, false, false, false, false, false, false, false, false] rfl rfl (by kernel_rfl) (fun _ _ _ h => h) (Or.inl ⟨by rfl, ?_⟩) ?_ ?_
        rotate_left
        · intro w'
          go_simp
          with_reducible rfl
        rotate_left
        · simp only [Act.put, List.setIfInBounds_toArray, List.set_cons_zero, List.set_cons_succ]
          rfl
        refine pure_ (i := 1) (N := some 50) (v := ?_) (a' := ?_) #[true, true, false, false, false, false, false, false, false, false, false, false] rfl rfl (by kernel_rfl) (fun _ _ _ h => h) (Or.inl ⟨by rfl, ?_⟩) ?_ ?_
        rotate_left
        · intro w'
          go_simp
          with_reducible rfl
        rotate_left
        · simp only [Act.put, List.setIfInBounds_toArray, List.set_cons_zero, List.set_cons_succ]
          rfl
        refine pure_ (i := 2) (N := some 51) (v := ?_) (a' := ?_) #[true, true, true, false, false, false, false, false, false, false, false, false] rfl rfl (by kernel_rfl) (fun _ _ _ h => h) (Or.inl ⟨by rfl, ?_⟩) ?_ ?_
        rotate_left
        · intro w'
          go_simp
          with_reducible rfl
        rotate_left
        · simp only [Act.put, List.setIfInBounds_toArray, List.set_cons_zero, List.set_cons_succ]
          rfl
        refine pure_ (i := 3) (N := some 52) (v := ?_) (a' := ?_) #[true, true, true, true, false, false, false, false, false, false, false, false] rfl rfl (by kernel_rfl) (fun _ _ _ h => h) (Or.inl ⟨by rfl, ?_⟩) ?_ ?_
        rotate_left
        · intro w'
          go_simp
          with_reducible rfl
        rotate_left
        · simp only [Act.put, List.setIfInBounds_toArray, List.set_cons_zero, List.set_cons_succ]
          rfl
        refine pure_ (i := 8) (N := some 57) (v := ?_) (a' := ?_) #[true, true, true, true, false, false, false, false, true, false, false, false] rfl rfl (by kernel_rfl) (fun _ _ _ h => h) (Or.inl ⟨by rfl, ?_⟩) ?_ ?_
        rotate_left
        · intro w'
          go_simp
          with_reducible rfl
        rotate_left
        · simp only [Act.put, List.setIfInBounds_toArray, List.set_cons_zero, List.set_cons_succ]
          rfl
        refine take_ (i := 4) (N := some 53) (v := ?_) (a' := ?_) #[true, true, true, true, true, false, false, false, true, false, false, false] rfl rfl (by kernel_rfl) (fun _ _ _ h => h) (Or.inl ⟨by rfl, ?_⟩) hHeld ?_ ?_
        rotate_left
        · intro w' s0
          go_simp
          with_reducible rfl
        rotate_left
        · simp only [Act.put, List.setIfInBounds_toArray, List.set_cons_zero, List.set_cons_succ]
          rfl
        refine pure_ (i := 5) (N := some 54) (v := ?_) (a' := ?_) #[true, true, true, true, true, true, false, false, true, false, false, false] rfl rfl (by kernel_rfl) (fun _ _ _ h => h) (Or.inl ⟨by rfl, ?_⟩) ?_ ?_
        rotate_left
        · intro w'
          go_simp
          with_reducible rfl
        rotate_left
        · simp only [Act.put, List.setIfInBounds_toArray, List.set_cons_zero, List.set_cons_succ]
          rfl
        refine take_ (i := 9) (N := some 58) (v := ?_) (a' := ?_) #[true, true, true, true, true, true, false, false, true, true, false, false] rfl rfl (by kernel_rfl) (fun _ _ _ h => h) (Or.inl ⟨by rfl, ?_⟩) hHeld ?_ ?_
        rotate_left
        · intro w' s0
          go_simp
          with_reducible rfl
        rotate_left
        · simp only [Act.put, List.setIfInBounds_toArray, List.set_cons_zero, List.set_cons_succ]
          rfl
        refine one_ (i := 6) (N := some 55) #[true, true, true, true, true, true, true, false, true, true, false, false] rfl rfl (by kernel_rfl) (by decide) (fun K hK => ?_)
        refine goes_ Tryd.func35 (by kernel_rfl) rfl #[.int .i64 (t.size : Int)] (by rfl) rfl rfl (by simp only [List.map_toArray, List.map_cons, List.map_nil]; rfl) ?_
        with_reducible refine (itoa_calls t.size (by have := TS.out; omega) T5.out).mono ?_
        rintro e w6 ⟨rfl, hb6⟩
        refine ⟨_, rfl, ?_⟩
        rw [← HN.out]
        have BX6 := Lib.hid (blk_below BX5.out hb6)
        have HS6 := Lib.hid (show Wr w6 w0.heap.size g s.bs (erV s.er) s.dp from HS5.out.stepB hb6)
        have HB6 := Lib.hid (HB5.out.trans (hb6.mono HB5.out.size))
        clear hb6
        refine hK.out _ _ ((blk_cell BX6.out 1).trans rfl) (fun hHeld => ?_)
        clear hK K
        refine norm_ (a' := ?_) ?_ ?_
        rotate_left
        · show Act.put _ (some 55) _ = _
          simp only [Act.put, List.setIfInBounds_toArray, List.set_cons_zero, List.set_cons_succ]
          rfl
        refine pure_ (i := 7) (N := some 56) (v := ?_) (a' := ?_) #[true, true, true, true, true, true, true, true, true, true, false, false] rfl rfl (by kernel_rfl) (fun _ _ _ h => h) (Or.inl ⟨by rfl, ?_⟩) ?_ ?_
        rotate_left
        · intro w'
          go_simp
          with_reducible rfl
        rotate_left
        · simp only [Act.put, List.setIfInBounds_toArray, List.set_cons_zero, List.set_cons_succ]
          rfl
        refine pure_ (i := 10) (N := some 59) (v := ?_) (a' := ?_) #[true, true, true, true, true, true, true, true, true, true, true, false] rfl rfl (by kernel_rfl) (fun _ _ _ h => h) (Or.inl ⟨by rfl, ?_⟩) ?_ ?_
        rotate_left
        · intro w'
          go_simp
          with_reducible rfl
        rotate_left
        · simp only [Act.put, List.setIfInBounds_toArray, List.set_cons_zero, List.set_cons_succ]
          rfl
        refine one_ (i := 11) (N := some 60) #[true, true, true, true, true, true, true, true, true, true, true, true] rfl rfl (by kernel_rfl) (by decide) (fun K hK => ?_)
        refine goes_ Tryd.func38 (by kernel_rfl) rfl #[.pointer (some ⟨g, 0, none⟩), .string (num ++ ⟨#[58]⟩ ++ t)] (by rfl) rfl rfl (by simp only [List.map_toArray, List.map_cons, List.map_nil]; rfl) ?_
        with_reducible refine (writeString_calls (num ++ ⟨#[58]⟩ ++ t) HS6.out HL6.out).mono ?_
        rintro e w7 ⟨rfl, hs7, hb7, hf7⟩
        refine ⟨_, rfl, ?_⟩
        have HS7 := Lib.hid hs7
        have HB7 := Lib.hid (HB6.out.trans hb7)
        have BX7 := Lib.hid (hf7 _ _ _ BX6.out (by decide) (by decide))
        clear hs7 hb7 hf7
        refine hK.out _ _ ((blk_cell BX7.out 1).trans rfl) (fun hHeld => ?_)
        clear hK K
        refine norm_ (a' := ?_) ?_ ?_
        rotate_left
        · show Act.put _ (some 60) _ = _
          simp only [Act.put, List.setIfInBounds_toArray, List.set_cons_zero, List.set_cons_succ]
          rfl
        refine done_ (by kernel_rfl) ?_

        go_wp2_with fail
        go_end0
        refine ⟨rfl, ?_, HB7.out⟩
        rw [HR.out, putF_text, ← HBG.out, if_neg (by decide)]
        have e : numT t = (num ++ ⟨#[58]⟩ ++ t).data.toList := by rw [HN.out]; simp [numT]
        rw [e]
        exact HS7.out
    | true =>
      as_aux_lemma =>
      obtain rfl : t = ⟨#[]⟩ := toList_empty (by simpa using hq)
      have hw : IntKind.i64.wrap ((deep : Int) + 1) = ((deep + 1 : Nat) : Int) := by
        have := HDP.out
        rw [IntWalk.i64_in _ (by omega)]
        rfl
      have he : (⟨#[]⟩ : ByteArray).toList.isEmpty = true := by rw [ByteArray.toList_eq]; rfl
      clear hq
      go_upto_if 67 with fail
      go_cut [] (fun wx => ∃ wy, wx = wy ∧ PutsAt w0 wy gb g true ⟨#[]⟩ A ln c (mid1 deep s))
      case first =>
        by_cases h8 : 8 < deep + 1
        · have h1 : decide ((8 : Int) < (deep : Int) + 1) = true := decide_eq_true (by omega)
          have h2 : (8 : Int) < (deep : Int) + 1 := by omega
          have hlt := HS2.out.lt
          obtain ⟨p, hp⟩ := HS2.out.at
          have fz := hp.frozen 3
          have cz := hp.cells.2.2.2
          have hbs := hp.base
          obtain ⟨v, hrow, _⟩ := hp.row
          have HRW := Lib.hid hrow
          clear hp hrow
          go_wp2_with fail
          go_meet
          refine ⟨_, rfl, ?_, HB2.out.setCell (p := ⟨g, 3, none⟩) hbs _, FrT.set HRW.out _ _ _ BX.out (by decide) (by decide)⟩
          rw [mid1, if_pos h8]
          exact Wr.setDeep HS2.out _
        · have h1 : decide ((8 : Int) < (deep : Int) + 1) = false := decide_eq_false (by omega)
          have h2 : ¬ ((8 : Int) < (deep : Int) + 1) := by omega
          go_wp2_with fail
          go_meet
          refine ⟨_, rfl, ?_, HB2.out, BX.out⟩
          rw [mid1, if_neg h8]
          exact HS2.out
      case rest =>
      obtain ⟨w3, rfl, h3⟩ := hcut
      have H3 := Lib.hid h3
      clear h3 c0 c1 c2 HS2 HB2 BX
      go_upto_if 72 with fail
      go_cut [] (fun wx => ∃ wy, wx = wy ∧ PutsAt w0 wy gb g true ⟨#[]⟩ A ln c (mid2 deep s))
      case first =>
        cases bg with
        | true =>
          go_wp2_with fail
          go_meet
          refine ⟨_, rfl, ?_⟩
          rw [mid2, ← HBG.out, if_pos rfl]
          exact H3.out
        | false =>
          go_wp2_with (first | (go_at_call 39; refine (writeByte_calls 40 H3.out.1 (by have := HLEN.out; simp only [wt] at this; have := mid1_len deep s; omega)).mono ?_; rintro e w4 ⟨rfl, hs4, hb4, hf4⟩))
          go_meet
          refine ⟨_, rfl, ?_, H3.out.2.1.trans hb4, hf4 _ _ _ H3.out.2.2 (by decide) (by decide)⟩
          rw [mid2, ← HBG.out, if_neg (by decide)]
          exact hs4
      case rest =>
      obtain ⟨w4, rfl, h4⟩ := hcut
      obtain ⟨S2, hS2⟩ : ∃ S2, S2 = mid2 deep s := ⟨_, rfl⟩
      rw [← hS2] at h4
      have HS4 := Lib.hid h4.1
      have HB4 := Lib.hid h4.2.1
      have c2 := (blk_cell h4.2.2 2).trans rfl
      have E2 := Lib.hid hS2
      clear hS2 h4 H3
      go_wp2_with fail
      go_loopw [80] (fun a wr => ∃ i : Nat, a = .int .i64 (i : Int) ∧ i ≤ ln ∧ Hid (WsAt wr w0.heap.size g (putL (is.take i) (deep + 1) S2)) ∧ Hid (Below w0.heap.size w0 wr)) (fun a _ => ln - (intOf a).toNat)
      case atStart => exact ⟨0, rfl, Nat.zero_le _, HS4, HB4⟩
      case round =>
        obtain ⟨i, rfl, hi, HSi, HBi⟩ := hrel
        by_cases hin : i < ln
        · have d1 : decide ((i : Int) < (ln : Int)) = true := decide_eq_true (by omega)
          have hwi : IntKind.i64.wrap ((i : Int) + 1) = ((i + 1 : Nat) : Int) := by rw [IntWalk.i64_in _ (by have := HDP.out; have := HLN.out; have := wtL_ge is; simp only [wt] at *; omega)]; rfl
          obtain ⟨ad, A2, cc2, rfl, e0, e1, e2, hl2, hC2⟩ := Go.Proofs.YtehghdmfdinpjaaDoor.PAll.at_T24 HC.out (i : Int) (by omega) (by omega)
          rw [Int.toNat_natCast] at e0 e1 e2
          obtain ⟨x, hx⟩ : ∃ x, x = Go.Proofs.YtehghdmfdinpjaaDoor.PAll.rd_T24 is (i : Int) := ⟨_, rfl⟩
          rw [← hx] at e0 e1 e2 hl2 hC2
          have hxi : is[i]? = some x := by
            rw [hx]
            have : i < is.length := by have := HLN.out; omega
            simp [Go.Proofs.YtehghdmfdinpjaaDoor.PAll.rd_T24, List.getD, List.getElem?_eq_getElem this]
          have X0 := HBi.out.cell (World.block_lt_of_cell? w0 _ e0) |>.trans e0
          have X1 := HBi.out.cell (World.block_lt_of_cell? w0 _ e1) |>.trans e1
          have X2 := HBi.out.cell (World.block_lt_of_cell? w0 _ e2) |>.trans e2
          have HX2 := Lib.hid hC2
          have HXI := Lib.hid hxi
          clear hC2 hxi hx e0 e1 e2
          have ha : Below wr.heap.size wr (wr.alloc (.cells #[.bool x.f0, .string x.f1, .slice A2 x.f2.length cc2] 24)) := below_alloc (Below.refl _ _) _
          have hwt := wtL_at HXI.out
          have hW : wt ⟨true, ⟨#[]⟩, is⟩ = 30 + wtL is := by rw [wt]; show 0 + 30 + _ = _; omega
          have hln := putL_len (is.take i) (deep + 1) S2 (by have := HDP.out; omega)
          have h2l : S2.bs.length ≤ s.bs.length + 1 := by rw [E2.out]; exact mid2_len deep s
          have HP := Lib.hid (HI.out x (by have := HX.out; omega) (wr.alloc (.cells #[.bool x.f0, .string x.f1, .slice A2 x.f2.length cc2] 24)) (putL (is.take i) (deep + 1) S2) A2 cc2 (deep + 1) (HSi.out.stepB ha) (HBi.out.trans (ha.mono HBi.out.size)) HX2.out hl2 (by have := HLEN.out; omega) (by have := HDP.out; omega))
          rw [show ((deep + 1 : Nat) : Int) = (deep : Int) + 1 from rfl] at HP
          clear ha hwt hW hln h2l
          go_wp2_with (first | (go_at_call 24; refine HP.out.mono ?_; rintro e w6 ⟨rfl, hs6, hb6⟩; rw [← putL_step HXI.out] at hs6; have HS6 := Lib.hid hs6; have HB6 := Lib.hid hb6; clear hs6 hb6))
          go_roundw
          case rel => exact ⟨i + 1, rfl, hin, HS6, HB6⟩
          case measure => simp only [intOf] at *; omega
        · have d1 : decide ((i : Int) < (ln : Int)) = false := decide_eq_false (by omega)
          obtain rfl : ln = i := by omega
          have htk : is.take ln = is := List.take_of_length_le (by rw [HLN.out]; exact Nat.le_refl _)
          rw [htk] at HSi
          have hR : R = mid4 bg (putL is (deep + 1) S2) := by rw [HR.out, putF_list, ← HBG.out, ← E2.out]
          have HR2 := Lib.hid hR
          clear htk hR HR
          cases bg with
          | true =>
            go_wp2_with fail
            go_end0
            refine ⟨rfl, ?_, HBi.out⟩
            rw [HR2.out]
            exact HSi.out
          | false =>
            have hW : wt ⟨true, ⟨#[]⟩, is⟩ = 30 + wtL is := by rw [wt]; show 0 + 30 + _ = _; omega
            have hln := putL_len is (deep + 1) S2 (by have := HDP.out; omega)
            have h2l : S2.bs.length ≤ s.bs.length + 1 := by rw [E2.out]; exact mid2_len deep s
            have HL7 := Lib.hid (show (putL is (deep + 1) S2).bs.length + 1 ≤ 140737488355328 by have := HLEN.out; omega)
            clear hW hln h2l
            go_wp2_with (first | (go_at_call 39; refine (writeByte_calls 41 HSi.out HL7.out).mono ?_; rintro e w7 ⟨rfl, hs7, hb7, hf7⟩; have HS7 := Lib.hid hs7; have HB7 := Lib.hid (HBi.out.trans hb7); clear hs7 hb7 hf7))
            go_end0
            refine ⟨rfl, ?_, HB7.out⟩
            rw [HR2.out]
            exact HS7.out
#print axioms put_calls
end Go.Proofs.YtehghdmfdinpjaaDoorF
