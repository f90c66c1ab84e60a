/- Tree: the plain tree on pages. -/
import Derived.Test.YtkmbkgjfhjjicaaTN
namespace Go.Proofs.YtkmbkgjfhjjicaaT
open Go.RowKit Go.Maps Go.Proofs Go.Proofs.YtkmbkgjfhjjicaaW.PrintWords Go.Proofs.YtkmbkgjfhjjicaaW.PrintLast

/-- An item of a node; a node. -/
structure It where
  key : ByteArray
  val : ByteArray
  child : Nat
structure Nd where
  leaf : Bool
  items : List It
/-- Go's order on texts. -/
def lt (a b : ByteArray) : Bool := Op.bytesLess a.toList b.toList
/-! ### A node's bytes -/
def by2 (n : Nat) : List UInt8 := [UInt8.ofNat (n / 256 % 256), UInt8.ofNat (n % 256)]
def encI (leaf : Bool) (x : It) : List UInt8 := UInt8.ofNat (x.key.size % 256) :: x.key.data.toList ++ if leaf then by2 x.val.size ++ x.val.data.toList else by2 x.child
def encL (leaf : Bool) (l : List It) : List UInt8 := l.flatMap (encI leaf)
def encN (n : Nd) : List UInt8 := [if n.leaf then 76 else 78, UInt8.ofNat (n.items.length % 256)] ++ encL n.leaf n.items
/-- An item that its bytes tell. -/
def okI (leaf : Bool) (x : It) : Bool := decide (x.key.size < 256) && if leaf then decide (x.val.size < 65536) && x.child == 0 else decide (x.val.size = 0) && decide (x.child < 65536)
/-- Rising keys. -/
def rising : List It → Bool
  | [] => true
  | [_] => true
  | x :: y :: l => lt x.key y.key && rising (y :: l)
/-- A node that may lie on a page: a leaf's keys rise, an inner node's from the second one on, and these are no empty texts. -/
def okN (n : Nd) : Bool := n.items.all (okI n.leaf) && decide (0 < n.items.length) && decide (n.items.length < 256) && (if n.leaf then rising n.items else rising (n.items.drop 1) && (n.items.drop 1).all (fun x => decide (x.key.size ≠ 0)))
def fitN (n : Nd) : Bool := decide ((encN n).length ≤ 512) && decide (n.items.length < 256)
/-! ### Pages -/
/-- The pages: fresh, or a node; and the last number given. -/
structure Pg where
  f : Nat → Option (Option Nd)
  nx : Nat
def bytesP : Option Nd → ByteArray
  | none => ⟨#[]⟩
  | some n => ⟨(encN n).toArray⟩
def Pg.F (S : Pg) : Int → Option ByteArray := fun k => if 0 ≤ k then (S.f k.toNat).map bytesP else none
def Pg.new (S : Pg) : Pg := ⟨fun p => if p = S.nx + 1 then some none else S.f p, S.nx + 1⟩
def Pg.set (S : Pg) (p : Nat) (n : Nd) : Pg := ⟨fun q => if q = p then some (some n) else S.f q, S.nx⟩
def Pg.cut (S : Pg) (p : Nat) : Pg := ⟨fun q => if q = p then none else S.f q, S.nx⟩
def Pg.get (S : Pg) (p : Nat) : Option Nd := match S.f p with | some (some n) => if okN n then some n else none | _ => none
/-- Put: where there is the page, and the bytes find room. -/
def Pg.put (S : Pg) (p : Nat) (n : Nd) : Option Pg := if okN n && decide ((encN n).length ≤ 512) && (S.f p).isSome then some (S.set p n) else none
/-! ### Its functions -/
def firstIdx (p : It → Bool) : List It → Nat
  | [] => 0
  | x :: l => if p x then 0 else firstIdx p l + 1
def placeN (n : Nd) (key : ByteArray) : Nat × Bool :=
  if n.leaf then (firstIdx (fun x => !lt x.key key) n.items, match n.items[firstIdx (fun x => !lt x.key key) n.items]? with | some x => x.key.toList == key.toList | none => false)
  else (firstIdx (fun x => !(lt x.key key || x.key.toList == key.toList)) (n.items.drop 1), true)
/-- Where a node is parted: as even as may be. -/
def partAt (n : Nd) : List Nat → Nat × Nat → Nat × Nat
  | [], s => s
  | i :: l, s => partAt n l (if max (encN ⟨n.leaf, n.items.take i⟩).length (encN ⟨n.leaf, n.items.drop i⟩).length < s.2 then (i, max (encN ⟨n.leaf, n.items.take i⟩).length (encN ⟨n.leaf, n.items.drop i⟩).length) else s)
def bestAt (n : Nd) : Nat := (partAt n (List.range' 1 (n.items.length - 1)) (1, (encN n).length)).1
def saveF : Nat → Pg → Nat → Nd → Option (Pg × List It)
  | 0, _, _, _ => none
  | k + 1, S, p, n =>
    if fitN n then (S.put p n).map fun S' => (S', []) else
    if n.items.length < 2 ∨ n.items.length > 1000 then none else
    (saveF k S p ⟨n.leaf, n.items.take (bestAt n)⟩).bind fun r =>
    if 60000 < r.1.nx then none else
    (saveF k r.1.new (r.1.nx + 1) ⟨n.leaf, n.items.drop (bestAt n)⟩).bind fun q =>
    match n.items[bestAt n]? with
    | some x => some (q.1, r.2 ++ [⟨x.key, ⟨#[]⟩, r.1.nx + 1⟩] ++ q.2)
    | none => none
def putF : Nat → Pg → Nat → ByteArray → ByteArray → Option (Pg × List It)
  | 0, _, _, _, _ => none
  | k + 1, S, p, key, val =>
    (S.get p).bind fun n =>
    if n.leaf then
      if (placeN n key).2 then
        match n.items[(placeN n key).1]? with
        | some x => saveF 300 S p ⟨true, n.items.set (placeN n key).1 ⟨x.key, val, x.child⟩⟩
        | none => none
      else saveF 300 S p ⟨true, n.items.take (placeN n key).1 ++ [⟨key, val, 0⟩] ++ n.items.drop (placeN n key).1⟩
    else
      match n.items[(placeN n key).1]? with
      | some x => (putF k S x.child key val).bind fun r =>
        if r.2.isEmpty then some (r.1, []) else
        if r.2.length > 200 then none else
        saveF 300 r.1 p ⟨false, n.items.take ((placeN n key).1 + 1) ++ r.2 ++ n.items.drop ((placeN n key).1 + 1)⟩
      | none => none
/-- New roots, till there is nothing beside. -/
def growF : Nat → Pg → Nat → List It → Option (Pg × Nat)
  | 0, _, _, _ => none
  | k + 1, S, root, more =>
    if more.isEmpty then some (S, root) else
    if 60000 < S.nx ∨ more.length > 200 then none else
    (saveF 300 S.new (S.nx + 1) ⟨false, ⟨⟨#[]⟩, ⟨#[]⟩, root⟩ :: more⟩).bind fun r => growF k r.1 (S.nx + 1) r.2
def putRoot (S : Pg) (root : Nat) (key val : ByteArray) : Option (Pg × Nat) :=
  if key.size = 0 ∨ 40 < key.size ∨ 400 < val.size ∨ 60000 < S.nx then none else
  if root = 0 then (S.new.put (S.nx + 1) ⟨true, [⟨key, val, 0⟩]⟩).map fun S' => (S', S.nx + 1) else
  (putF 100 S root key val).bind fun r => growF 100 r.1 root r.2
def cutF : Nat → Pg → Nat → ByteArray → Option (Pg × Bool × Bool)
  | 0, _, _, _ => none
  | k + 1, S, p, key =>
    (S.get p).bind fun n =>
    let fin (S : Pg) : Option (Pg × Bool × Bool) :=
      if (n.items.eraseIdx (placeN n key).1).isEmpty then (if (S.f p).isSome then some (S.cut p, true, true) else none)
      else (S.put p ⟨n.leaf, n.items.eraseIdx (placeN n key).1⟩).map fun S' => (S', true, false)
    if n.leaf then (if (placeN n key).2 then fin S else some (S, false, false)) else
    match n.items[(placeN n key).1]? with
    | some x => (cutF k S x.child key).bind fun r => if r.2.2 then fin r.1 else some (r.1, r.2.1, false)
    | none => none
/-- Roots with one child alone are left. -/
def shrinkF : Nat → Pg → Nat → Option (Pg × Nat)
  | 0, _, _ => none
  | k + 1, S, root =>
    (S.get root).bind fun n =>
    if n.leaf || decide (1 < n.items.length) then some (S, root) else
    match n.items with
    | x :: _ => shrinkF k (S.cut root) x.child
    | [] => none
def cutRoot (S : Pg) (root : Nat) (key : ByteArray) : Option (Pg × Nat × Bool) :=
  if root = 0 then some (S, 0, false) else
  (cutF 100 S root key).bind fun r =>
  if r.2.2 then some (r.1, 0, true) else (shrinkF 100 r.1 root).map fun q => (q.1, q.2, r.2.1)
/-- All pairs, up to a limit. -/
def walkF : Nat → Pg → Nat → Nat → List (ByteArray × ByteArray) → Option (List (ByteArray × ByteArray))
  | 0, _, _, _, _ => none
  | k + 1, S, p, limit, l =>
    (S.get p).bind fun n =>
    n.items.foldlM (fun l x => if limit ≤ l.length then some l else if n.leaf then some (l ++ [(x.key, x.val)]) else walkF k S x.child limit l) l
/-! ### In memory -/
def cellsI (x : It) : List Value := [.string x.key, .string x.val, .int .i64 (x.child : Int)]
def flat (l : List It) : List Value := l.flatMap cellsI
/-- Items that can be read there. -/
def ItsAt (w : World) (A : Option Addr) (l : List It) : Prop := l ≠ [] → ∃ ad, A = some ad ∧ ad.spot = none ∧ ∀ j u, (flat l)[j]? = some u → w.cell? ⟨ad.block, ad.off + j, none⟩ = some u
/-- Items in a row of the call's own. -/
def RowI (w : World) (B : Nat) (v : Value) (l : List It) : Prop := w.ownsRow B 53 3 v l.length (flat l)
structure StAt (w : World) (pp mb : Nat) (S : Pg) : Prop where
  pg : PgAt w pp mb S.nx S.F
#print axioms saveF
end Go.Proofs.YtkmbkgjfhjjicaaT
