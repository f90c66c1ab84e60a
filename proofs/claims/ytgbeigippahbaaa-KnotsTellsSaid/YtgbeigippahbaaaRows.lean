/-
  No cell of these rows narrows 'for every input' (looked for: loops, veiled, ifaces, maps, wideKeys, modest, calm, conditions, laid).
  DERIVED. THE GIVEN ROWS OF THIS SEAT. 4 by the template 'for every input the law returns true; each argument reads behind the call as it read before'; 0 by the template 'total and deterministic' (their statements: YtgbeigippahbaaaTotals.lean).
  GIVEN WITH THE SEED: the statements are not yours to turn. If you find one false, say at which input.
  Laid BY PROGRAM, IN A SANDBOX (cutbox-rows.mjs): the forced cells as the released guide's own fill.sh prints them over the translation 002e4348d667d7ec… (all of the seat's roots in one cut). By AI agents, Wed Nov 11 2026. No macro, syntax, notation, axiom, sorry.
-/
import Derived.Test.YtgbeigippahbaaaChecked
import GoSem.Claim
import GoSem.ClaimJoined
import GoSem.ClaimMapViews
import Derived.JoinedTies
import Derived.KernelRfl
namespace Go.Proofs.Ytgbeigippahbaaa
/- THE CELL 'sum', in the pinned program and in every row, IS THE sha256 OF THE DUMP (.gsa) THAT YtgbeigippahbaaaProg.lean LOADS. Nothing in Lean hashes anything: it is a label: what it is worth is what the hold of that sum in a sandbox is worth. -/
noncomputable def Try.pinned : Pinned := { name := "ytgbeigippahbaaa", sum := "002e4348d667d7ecf26ef7d83ddb1ad1b1be1db186b9b9100f191d2d5ff9e829", checked := Try.checked }
namespace Rows
def none {H : Type} : Left H := { results := [], args := [] }

/-- 'tambourlaw08.KnotsTells': WHATEVER THE INPUT: true; the input reads as it did. -/
def knotsTellsSpec : ChangeSpec := { name := "knotsTells", fn := fun _ => fun
  | [d1, d2] => { results := [.lit (.bool true)], args := [d1, d2] }
  | _ => none }
def knotsTellsRow : OpenClaim := { program := "ytgbeigippahbaaa", sum := "002e4348d667d7ecf26ef7d83ddb1ad1b1be1db186b9b9100f191d2d5ff9e829", func := "tambour/tambourlaw08.KnotsTells", spec := "knotsTells", unfollowed := true, recurses := true, apart := false }
def KnotsTellsSaid : Prop := knotsTellsRow.holds Try.pinned (OpenSpec.ofChange knotsTellsSpec)

/-- ITS FALSE NEIGHBOUR: 'it returns false'. Refute it at one input. -/
def knotsTellsWrong : ChangeSpec := { name := "knotsTells", fn := fun _ => fun
  | [d1, d2] => { results := [.lit (.bool false)], args := [d1, d2] }
  | _ => none }
def KnotsTellsWrongFalsely : Prop := knotsTellsRow.holds Try.pinned (OpenSpec.ofChange knotsTellsWrong)

/-- 'tambourlaw08.KnotsSort': WHATEVER THE INPUT: true; the input reads as it did. -/
def knotsSortSpec : ChangeSpec := { name := "knotsSort", fn := fun _ => fun
  | [d1, d2] => { results := [.lit (.bool true)], args := [d1, d2] }
  | _ => none }
def knotsSortRow : OpenClaim := { program := "ytgbeigippahbaaa", sum := "002e4348d667d7ecf26ef7d83ddb1ad1b1be1db186b9b9100f191d2d5ff9e829", func := "tambour/tambourlaw08.KnotsSort", spec := "knotsSort", unfollowed := true, recurses := true, apart := false }
def KnotsSortSaid : Prop := knotsSortRow.holds Try.pinned (OpenSpec.ofChange knotsSortSpec)

/-- ITS FALSE NEIGHBOUR: 'it returns false'. Refute it at one input. -/
def knotsSortWrong : ChangeSpec := { name := "knotsSort", fn := fun _ => fun
  | [d1, d2] => { results := [.lit (.bool false)], args := [d1, d2] }
  | _ => none }
def KnotsSortWrongFalsely : Prop := knotsSortRow.holds Try.pinned (OpenSpec.ofChange knotsSortWrong)

/-- 'tambourlaw08.KnotsRings': WHATEVER THE INPUT: true; the input reads as it did. -/
def knotsRingsSpec : ChangeSpec := { name := "knotsRings", fn := fun _ => fun
  | [d1, d2, d3] => { results := [.lit (.bool true)], args := [d1, d2, d3] }
  | _ => none }
def knotsRingsRow : OpenClaim := { program := "ytgbeigippahbaaa", sum := "002e4348d667d7ecf26ef7d83ddb1ad1b1be1db186b9b9100f191d2d5ff9e829", func := "tambour/tambourlaw08.KnotsRings", spec := "knotsRings", unfollowed := true, recurses := true, apart := false }
def KnotsRingsSaid : Prop := knotsRingsRow.holds Try.pinned (OpenSpec.ofChange knotsRingsSpec)

/-- ITS FALSE NEIGHBOUR: 'it returns false'. Refute it at one input. -/
def knotsRingsWrong : ChangeSpec := { name := "knotsRings", fn := fun _ => fun
  | [d1, d2, d3] => { results := [.lit (.bool false)], args := [d1, d2, d3] }
  | _ => none }
def KnotsRingsWrongFalsely : Prop := knotsRingsRow.holds Try.pinned (OpenSpec.ofChange knotsRingsWrong)

/-- 'tambourlaw08.KnotsTurned': WHATEVER THE INPUT: true; the input reads as it did. -/
def knotsTurnedSpec : ChangeSpec := { name := "knotsTurned", fn := fun _ => fun
  | [d1, d2] => { results := [.lit (.bool true)], args := [d1, d2] }
  | _ => none }
def knotsTurnedRow : OpenClaim := { program := "ytgbeigippahbaaa", sum := "002e4348d667d7ecf26ef7d83ddb1ad1b1be1db186b9b9100f191d2d5ff9e829", func := "tambour/tambourlaw08.KnotsTurned", spec := "knotsTurned", unfollowed := true, recurses := true, apart := false }
def KnotsTurnedSaid : Prop := knotsTurnedRow.holds Try.pinned (OpenSpec.ofChange knotsTurnedSpec)

/-- ITS FALSE NEIGHBOUR: 'it returns false'. Refute it at one input. -/
def knotsTurnedWrong : ChangeSpec := { name := "knotsTurned", fn := fun _ => fun
  | [d1, d2] => { results := [.lit (.bool false)], args := [d1, d2] }
  | _ => none }
def KnotsTurnedWrongFalsely : Prop := knotsTurnedRow.holds Try.pinned (OpenSpec.ofChange knotsTurnedWrong)

/- THE SECOND FORM. 'bulk': how many values and letters a reading holds, each counted each time it is reached (what is shared counts as often as it is met; a slice's spare places count too). A statement '..UptoSaid' is the law's where the arguments, and the package variables that the reading takes, are together of bulk at most 1048576: NARROWER than '..Said'. Prove '..Said' where nothing that the law and all that it calls make is longer than what came in: it says more and counts as full. Else prove '..UptoSaid'. A law counts once. -/
mutual
def uptoBulk {H : Type} : DataW H → Nat
  | .lit (.string bytes) => bytes.length + 1
  | .lit _ => 1
  | .nil => 1
  | .ptr d => uptoBulk d + 1
  | .slice elems spare => uptoBulkAll elems + uptoBulkAll spare + 1
  | .agg parts => uptoBulkAll parts + 1
  | .iface _ d => uptoBulk d + 1
  | .map entries => uptoBulkEntries entries + 1
  | .held _ => 1
def uptoBulkAll {H : Type} : List (DataW H) → Nat
  | [] => 0
  | d :: r => uptoBulk d + uptoBulkAll r
def uptoBulkEntries {H : Type} : List (Lit × DataW H) → Nat
  | [] => 0
  | x :: r => uptoBulkEntry x + uptoBulkEntries r
def uptoBulkEntry {H : Type} : Lit × DataW H → Nat
  | (.string bytes, d) => bytes.length + uptoBulk d + 1
  | (_, d) => uptoBulk d + 1
 end
def uptoSmall : (H : Type) → List (DataW H) → Bool := fun _ ds => decide (uptoBulkAll ds ≤ 1048576)
def OpenSpec.upto (s : _root_.Go.ChangeSpec) : _root_.Go.OpenSpec := { _root_.Go.OpenSpec.ofChange s with cond := some uptoSmall }

/-- 'tambourlaw08.KnotsTells', WHERE WHAT IT READS IS OF BULK AT MOST 1048576: true; the input reads as it did. -/
def knotsTellsUptoRow : OpenClaim := { program := "ytgbeigippahbaaa", sum := "002e4348d667d7ecf26ef7d83ddb1ad1b1be1db186b9b9100f191d2d5ff9e829", func := "tambour/tambourlaw08.KnotsTells", spec := "knotsTells", unfollowed := true, recurses := true, apart := false, narrowed := true }
def KnotsTellsUptoSaid : Prop := knotsTellsUptoRow.holds Try.pinned (OpenSpec.upto knotsTellsSpec)

/-- 'tambourlaw08.KnotsSort', WHERE WHAT IT READS IS OF BULK AT MOST 1048576: true; the input reads as it did. -/
def knotsSortUptoRow : OpenClaim := { program := "ytgbeigippahbaaa", sum := "002e4348d667d7ecf26ef7d83ddb1ad1b1be1db186b9b9100f191d2d5ff9e829", func := "tambour/tambourlaw08.KnotsSort", spec := "knotsSort", unfollowed := true, recurses := true, apart := false, narrowed := true }
def KnotsSortUptoSaid : Prop := knotsSortUptoRow.holds Try.pinned (OpenSpec.upto knotsSortSpec)

/-- 'tambourlaw08.KnotsRings', WHERE WHAT IT READS IS OF BULK AT MOST 1048576: true; the input reads as it did. -/
def knotsRingsUptoRow : OpenClaim := { program := "ytgbeigippahbaaa", sum := "002e4348d667d7ecf26ef7d83ddb1ad1b1be1db186b9b9100f191d2d5ff9e829", func := "tambour/tambourlaw08.KnotsRings", spec := "knotsRings", unfollowed := true, recurses := true, apart := false, narrowed := true }
def KnotsRingsUptoSaid : Prop := knotsRingsUptoRow.holds Try.pinned (OpenSpec.upto knotsRingsSpec)

/-- 'tambourlaw08.KnotsTurned', WHERE WHAT IT READS IS OF BULK AT MOST 1048576: true; the input reads as it did. -/
def knotsTurnedUptoRow : OpenClaim := { program := "ytgbeigippahbaaa", sum := "002e4348d667d7ecf26ef7d83ddb1ad1b1be1db186b9b9100f191d2d5ff9e829", func := "tambour/tambourlaw08.KnotsTurned", spec := "knotsTurned", unfollowed := true, recurses := true, apart := false, narrowed := true }
def KnotsTurnedUptoSaid : Prop := knotsTurnedUptoRow.holds Try.pinned (OpenSpec.upto knotsTurnedSpec)

end Rows
end Go.Proofs.Ytgbeigippahbaaa
