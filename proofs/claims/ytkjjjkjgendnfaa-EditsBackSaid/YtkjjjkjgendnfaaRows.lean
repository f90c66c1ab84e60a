/-
  No cell of these rows narrows 'for every input' (looked for: loops, veiled, ifaces, maps, wideKeys, modest, calm, conditions, laid).
  DERIVED. THE GIVEN ROWS OF THIS SEAT. 3 by the template 'for every input the law returns true; each argument reads behind the call as it read before'; 0 by the template 'total and deterministic' (their statements: YtkjjjkjgendnfaaTotals.lean).
  GIVEN WITH THE SEED: the statements are not yours to turn. If you find one false, say at which input.
  Laid BY PROGRAM, IN A SANDBOX (cutbox-rows.mjs): the forced cells as the released guide's own fill.sh prints them over the translation 7c16598d104e3afe… (all of the seat's roots in one cut). By AI agents, Wed Nov 11 2026. No macro, syntax, notation, axiom, sorry.
-/
import Derived.Test.YtkjjjkjgendnfaaChecked
import GoSem.Claim
import GoSem.ClaimJoined
import GoSem.ClaimMapViews
import Derived.JoinedTies
import Derived.KernelRfl
namespace Go.Proofs.Ytkjjjkjgendnfaa
/- THE CELL 'sum', in the pinned program and in every row, IS THE sha256 OF THE DUMP (.gsa) THAT YtkjjjkjgendnfaaProg.lean LOADS. Nothing in Lean hashes anything: it is a label: what it is worth is what the hold of that sum in a sandbox is worth. -/
noncomputable def Try.pinned : Pinned := { name := "ytkjjjkjgendnfaa", sum := "7c16598d104e3afe25243d3e27acb281a5d1edadcfce4940bb2f9eefc5917629", checked := Try.checked }
namespace Rows
def none {H : Type} : Left H := { results := [], args := [] }

/-- 'tambourlaw02.EditsDiff': WHATEVER THE INPUT: true; the input reads as it did. -/
def editsDiffSpec : ChangeSpec := { name := "editsDiff", fn := fun _ => fun
  | [d1, d2] => { results := [.lit (.bool true)], args := [d1, d2] }
  | _ => none }
def editsDiffRow : OpenClaim := { program := "ytkjjjkjgendnfaa", sum := "7c16598d104e3afe25243d3e27acb281a5d1edadcfce4940bb2f9eefc5917629", func := "tambour/tambourlaw02.EditsDiff", spec := "editsDiff", apart := false }
def EditsDiffSaid : Prop := editsDiffRow.holds Try.pinned (OpenSpec.ofChange editsDiffSpec)

/-- ITS FALSE NEIGHBOUR: 'it returns false'. Refute it at one input. -/
def editsDiffWrong : ChangeSpec := { name := "editsDiff", fn := fun _ => fun
  | [d1, d2] => { results := [.lit (.bool false)], args := [d1, d2] }
  | _ => none }
def EditsDiffWrongFalsely : Prop := editsDiffRow.holds Try.pinned (OpenSpec.ofChange editsDiffWrong)

/-- 'tambourlaw02.EditsTurned': WHATEVER THE INPUT: true; the input reads as it did. -/
def editsTurnedSpec : ChangeSpec := { name := "editsTurned", fn := fun _ => fun
  | [d1, d2] => { results := [.lit (.bool true)], args := [d1, d2] }
  | _ => none }
def editsTurnedRow : OpenClaim := { program := "ytkjjjkjgendnfaa", sum := "7c16598d104e3afe25243d3e27acb281a5d1edadcfce4940bb2f9eefc5917629", func := "tambour/tambourlaw02.EditsTurned", spec := "editsTurned", apart := false }
def EditsTurnedSaid : Prop := editsTurnedRow.holds Try.pinned (OpenSpec.ofChange editsTurnedSpec)

/-- ITS FALSE NEIGHBOUR: 'it returns false'. Refute it at one input. -/
def editsTurnedWrong : ChangeSpec := { name := "editsTurned", fn := fun _ => fun
  | [d1, d2] => { results := [.lit (.bool false)], args := [d1, d2] }
  | _ => none }
def EditsTurnedWrongFalsely : Prop := editsTurnedRow.holds Try.pinned (OpenSpec.ofChange editsTurnedWrong)

/-- 'tambourlaw02.EditsBack': WHATEVER THE INPUT: true; the input reads as it did. -/
def editsBackSpec : ChangeSpec := { name := "editsBack", fn := fun _ => fun
  | [d1, d2] => { results := [.lit (.bool true)], args := [d1, d2] }
  | _ => none }
def editsBackRow : OpenClaim := { program := "ytkjjjkjgendnfaa", sum := "7c16598d104e3afe25243d3e27acb281a5d1edadcfce4940bb2f9eefc5917629", func := "tambour/tambourlaw02.EditsBack", spec := "editsBack", apart := false }
def EditsBackSaid : Prop := editsBackRow.holds Try.pinned (OpenSpec.ofChange editsBackSpec)

/-- ITS FALSE NEIGHBOUR: 'it returns false'. Refute it at one input. -/
def editsBackWrong : ChangeSpec := { name := "editsBack", fn := fun _ => fun
  | [d1, d2] => { results := [.lit (.bool false)], args := [d1, d2] }
  | _ => none }
def EditsBackWrongFalsely : Prop := editsBackRow.holds Try.pinned (OpenSpec.ofChange editsBackWrong)

/- THE SECOND FORM. 'bulk': how many values and letters a reading holds, each counted each time it is reached (what is shared counts as often as it is met; a slice's spare places count too). A statement '..UptoSaid' is the law's where the arguments, and the package variables that the reading takes, are together of bulk at most 1048576: NARROWER than '..Said'. Prove '..Said' where nothing that the law and all that it calls make is longer than what came in: it says more and counts as full. Else prove '..UptoSaid'. A law counts once. -/
mutual
def uptoBulk {H : Type} : DataW H → Nat
  | .lit (.string bytes) => bytes.length + 1
  | .lit _ => 1
  | .nil => 1
  | .ptr d => uptoBulk d + 1
  | .slice elems spare => uptoBulkAll elems + uptoBulkAll spare + 1
  | .agg parts => uptoBulkAll parts + 1
  | .iface _ d => uptoBulk d + 1
  | .map entries => uptoBulkEntries entries + 1
  | .held _ => 1
def uptoBulkAll {H : Type} : List (DataW H) → Nat
  | [] => 0
  | d :: r => uptoBulk d + uptoBulkAll r
def uptoBulkEntries {H : Type} : List (Lit × DataW H) → Nat
  | [] => 0
  | x :: r => uptoBulkEntry x + uptoBulkEntries r
def uptoBulkEntry {H : Type} : Lit × DataW H → Nat
  | (.string bytes, d) => bytes.length + uptoBulk d + 1
  | (_, d) => uptoBulk d + 1
 end
def uptoSmall : (H : Type) → List (DataW H) → Bool := fun _ ds => decide (uptoBulkAll ds ≤ 1048576)
def OpenSpec.upto (s : _root_.Go.ChangeSpec) : _root_.Go.OpenSpec := { _root_.Go.OpenSpec.ofChange s with cond := some uptoSmall }

/-- 'tambourlaw02.EditsDiff', WHERE WHAT IT READS IS OF BULK AT MOST 1048576: true; the input reads as it did. -/
def editsDiffUptoRow : OpenClaim := { program := "ytkjjjkjgendnfaa", sum := "7c16598d104e3afe25243d3e27acb281a5d1edadcfce4940bb2f9eefc5917629", func := "tambour/tambourlaw02.EditsDiff", spec := "editsDiff", apart := false, narrowed := true }
def EditsDiffUptoSaid : Prop := editsDiffUptoRow.holds Try.pinned (OpenSpec.upto editsDiffSpec)

/-- 'tambourlaw02.EditsTurned', WHERE WHAT IT READS IS OF BULK AT MOST 1048576: true; the input reads as it did. -/
def editsTurnedUptoRow : OpenClaim := { program := "ytkjjjkjgendnfaa", sum := "7c16598d104e3afe25243d3e27acb281a5d1edadcfce4940bb2f9eefc5917629", func := "tambour/tambourlaw02.EditsTurned", spec := "editsTurned", apart := false, narrowed := true }
def EditsTurnedUptoSaid : Prop := editsTurnedUptoRow.holds Try.pinned (OpenSpec.upto editsTurnedSpec)

/-- 'tambourlaw02.EditsBack', WHERE WHAT IT READS IS OF BULK AT MOST 1048576: true; the input reads as it did. -/
def editsBackUptoRow : OpenClaim := { program := "ytkjjjkjgendnfaa", sum := "7c16598d104e3afe25243d3e27acb281a5d1edadcfce4940bb2f9eefc5917629", func := "tambour/tambourlaw02.EditsBack", spec := "editsBack", apart := false, narrowed := true }
def EditsBackUptoSaid : Prop := editsBackUptoRow.holds Try.pinned (OpenSpec.upto editsBackSpec)

end Rows
end Go.Proofs.Ytkjjjkjgendnfaa
