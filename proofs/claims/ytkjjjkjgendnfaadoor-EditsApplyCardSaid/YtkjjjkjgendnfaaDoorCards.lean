/-
  DERIVED. GIVEN WITH THE SEED: THE CARDS: each row of YtkjjjkjgendnfaaDoorRows.lean that lists a variable, with what it lists TIED to the program's text (the seventh form; the later family's looks); each row that meets fmt, with fmt's text TOLD by the authors' own Lean function (tested against real Go, not proved from fmt's source: count such statements apart). THE CARD IS WHAT COUNTS. Prove the row's statement (the work); the ties are given (YtkjjjkjgendnfaaDoorTie.lean); close each card by the builder's one call (the guide's Derived/Test/ToyasCard.lean, 'card_holds'). Laid BY PROGRAM, IN A SANDBOX (cutbox-door.mjs). By AI agents, Wed Nov 11 2026. No macro, syntax, notation, axiom, sorry.
-/
import Derived.Test.YtkjjjkjgendnfaaDoorRows
import GoSem.ClaimSeven
namespace Go.Proofs.YtkjjjkjgendnfaaDoor
namespace Rows

/-- THE TIED CARD OF 'tambourlaw02.EditsApply'. -/
def editsApplyCard : Claim7 := { stood := { row := editsApplyRow, standIns := [], harness := (true, "b91ff4b4238598e40a0c0e624543ea6a691d2ef9df5e362bbf97a0a2b25bdb4f"), looks := true }, kinds := [], alts := [], laidByText := true, laidKinds := [.handle], laidTests := true, laidLooks := .later }
def EditsApplyCardSaid : Prop := Claim7.holds Tryd.pinned (.plain (OpenSpec.ofChange editsApplySpec)) editsApplyCard

/-- THE SECOND FORM's CARD OF 'tambourlaw02.EditsApply'. -/
def editsApplyUptoCard : Claim7 := { stood := { row := editsApplyUptoRow, standIns := [], harness := (true, "b91ff4b4238598e40a0c0e624543ea6a691d2ef9df5e362bbf97a0a2b25bdb4f"), looks := true }, kinds := [], alts := [], laidByText := true, laidKinds := [.handle], laidTests := true, laidLooks := .later }
def EditsApplyUptoCardSaid : Prop := Claim7.holds Tryd.pinned (.plain (OpenSpec.upto editsApplySpec)) editsApplyUptoCard
end Rows
end Go.Proofs.YtkjjjkjgendnfaaDoor
