/-
  DERIVED. GIVEN WITH THE SEED: THE CARDS: each row of YtpdnfaggdheneaaDoorRows.lean that lists a variable, with what it lists TIED to the program's text (the seventh form; the later family's looks); each row that meets fmt, with fmt's text TOLD by the authors' own Lean function (tested against real Go, not proved from fmt's source: count such statements apart). THE CARD IS WHAT COUNTS. Prove the row's statement (the work); the ties are given (YtpdnfaggdheneaaDoorTie.lean); close each card by the builder's one call (the guide's Derived/Test/ToyasCard.lean, 'card_holds'). Laid BY PROGRAM, IN A SANDBOX (cutbox-door.mjs). By AI agents, Wed Nov 11 2026. No macro, syntax, notation, axiom, sorry.
-/
import Derived.Test.YtpdnfaggdheneaaDoorRows
import GoSem.ClaimSeven
namespace Go.Proofs.YtpdnfaggdheneaaDoor
namespace Rows

/-- THE TIED CARD OF 'tambourlaw12.SectorFuel'. -/
def sectorFuelCard : Claim7 := { stood := { row := sectorFuelRow, standIns := [], harness := (true, "dc2eb83f774201425c02f51a28e6d4aec20857b65312abe05cc2ea54531a3ca3"), looks := true }, kinds := [], alts := [], laidByText := true, laidKinds := [.handle], laidTests := true, laidLooks := .later }
def SectorFuelCardSaid : Prop := Claim7.holds Tryd.pinned (.plain (OpenSpec.ofChange sectorFuelSpec)) sectorFuelCard

/-- THE TIED CARD OF 'tambourlaw12.SectorRuns'. -/
def sectorRunsCard : Claim7 := { stood := { row := sectorRunsRow, standIns := [], harness := (true, "dc2eb83f774201425c02f51a28e6d4aec20857b65312abe05cc2ea54531a3ca3"), looks := true }, kinds := [], alts := [], laidByText := true, laidKinds := [.handle], laidTests := true, laidLooks := .later }
def SectorRunsCardSaid : Prop := Claim7.holds Tryd.pinned (.plain (OpenSpec.ofChange sectorRunsSpec)) sectorRunsCard

/-- THE SECOND FORM's CARD OF 'tambourlaw12.SectorFuel'. -/
def sectorFuelUptoCard : Claim7 := { stood := { row := sectorFuelUptoRow, standIns := [], harness := (true, "dc2eb83f774201425c02f51a28e6d4aec20857b65312abe05cc2ea54531a3ca3"), looks := true }, kinds := [], alts := [], laidByText := true, laidKinds := [.handle], laidTests := true, laidLooks := .later }
def SectorFuelUptoCardSaid : Prop := Claim7.holds Tryd.pinned (.plain (OpenSpec.upto sectorFuelSpec)) sectorFuelUptoCard

/-- THE SECOND FORM's CARD OF 'tambourlaw12.SectorRuns'. -/
def sectorRunsUptoCard : Claim7 := { stood := { row := sectorRunsUptoRow, standIns := [], harness := (true, "dc2eb83f774201425c02f51a28e6d4aec20857b65312abe05cc2ea54531a3ca3"), looks := true }, kinds := [], alts := [], laidByText := true, laidKinds := [.handle], laidTests := true, laidLooks := .later }
def SectorRunsUptoCardSaid : Prop := Claim7.holds Tryd.pinned (.plain (OpenSpec.upto sectorRunsSpec)) sectorRunsUptoCard
end Rows
end Go.Proofs.YtpdnfaggdheneaaDoor
