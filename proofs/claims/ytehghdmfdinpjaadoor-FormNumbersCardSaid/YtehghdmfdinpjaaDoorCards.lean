/-
  DERIVED. GIVEN WITH THE SEED: THE CARDS: each row of YtehghdmfdinpjaaDoorRows.lean that lists a variable, with what it lists TIED to the program's text (the seventh form; the later family's looks); each row that meets fmt, with fmt's text TOLD by the authors' own Lean function (tested against real Go, not proved from fmt's source: count such statements apart). THE CARD IS WHAT COUNTS. Prove the row's statement (the work); the ties are given (YtehghdmfdinpjaaDoorTie.lean); close each card by the builder's one call (the guide's Derived/Test/ToyasCard.lean, 'card_holds'). Laid BY PROGRAM, IN A SANDBOX (cutbox-door.mjs). By AI agents, Wed Nov 11 2026. No macro, syntax, notation, axiom, sorry.
-/
import Derived.Test.YtehghdmfdinpjaaDoorRows
import GoSem.ClaimSeven
namespace Go.Proofs.YtehghdmfdinpjaaDoor
namespace Rows

/-- THE TIED CARD OF 'tambourlaw04.FormApart'. -/
def formApartCard : Claim7 := { stood := { row := formApartRow, standIns := [], harness := (true, "d5d0a71cab2cb22722e5f25dcefda3ee3903fee9e51de89e45a6f9dd0194537c"), looks := true }, kinds := [], alts := [], laidByText := true, laidKinds := [.data, .data, .data], laidTests := true, laidLooks := .later }
def FormApartCardSaid : Prop := Claim7.holds Tryd.pinned (.plain (OpenSpec.ofChange formApartSpec)) formApartCard

/-- THE TIED CARD OF 'tambourlaw04.FormWrites'. -/
def formWritesCard : Claim7 := { stood := { row := formWritesRow, standIns := [], harness := (true, "d5d0a71cab2cb22722e5f25dcefda3ee3903fee9e51de89e45a6f9dd0194537c"), looks := true }, kinds := [], alts := [], laidByText := true, laidKinds := [.data, .data, .data, .handle], laidTests := true, laidLooks := .later }
def FormWritesCardSaid : Prop := Claim7.holds Tryd.pinned (.plain (OpenSpec.ofChange formWritesSpec)) formWritesCard

/-- THE TIED CARD OF 'tambourlaw04.FormReads'. -/
def formReadsCard : Claim7 := { stood := { row := formReadsRow, standIns := [], harness := (true, "d5d0a71cab2cb22722e5f25dcefda3ee3903fee9e51de89e45a6f9dd0194537c"), looks := true }, kinds := [], alts := [], laidByText := true, laidKinds := [.data, .data, .data, .handle], laidTests := true, laidLooks := .later }
def FormReadsCardSaid : Prop := Claim7.holds Tryd.pinned (.plain (OpenSpec.ofChange formReadsSpec)) formReadsCard

/-- THE TIED CARD OF 'tambourlaw04.FormCuts'. -/
def formCutsCard : Claim7 := { stood := { row := formCutsRow, standIns := [], harness := (true, "d5d0a71cab2cb22722e5f25dcefda3ee3903fee9e51de89e45a6f9dd0194537c"), looks := true }, kinds := [], alts := [], laidByText := true, laidKinds := [.data, .data, .data, .handle], laidTests := true, laidLooks := .later }
def FormCutsCardSaid : Prop := Claim7.holds Tryd.pinned (.plain (OpenSpec.ofChange formCutsSpec)) formCutsCard

/-- THE TIED CARD OF 'tambourlaw04.FormNumbers'. -/
def formNumbersCard : Claim7 := { stood := { row := formNumbersRow, standIns := [], harness := (true, "d5d0a71cab2cb22722e5f25dcefda3ee3903fee9e51de89e45a6f9dd0194537c"), looks := true }, kinds := [], alts := [], laidByText := true, laidKinds := [.data, .data, .data, .handle, .sentinel, .sentinel], laidTests := true, laidLooks := .later }
def FormNumbersCardSaid : Prop := Claim7.holds Tryd.pinned (.plain (OpenSpec.ofChange formNumbersSpec)) formNumbersCard

/-- THE SECOND FORM's CARD OF 'tambourlaw04.FormApart'. -/
def formApartUptoCard : Claim7 := { stood := { row := formApartUptoRow, standIns := [], harness := (true, "d5d0a71cab2cb22722e5f25dcefda3ee3903fee9e51de89e45a6f9dd0194537c"), looks := true }, kinds := [], alts := [], laidByText := true, laidKinds := [.data, .data, .data], laidTests := true, laidLooks := .later }
def FormApartUptoCardSaid : Prop := Claim7.holds Tryd.pinned (.plain (OpenSpec.upto formApartSpec)) formApartUptoCard

/-- THE SECOND FORM's CARD OF 'tambourlaw04.FormWrites'. -/
def formWritesUptoCard : Claim7 := { stood := { row := formWritesUptoRow, standIns := [], harness := (true, "d5d0a71cab2cb22722e5f25dcefda3ee3903fee9e51de89e45a6f9dd0194537c"), looks := true }, kinds := [], alts := [], laidByText := true, laidKinds := [.data, .data, .data, .handle], laidTests := true, laidLooks := .later }
def FormWritesUptoCardSaid : Prop := Claim7.holds Tryd.pinned (.plain (OpenSpec.upto formWritesSpec)) formWritesUptoCard

/-- THE SECOND FORM's CARD OF 'tambourlaw04.FormReads'. -/
def formReadsUptoCard : Claim7 := { stood := { row := formReadsUptoRow, standIns := [], harness := (true, "d5d0a71cab2cb22722e5f25dcefda3ee3903fee9e51de89e45a6f9dd0194537c"), looks := true }, kinds := [], alts := [], laidByText := true, laidKinds := [.data, .data, .data, .handle], laidTests := true, laidLooks := .later }
def FormReadsUptoCardSaid : Prop := Claim7.holds Tryd.pinned (.plain (OpenSpec.upto formReadsSpec)) formReadsUptoCard

/-- THE SECOND FORM's CARD OF 'tambourlaw04.FormCuts'. -/
def formCutsUptoCard : Claim7 := { stood := { row := formCutsUptoRow, standIns := [], harness := (true, "d5d0a71cab2cb22722e5f25dcefda3ee3903fee9e51de89e45a6f9dd0194537c"), looks := true }, kinds := [], alts := [], laidByText := true, laidKinds := [.data, .data, .data, .handle], laidTests := true, laidLooks := .later }
def FormCutsUptoCardSaid : Prop := Claim7.holds Tryd.pinned (.plain (OpenSpec.upto formCutsSpec)) formCutsUptoCard

/-- THE SECOND FORM's CARD OF 'tambourlaw04.FormNumbers'. -/
def formNumbersUptoCard : Claim7 := { stood := { row := formNumbersUptoRow, standIns := [], harness := (true, "d5d0a71cab2cb22722e5f25dcefda3ee3903fee9e51de89e45a6f9dd0194537c"), looks := true }, kinds := [], alts := [], laidByText := true, laidKinds := [.data, .data, .data, .handle, .sentinel, .sentinel], laidTests := true, laidLooks := .later }
def FormNumbersUptoCardSaid : Prop := Claim7.holds Tryd.pinned (.plain (OpenSpec.upto formNumbersSpec)) formNumbersUptoCard
end Rows
end Go.Proofs.YtehghdmfdinpjaaDoor
