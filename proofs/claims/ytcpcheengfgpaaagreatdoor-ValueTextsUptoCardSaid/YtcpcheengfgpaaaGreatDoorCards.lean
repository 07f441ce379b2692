/-
  DERIVED. GIVEN WITH THE SEED: THE CARDS: each row of YtcpcheengfgpaaaGreatDoorRows.lean that lists a variable, with what it lists TIED to the program's text (the seventh form; the later family's looks); each row that meets fmt, with fmt's text TOLD by the authors' own Lean function (tested against real Go, not proved from fmt's source: count such statements apart). THE CARD IS WHAT COUNTS. Prove the row's statement (the work); the ties are given (YtcpcheengfgpaaaGreatDoorTie.lean); close each card by the builder's one call (the guide's Derived/Test/ToyasCard.lean, 'card_holds'). Laid BY PROGRAM, IN A SANDBOX (cutbox-door.mjs). By AI agents, Wed Nov 11 2026. No macro, syntax, notation, axiom, sorry.
-/
import Derived.Test.YtcpcheengfgpaaaGreatDoorRows
import GoSem.ClaimSeven
namespace Go.Proofs.YtcpcheengfgpaaaGreatDoor
namespace Rows

/-- THE TIED CARD OF 'trefoillaw18.ValueTexts'. -/
def valueTextsCard : Claim7 := { stood := { row := valueTextsRow, standIns := [], harness := (true, "70fbb71d964a80a24d4fc2dbd572957d61a447805831404d4910f17b27ce57ec"), looks := true }, kinds := [], alts := [], laidByText := true, laidKinds := [.data, .data, .data, .data, .handle, .sentinel, .sentinel, .listed, .data, .pinned], laidTests := true, laidLooks := .later }
def ValueTextsCardSaid : Prop := Claim7.holds Tryz.pinned (.plain (OpenSpec.ofChange valueTextsSpec)) valueTextsCard

/-- THE SECOND FORM's CARD OF 'trefoillaw18.ValueTexts'. -/
def valueTextsUptoCard : Claim7 := { stood := { row := valueTextsUptoRow, standIns := [], harness := (true, "70fbb71d964a80a24d4fc2dbd572957d61a447805831404d4910f17b27ce57ec"), looks := true }, kinds := [], alts := [], laidByText := true, laidKinds := [.data, .data, .data, .data, .handle, .sentinel, .sentinel, .listed, .data, .pinned], laidTests := true, laidLooks := .later }
def ValueTextsUptoCardSaid : Prop := Claim7.holds Tryz.pinned (.plain (OpenSpec.upto valueTextsSpec)) valueTextsUptoCard
end Rows
end Go.Proofs.YtcpcheengfgpaaaGreatDoor
