/-
  DERIVED. GIVEN WITH THE SEED: THE CARDS: each row of YtbafalfmgibnfaaGreatDoorRows.lean that lists a variable, with what it lists TIED to the program's text (the seventh form; the later family's looks); each row that meets fmt, with fmt's text TOLD by the authors' own Lean function (tested against real Go, not proved from fmt's source: count such statements apart). THE CARD IS WHAT COUNTS. Prove the row's statement (the work); the ties are given (YtbafalfmgibnfaaGreatDoorTie.lean); close each card by the builder's one call (the guide's Derived/Test/ToyasCard.lean, 'card_holds'). Laid BY PROGRAM, IN A SANDBOX (cutbox-door.mjs). By AI agents, Wed Nov 11 2026. No macro, syntax, notation, axiom, sorry.
-/
import Derived.Test.YtbafalfmgibnfaaGreatDoorRows
import GoSem.ClaimSeven
namespace Go.Proofs.YtbafalfmgibnfaaGreatDoor
namespace Rows

/-- THE TIED CARD OF 'trefoillaw03.TypOrders'. -/
def typOrdersCard : Claim7 := { stood := { row := typOrdersRow, standIns := [], harness := (true, "34d39dc5ad044f2da5ac5faadb1bad66a8d05a8fab0cb5e5b5645d81503691a2"), looks := true }, kinds := [], alts := [], laidByText := true, laidKinds := [.data, .data, .data, .data, .handle, .sentinel, .sentinel, .listed, .data, .pinned], laidTests := true, laidLooks := .later }
def TypOrdersCardSaid : Prop := Claim7.holds Tryz.pinned (.plain (OpenSpec.ofChange typOrdersSpec)) typOrdersCard

/-- THE TIED CARD OF 'trefoillaw03.TypArrows'. -/
def typArrowsCard : Claim7 := { stood := { row := typArrowsRow, standIns := [], harness := (true, "34d39dc5ad044f2da5ac5faadb1bad66a8d05a8fab0cb5e5b5645d81503691a2"), looks := true }, kinds := [], alts := [], laidByText := true, laidKinds := [.data, .data, .data, .data, .handle, .sentinel, .sentinel, .listed, .data, .pinned], laidTests := true, laidLooks := .later }
def TypArrowsCardSaid : Prop := Claim7.holds Tryz.pinned (.plain (OpenSpec.ofChange typArrowsSpec)) typArrowsCard

/-- THE TIED CARD OF 'trefoillaw03.TypObjects'. -/
def typObjectsCard : Claim7 := { stood := { row := typObjectsRow, standIns := [], harness := (true, "34d39dc5ad044f2da5ac5faadb1bad66a8d05a8fab0cb5e5b5645d81503691a2"), looks := true }, kinds := [], alts := [], laidByText := true, laidKinds := [.data, .data, .data, .data, .handle, .sentinel, .sentinel, .listed, .data, .pinned], laidTests := true, laidLooks := .later }
def TypObjectsCardSaid : Prop := Claim7.holds Tryz.pinned (.plain (OpenSpec.ofChange typObjectsSpec)) typObjectsCard

/-- THE SECOND FORM's CARD OF 'trefoillaw03.TypOrders'. -/
def typOrdersUptoCard : Claim7 := { stood := { row := typOrdersUptoRow, standIns := [], harness := (true, "34d39dc5ad044f2da5ac5faadb1bad66a8d05a8fab0cb5e5b5645d81503691a2"), looks := true }, kinds := [], alts := [], laidByText := true, laidKinds := [.data, .data, .data, .data, .handle, .sentinel, .sentinel, .listed, .data, .pinned], laidTests := true, laidLooks := .later }
def TypOrdersUptoCardSaid : Prop := Claim7.holds Tryz.pinned (.plain (OpenSpec.upto typOrdersSpec)) typOrdersUptoCard

/-- THE SECOND FORM's CARD OF 'trefoillaw03.TypArrows'. -/
def typArrowsUptoCard : Claim7 := { stood := { row := typArrowsUptoRow, standIns := [], harness := (true, "34d39dc5ad044f2da5ac5faadb1bad66a8d05a8fab0cb5e5b5645d81503691a2"), looks := true }, kinds := [], alts := [], laidByText := true, laidKinds := [.data, .data, .data, .data, .handle, .sentinel, .sentinel, .listed, .data, .pinned], laidTests := true, laidLooks := .later }
def TypArrowsUptoCardSaid : Prop := Claim7.holds Tryz.pinned (.plain (OpenSpec.upto typArrowsSpec)) typArrowsUptoCard

/-- THE SECOND FORM's CARD OF 'trefoillaw03.TypObjects'. -/
def typObjectsUptoCard : Claim7 := { stood := { row := typObjectsUptoRow, standIns := [], harness := (true, "34d39dc5ad044f2da5ac5faadb1bad66a8d05a8fab0cb5e5b5645d81503691a2"), looks := true }, kinds := [], alts := [], laidByText := true, laidKinds := [.data, .data, .data, .data, .handle, .sentinel, .sentinel, .listed, .data, .pinned], laidTests := true, laidLooks := .later }
def TypObjectsUptoCardSaid : Prop := Claim7.holds Tryz.pinned (.plain (OpenSpec.upto typObjectsSpec)) typObjectsUptoCard
end Rows
end Go.Proofs.YtbafalfmgibnfaaGreatDoor
