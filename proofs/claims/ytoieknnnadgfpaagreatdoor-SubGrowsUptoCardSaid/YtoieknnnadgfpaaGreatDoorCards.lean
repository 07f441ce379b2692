/-
  DERIVED. GIVEN WITH THE SEED: THE CARDS: each row of YtoieknnnadgfpaaGreatDoorRows.lean that lists a variable, with what it lists TIED to the program's text (the seventh form; the later family's looks); each row that meets fmt, with fmt's text TOLD by the authors' own Lean function (tested against real Go, not proved from fmt's source: count such statements apart). THE CARD IS WHAT COUNTS. Prove the row's statement (the work); the ties are given (YtoieknnnadgfpaaGreatDoorTie.lean); close each card by the builder's one call (the guide's Derived/Test/ToyasCard.lean, 'card_holds'). Laid BY PROGRAM, IN A SANDBOX (cutbox-door.mjs). By AI agents, Wed Nov 11 2026. No macro, syntax, notation, axiom, sorry.
-/
import Derived.Test.YtoieknnnadgfpaaGreatDoorRows
import GoSem.ClaimSeven
namespace Go.Proofs.YtoieknnnadgfpaaGreatDoor
namespace Rows

/-- THE TIED CARD OF 'trefoillaw12.SubSame'. -/
def subSameCard : Claim7 := { stood := { row := subSameRow, standIns := [], harness := (true, "a19c22c553edafd6e5b9d9eda8cb2dfe7ed887f345c78652593ebbb29450df8e"), looks := true }, kinds := [], alts := [], laidByText := true, laidKinds := [.data, .data, .data, .data, .handle, .sentinel, .sentinel, .listed, .data, .pinned], laidTests := true, laidLooks := .later }
def SubSameCardSaid : Prop := Claim7.holds Tryz.pinned (.plain (OpenSpec.ofChange subSameSpec)) subSameCard

/-- THE TIED CARD OF 'trefoillaw12.SubPairs'. -/
def subPairsCard : Claim7 := { stood := { row := subPairsRow, standIns := [], harness := (true, "a19c22c553edafd6e5b9d9eda8cb2dfe7ed887f345c78652593ebbb29450df8e"), looks := true }, kinds := [], alts := [], laidByText := true, laidKinds := [.data, .data, .data, .data, .handle, .sentinel, .sentinel, .listed, .data, .pinned], laidTests := true, laidLooks := .later }
def SubPairsCardSaid : Prop := Claim7.holds Tryz.pinned (.plain (OpenSpec.ofChange subPairsSpec)) subPairsCard

/-- THE TIED CARD OF 'trefoillaw12.SubGrows'. -/
def subGrowsCard : Claim7 := { stood := { row := subGrowsRow, standIns := [], harness := (true, "a19c22c553edafd6e5b9d9eda8cb2dfe7ed887f345c78652593ebbb29450df8e"), looks := true }, kinds := [], alts := [], laidByText := true, laidKinds := [.data, .data, .data, .data, .handle, .sentinel, .sentinel, .listed, .data, .pinned], laidTests := true, laidLooks := .later }
def SubGrowsCardSaid : Prop := Claim7.holds Tryz.pinned (.plain (OpenSpec.ofChange subGrowsSpec)) subGrowsCard

/-- THE TIED CARD OF 'trefoillaw12.SubForgets'. -/
def subForgetsCard : Claim7 := { stood := { row := subForgetsRow, standIns := [], harness := (true, "a19c22c553edafd6e5b9d9eda8cb2dfe7ed887f345c78652593ebbb29450df8e"), looks := true }, kinds := [], alts := [], laidByText := true, laidKinds := [.data, .data, .data, .data, .handle, .sentinel, .sentinel, .listed, .data, .pinned], laidTests := true, laidLooks := .later }
def SubForgetsCardSaid : Prop := Claim7.holds Tryz.pinned (.plain (OpenSpec.ofChange subForgetsSpec)) subForgetsCard

/-- THE TIED CARD OF 'trefoillaw12.SubOrders'. -/
def subOrdersCard : Claim7 := { stood := { row := subOrdersRow, standIns := [], harness := (true, "a19c22c553edafd6e5b9d9eda8cb2dfe7ed887f345c78652593ebbb29450df8e"), looks := true }, kinds := [], alts := [], laidByText := true, laidKinds := [.data, .data, .data, .data, .handle, .sentinel, .sentinel, .listed, .data, .pinned], laidTests := true, laidLooks := .later }
def SubOrdersCardSaid : Prop := Claim7.holds Tryz.pinned (.plain (OpenSpec.ofChange subOrdersSpec)) subOrdersCard

/-- THE SECOND FORM's CARD OF 'trefoillaw12.SubSame'. -/
def subSameUptoCard : Claim7 := { stood := { row := subSameUptoRow, standIns := [], harness := (true, "a19c22c553edafd6e5b9d9eda8cb2dfe7ed887f345c78652593ebbb29450df8e"), looks := true }, kinds := [], alts := [], laidByText := true, laidKinds := [.data, .data, .data, .data, .handle, .sentinel, .sentinel, .listed, .data, .pinned], laidTests := true, laidLooks := .later }
def SubSameUptoCardSaid : Prop := Claim7.holds Tryz.pinned (.plain (OpenSpec.upto subSameSpec)) subSameUptoCard

/-- THE SECOND FORM's CARD OF 'trefoillaw12.SubPairs'. -/
def subPairsUptoCard : Claim7 := { stood := { row := subPairsUptoRow, standIns := [], harness := (true, "a19c22c553edafd6e5b9d9eda8cb2dfe7ed887f345c78652593ebbb29450df8e"), looks := true }, kinds := [], alts := [], laidByText := true, laidKinds := [.data, .data, .data, .data, .handle, .sentinel, .sentinel, .listed, .data, .pinned], laidTests := true, laidLooks := .later }
def SubPairsUptoCardSaid : Prop := Claim7.holds Tryz.pinned (.plain (OpenSpec.upto subPairsSpec)) subPairsUptoCard

/-- THE SECOND FORM's CARD OF 'trefoillaw12.SubGrows'. -/
def subGrowsUptoCard : Claim7 := { stood := { row := subGrowsUptoRow, standIns := [], harness := (true, "a19c22c553edafd6e5b9d9eda8cb2dfe7ed887f345c78652593ebbb29450df8e"), looks := true }, kinds := [], alts := [], laidByText := true, laidKinds := [.data, .data, .data, .data, .handle, .sentinel, .sentinel, .listed, .data, .pinned], laidTests := true, laidLooks := .later }
def SubGrowsUptoCardSaid : Prop := Claim7.holds Tryz.pinned (.plain (OpenSpec.upto subGrowsSpec)) subGrowsUptoCard

/-- THE SECOND FORM's CARD OF 'trefoillaw12.SubForgets'. -/
def subForgetsUptoCard : Claim7 := { stood := { row := subForgetsUptoRow, standIns := [], harness := (true, "a19c22c553edafd6e5b9d9eda8cb2dfe7ed887f345c78652593ebbb29450df8e"), looks := true }, kinds := [], alts := [], laidByText := true, laidKinds := [.data, .data, .data, .data, .handle, .sentinel, .sentinel, .listed, .data, .pinned], laidTests := true, laidLooks := .later }
def SubForgetsUptoCardSaid : Prop := Claim7.holds Tryz.pinned (.plain (OpenSpec.upto subForgetsSpec)) subForgetsUptoCard

/-- THE SECOND FORM's CARD OF 'trefoillaw12.SubOrders'. -/
def subOrdersUptoCard : Claim7 := { stood := { row := subOrdersUptoRow, standIns := [], harness := (true, "a19c22c553edafd6e5b9d9eda8cb2dfe7ed887f345c78652593ebbb29450df8e"), looks := true }, kinds := [], alts := [], laidByText := true, laidKinds := [.data, .data, .data, .data, .handle, .sentinel, .sentinel, .listed, .data, .pinned], laidTests := true, laidLooks := .later }
def SubOrdersUptoCardSaid : Prop := Claim7.holds Tryz.pinned (.plain (OpenSpec.upto subOrdersSpec)) subOrdersUptoCard
end Rows
end Go.Proofs.YtoieknnnadgfpaaGreatDoor
