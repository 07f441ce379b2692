/-
  DERIVED. GIVEN WITH THE SEED: THE CARDS: each row of YtlkfhbmjemjohaaDoorRows.lean that lists a variable, with what it lists TIED to the program's text (the seventh form; the later family's looks); each row that meets fmt, with fmt's text TOLD by the authors' own Lean function (tested against real Go, not proved from fmt's source: count such statements apart). THE CARD IS WHAT COUNTS. Prove the row's statement (the work); the ties are given (YtlkfhbmjemjohaaDoorTie.lean); close each card by the builder's one call (the guide's Derived/Test/ToyasCard.lean, 'card_holds'). Laid BY PROGRAM, IN A SANDBOX (cutbox-door.mjs). By AI agents, Wed Nov 11 2026. No macro, syntax, notation, axiom, sorry.
-/
import Derived.Test.YtlkfhbmjemjohaaDoorRows
import GoSem.ClaimSeven
namespace Go.Proofs.YtlkfhbmjemjohaaDoor
namespace Rows

/-- THE TIED CARD OF 'trefoillaw13.GenMonos'. -/
def genMonosCard : Claim7 := { stood := { row := genMonosRow, standIns := [], harness := (true, "7b8bf939c0bb15f5284840e87f875331947a59bc9dde58231a8434ed0a19c55a"), looks := false }, kinds := [], alts := [], laidByText := true, laidKinds := [.data, .data, .data], laidTests := true, laidLooks := .later }
def GenMonosCardSaid : Prop := Claim7.holds Tryd.pinned (.plain (OpenSpec.ofChange genMonosSpec)) genMonosCard

/-- THE SECOND FORM's CARD OF 'trefoillaw13.GenMonos'. -/
def genMonosUptoCard : Claim7 := { stood := { row := genMonosUptoRow, standIns := [], harness := (true, "7b8bf939c0bb15f5284840e87f875331947a59bc9dde58231a8434ed0a19c55a"), looks := false }, kinds := [], alts := [], laidByText := true, laidKinds := [.data, .data, .data], laidTests := true, laidLooks := .later }
def GenMonosUptoCardSaid : Prop := Claim7.holds Tryd.pinned (.plain (OpenSpec.upto genMonosSpec)) genMonosUptoCard
end Rows
end Go.Proofs.YtlkfhbmjemjohaaDoor
