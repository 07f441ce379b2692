/-
  DERIVED. GIVEN WITH THE SEED: THE CARDS: each row of YtlkfhbmjemjohaaGreatDoorRows.lean that lists a variable, with what it lists TIED to the program's text (the seventh form; the later family's looks); each row that meets fmt, with fmt's text TOLD by the authors' own Lean function (tested against real Go, not proved from fmt's source: count such statements apart). THE CARD IS WHAT COUNTS. Prove the row's statement (the work); the ties are given (YtlkfhbmjemjohaaGreatDoorTie.lean); close each card by the builder's one call (the guide's Derived/Test/ToyasCard.lean, 'card_holds'). Laid BY PROGRAM, IN A SANDBOX (cutbox-door.mjs). By AI agents, Wed Nov 11 2026. No macro, syntax, notation, axiom, sorry.
-/
import Derived.Test.YtlkfhbmjemjohaaGreatDoorRows
import GoSem.ClaimSeven
namespace Go.Proofs.YtlkfhbmjemjohaaGreatDoor
namespace Rows

/-- THE TIED CARD OF 'trefoillaw13.GenCopies'. -/
def genCopiesCard : Claim7 := { stood := { row := genCopiesRow, standIns := [], harness := (true, "abac2d08780b9ea20328d5d2086f55ffda1c4e0c72668fc0808547d7029729bb"), looks := true }, kinds := [], alts := [], laidByText := true, laidKinds := [.handle], laidTests := true, laidLooks := .later }
def GenCopiesCardSaid : Prop := Claim7.holds Tryz.pinned (.plain (OpenSpec.ofChange genCopiesSpec)) genCopiesCard

/-- THE SECOND FORM's CARD OF 'trefoillaw13.GenCopies'. -/
def genCopiesUptoCard : Claim7 := { stood := { row := genCopiesUptoRow, standIns := [], harness := (true, "abac2d08780b9ea20328d5d2086f55ffda1c4e0c72668fc0808547d7029729bb"), looks := true }, kinds := [], alts := [], laidByText := true, laidKinds := [.handle], laidTests := true, laidLooks := .later }
def GenCopiesUptoCardSaid : Prop := Claim7.holds Tryz.pinned (.plain (OpenSpec.upto genCopiesSpec)) genCopiesUptoCard
end Rows
end Go.Proofs.YtlkfhbmjemjohaaGreatDoor
