/-
  DERIVED. GIVEN WITH THE SEED: THE CARDS: each row of YtaleodkbghogfaaGreatDoorRows.lean that lists a variable, with what it lists TIED to the program's text (the seventh form; the later family's looks); each row that meets fmt, with fmt's text TOLD by the authors' own Lean function (tested against real Go, not proved from fmt's source: count such statements apart). THE CARD IS WHAT COUNTS. Prove the row's statement (the work); the ties are given (YtaleodkbghogfaaGreatDoorTie.lean); close each card by the builder's one call (the guide's Derived/Test/ToyasCard.lean, 'card_holds'). Laid BY PROGRAM, IN A SANDBOX (cutbox-door.mjs). By AI agents, Wed Nov 11 2026. No macro, syntax, notation, axiom, sorry.
-/
import Derived.Test.YtaleodkbghogfaaGreatDoorRows
import GoSem.ClaimSeven
namespace Go.Proofs.YtaleodkbghogfaaGreatDoor
namespace Rows

/-- THE TIED CARD OF 'trefoillaw09.CanonTwice'. -/
def canonTwiceCard : Claim7 := { stood := { row := canonTwiceRow, standIns := [], harness := (true, "83b0b473e4c5216b4a7c44acc01f08c92d93458327632413dfc7c510816840cf"), looks := true }, kinds := [], alts := [], laidByText := true, laidKinds := [.data, .data, .data, .data, .handle, .sentinel, .sentinel, .listed, .data, .pinned], laidTests := true, laidLooks := .later }
def CanonTwiceCardSaid : Prop := Claim7.holds Tryz.pinned (.plain (OpenSpec.ofChange canonTwiceSpec)) canonTwiceCard

/-- THE TIED CARD OF 'trefoillaw09.CanonRings'. -/
def canonRingsCard : Claim7 := { stood := { row := canonRingsRow, standIns := [], harness := (true, "83b0b473e4c5216b4a7c44acc01f08c92d93458327632413dfc7c510816840cf"), looks := true }, kinds := [], alts := [], laidByText := true, laidKinds := [.data, .data, .data, .data, .handle, .sentinel, .sentinel, .listed, .data, .pinned], laidTests := true, laidLooks := .later }
def CanonRingsCardSaid : Prop := Claim7.holds Tryz.pinned (.plain (OpenSpec.ofChange canonRingsSpec)) canonRingsCard

/-- THE TIED CARD OF 'trefoillaw09.CanonPairs'. -/
def canonPairsCard : Claim7 := { stood := { row := canonPairsRow, standIns := [], harness := (true, "83b0b473e4c5216b4a7c44acc01f08c92d93458327632413dfc7c510816840cf"), looks := true }, kinds := [], alts := [], laidByText := true, laidKinds := [.data, .data, .data, .data, .handle, .sentinel, .sentinel, .listed, .data, .pinned], laidTests := true, laidLooks := .later }
def CanonPairsCardSaid : Prop := Claim7.holds Tryz.pinned (.plain (OpenSpec.ofChange canonPairsSpec)) canonPairsCard

/-- THE TIED CARD OF 'trefoillaw09.CanonSame'. -/
def canonSameCard : Claim7 := { stood := { row := canonSameRow, standIns := [], harness := (true, "83b0b473e4c5216b4a7c44acc01f08c92d93458327632413dfc7c510816840cf"), looks := true }, kinds := [], alts := [], laidByText := true, laidKinds := [.data, .data, .data, .data, .handle, .sentinel, .sentinel, .listed, .data, .pinned], laidTests := true, laidLooks := .later }
def CanonSameCardSaid : Prop := Claim7.holds Tryz.pinned (.plain (OpenSpec.ofChange canonSameSpec)) canonSameCard

/-- THE TIED CARD OF 'trefoillaw09.CanonAgain'. -/
def canonAgainCard : Claim7 := { stood := { row := canonAgainRow, standIns := [], harness := (true, "83b0b473e4c5216b4a7c44acc01f08c92d93458327632413dfc7c510816840cf"), looks := true }, kinds := [], alts := [], laidByText := true, laidKinds := [.data, .data, .data, .data, .handle, .sentinel, .sentinel, .listed, .data, .pinned], laidTests := true, laidLooks := .later }
def CanonAgainCardSaid : Prop := Claim7.holds Tryz.pinned (.plain (OpenSpec.ofChange canonAgainSpec)) canonAgainCard

/-- THE SECOND FORM's CARD OF 'trefoillaw09.CanonTwice'. -/
def canonTwiceUptoCard : Claim7 := { stood := { row := canonTwiceUptoRow, standIns := [], harness := (true, "83b0b473e4c5216b4a7c44acc01f08c92d93458327632413dfc7c510816840cf"), looks := true }, kinds := [], alts := [], laidByText := true, laidKinds := [.data, .data, .data, .data, .handle, .sentinel, .sentinel, .listed, .data, .pinned], laidTests := true, laidLooks := .later }
def CanonTwiceUptoCardSaid : Prop := Claim7.holds Tryz.pinned (.plain (OpenSpec.upto canonTwiceSpec)) canonTwiceUptoCard

/-- THE SECOND FORM's CARD OF 'trefoillaw09.CanonRings'. -/
def canonRingsUptoCard : Claim7 := { stood := { row := canonRingsUptoRow, standIns := [], harness := (true, "83b0b473e4c5216b4a7c44acc01f08c92d93458327632413dfc7c510816840cf"), looks := true }, kinds := [], alts := [], laidByText := true, laidKinds := [.data, .data, .data, .data, .handle, .sentinel, .sentinel, .listed, .data, .pinned], laidTests := true, laidLooks := .later }
def CanonRingsUptoCardSaid : Prop := Claim7.holds Tryz.pinned (.plain (OpenSpec.upto canonRingsSpec)) canonRingsUptoCard

/-- THE SECOND FORM's CARD OF 'trefoillaw09.CanonPairs'. -/
def canonPairsUptoCard : Claim7 := { stood := { row := canonPairsUptoRow, standIns := [], harness := (true, "83b0b473e4c5216b4a7c44acc01f08c92d93458327632413dfc7c510816840cf"), looks := true }, kinds := [], alts := [], laidByText := true, laidKinds := [.data, .data, .data, .data, .handle, .sentinel, .sentinel, .listed, .data, .pinned], laidTests := true, laidLooks := .later }
def CanonPairsUptoCardSaid : Prop := Claim7.holds Tryz.pinned (.plain (OpenSpec.upto canonPairsSpec)) canonPairsUptoCard

/-- THE SECOND FORM's CARD OF 'trefoillaw09.CanonSame'. -/
def canonSameUptoCard : Claim7 := { stood := { row := canonSameUptoRow, standIns := [], harness := (true, "83b0b473e4c5216b4a7c44acc01f08c92d93458327632413dfc7c510816840cf"), looks := true }, kinds := [], alts := [], laidByText := true, laidKinds := [.data, .data, .data, .data, .handle, .sentinel, .sentinel, .listed, .data, .pinned], laidTests := true, laidLooks := .later }
def CanonSameUptoCardSaid : Prop := Claim7.holds Tryz.pinned (.plain (OpenSpec.upto canonSameSpec)) canonSameUptoCard

/-- THE SECOND FORM's CARD OF 'trefoillaw09.CanonAgain'. -/
def canonAgainUptoCard : Claim7 := { stood := { row := canonAgainUptoRow, standIns := [], harness := (true, "83b0b473e4c5216b4a7c44acc01f08c92d93458327632413dfc7c510816840cf"), looks := true }, kinds := [], alts := [], laidByText := true, laidKinds := [.data, .data, .data, .data, .handle, .sentinel, .sentinel, .listed, .data, .pinned], laidTests := true, laidLooks := .later }
def CanonAgainUptoCardSaid : Prop := Claim7.holds Tryz.pinned (.plain (OpenSpec.upto canonAgainSpec)) canonAgainUptoCard
end Rows
end Go.Proofs.YtaleodkbghogfaaGreatDoor
