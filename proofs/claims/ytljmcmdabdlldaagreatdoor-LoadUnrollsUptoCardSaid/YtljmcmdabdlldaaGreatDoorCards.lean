/-
  DERIVED. GIVEN WITH THE SEED: THE CARDS: each row of YtljmcmdabdlldaaGreatDoorRows.lean that lists a variable, with what it lists TIED to the program's text (the seventh form; the later family's looks); each row that meets fmt, with fmt's text TOLD by the authors' own Lean function (tested against real Go, not proved from fmt's source: count such statements apart). THE CARD IS WHAT COUNTS. Prove the row's statement (the work); the ties are given (YtljmcmdabdlldaaGreatDoorTie.lean); close each card by the builder's one call (the guide's Derived/Test/ToyasCard.lean, 'card_holds'). Laid BY PROGRAM, IN A SANDBOX (cutbox-door.mjs). By AI agents, Wed Nov 11 2026. No macro, syntax, notation, axiom, sorry.
-/
import Derived.Test.YtljmcmdabdlldaaGreatDoorRows
import GoSem.ClaimSeven
namespace Go.Proofs.YtljmcmdabdlldaaGreatDoor
namespace Rows

/-- THE TIED CARD OF 'trefoillaw07.LoadMay'. -/
def loadMayCard : Claim7 := { stood := { row := loadMayRow, standIns := [], harness := (true, "ee2d563c41c344d811603f4fd201502b7a2e43ce6ecaec13eeebb98fe3eb21a3"), looks := true }, kinds := [], alts := [], laidByText := true, laidKinds := [.data, .data, .data, .data, .handle, .sentinel, .sentinel, .listed, .data, .pinned], laidTests := true, laidLooks := .later }
def LoadMayCardSaid : Prop := Claim7.holds Tryz.pinned (.plain (OpenSpec.ofChange loadMaySpec)) loadMayCard

/-- THE TIED CARD OF 'trefoillaw07.LoadNames'. -/
def loadNamesCard : Claim7 := { stood := { row := loadNamesRow, standIns := [], harness := (true, "ee2d563c41c344d811603f4fd201502b7a2e43ce6ecaec13eeebb98fe3eb21a3"), looks := true }, kinds := [], alts := [], laidByText := true, laidKinds := [.data, .data, .data, .data, .handle, .sentinel, .sentinel, .listed, .data, .pinned], laidTests := true, laidLooks := .later }
def LoadNamesCardSaid : Prop := Claim7.holds Tryz.pinned (.plain (OpenSpec.ofChange loadNamesSpec)) loadNamesCard

/-- THE TIED CARD OF 'trefoillaw07.LoadUnrolls'. -/
def loadUnrollsCard : Claim7 := { stood := { row := loadUnrollsRow, standIns := [], harness := (true, "ee2d563c41c344d811603f4fd201502b7a2e43ce6ecaec13eeebb98fe3eb21a3"), looks := true }, kinds := [], alts := [], laidByText := true, laidKinds := [.data, .data, .data, .data, .handle, .sentinel, .sentinel, .listed, .data, .pinned], laidTests := true, laidLooks := .later }
def LoadUnrollsCardSaid : Prop := Claim7.holds Tryz.pinned (.plain (OpenSpec.ofChange loadUnrollsSpec)) loadUnrollsCard

/-- THE TIED CARD OF 'trefoillaw07.LoadReads'. -/
def loadReadsCard : Claim7 := { stood := { row := loadReadsRow, standIns := [], harness := (true, "ee2d563c41c344d811603f4fd201502b7a2e43ce6ecaec13eeebb98fe3eb21a3"), looks := true }, kinds := [], alts := [], laidByText := true, laidKinds := [.data, .data, .data, .data, .handle, .sentinel, .sentinel, .listed, .data, .pinned], laidTests := true, laidLooks := .later }
def LoadReadsCardSaid : Prop := Claim7.holds Tryz.pinned (.plain (OpenSpec.ofChange loadReadsSpec)) loadReadsCard

/-- THE SECOND FORM's CARD OF 'trefoillaw07.LoadMay'. -/
def loadMayUptoCard : Claim7 := { stood := { row := loadMayUptoRow, standIns := [], harness := (true, "ee2d563c41c344d811603f4fd201502b7a2e43ce6ecaec13eeebb98fe3eb21a3"), looks := true }, kinds := [], alts := [], laidByText := true, laidKinds := [.data, .data, .data, .data, .handle, .sentinel, .sentinel, .listed, .data, .pinned], laidTests := true, laidLooks := .later }
def LoadMayUptoCardSaid : Prop := Claim7.holds Tryz.pinned (.plain (OpenSpec.upto loadMaySpec)) loadMayUptoCard

/-- THE SECOND FORM's CARD OF 'trefoillaw07.LoadNames'. -/
def loadNamesUptoCard : Claim7 := { stood := { row := loadNamesUptoRow, standIns := [], harness := (true, "ee2d563c41c344d811603f4fd201502b7a2e43ce6ecaec13eeebb98fe3eb21a3"), looks := true }, kinds := [], alts := [], laidByText := true, laidKinds := [.data, .data, .data, .data, .handle, .sentinel, .sentinel, .listed, .data, .pinned], laidTests := true, laidLooks := .later }
def LoadNamesUptoCardSaid : Prop := Claim7.holds Tryz.pinned (.plain (OpenSpec.upto loadNamesSpec)) loadNamesUptoCard

/-- THE SECOND FORM's CARD OF 'trefoillaw07.LoadUnrolls'. -/
def loadUnrollsUptoCard : Claim7 := { stood := { row := loadUnrollsUptoRow, standIns := [], harness := (true, "ee2d563c41c344d811603f4fd201502b7a2e43ce6ecaec13eeebb98fe3eb21a3"), looks := true }, kinds := [], alts := [], laidByText := true, laidKinds := [.data, .data, .data, .data, .handle, .sentinel, .sentinel, .listed, .data, .pinned], laidTests := true, laidLooks := .later }
def LoadUnrollsUptoCardSaid : Prop := Claim7.holds Tryz.pinned (.plain (OpenSpec.upto loadUnrollsSpec)) loadUnrollsUptoCard

/-- THE SECOND FORM's CARD OF 'trefoillaw07.LoadReads'. -/
def loadReadsUptoCard : Claim7 := { stood := { row := loadReadsUptoRow, standIns := [], harness := (true, "ee2d563c41c344d811603f4fd201502b7a2e43ce6ecaec13eeebb98fe3eb21a3"), looks := true }, kinds := [], alts := [], laidByText := true, laidKinds := [.data, .data, .data, .data, .handle, .sentinel, .sentinel, .listed, .data, .pinned], laidTests := true, laidLooks := .later }
def LoadReadsUptoCardSaid : Prop := Claim7.holds Tryz.pinned (.plain (OpenSpec.upto loadReadsSpec)) loadReadsUptoCard
end Rows
end Go.Proofs.YtljmcmdabdlldaaGreatDoor
