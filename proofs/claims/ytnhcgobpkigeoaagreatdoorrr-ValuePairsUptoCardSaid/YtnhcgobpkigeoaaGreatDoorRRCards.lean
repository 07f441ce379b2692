/-
  DERIVED. GIVEN WITH THE SEED: THE CARDS: each row of YtnhcgobpkigeoaaGreatDoorRRRows.lean that lists a variable, with what it lists TIED to the program's text (the seventh form; the later family's looks); each row that meets fmt, with fmt's text TOLD by the authors' own Lean function (tested against real Go, not proved from fmt's source: count such statements apart). THE CARD IS WHAT COUNTS. Prove the row's statement (the work); the ties are given (YtnhcgobpkigeoaaGreatDoorRRTie.lean); close each card by the builder's one call (the guide's Derived/Test/ToyasCard.lean, 'card_holds'). Laid BY PROGRAM, IN A SANDBOX (cutbox-door.mjs). By AI agents, Wed Nov 11 2026. No macro, syntax, notation, axiom, sorry.
-/
import Derived.Test.YtnhcgobpkigeoaaGreatDoorRRRows
import GoSem.ClaimSeven
namespace Go.Proofs.YtnhcgobpkigeoaaGreatDoorRR
namespace Rows

/-- THE TIED CARD OF 'trefoillaw18.ValuePairs'. -/
def valuePairsCard : Claim7 := { stood := { row := valuePairsRow, standIns := [], harness := (true, "7ce8ad43f08f43a2bc49afe96795a7835d2d40eeebc2ce746d8914666a550aa8"), looks := true }, kinds := [], alts := [], laidByText := true, laidKinds := [.data, .data, .data, .data, .handle, .sentinel, .sentinel, .listed, .data, .pinned], laidTests := true, laidLooks := .later }
def ValuePairsCardSaid : Prop := Claim7.holds Tryz.pinned (.plain (OpenSpec.ofChange valuePairsSpec)) valuePairsCard

/-- THE SECOND FORM's CARD OF 'trefoillaw18.ValuePairs'. -/
def valuePairsUptoCard : Claim7 := { stood := { row := valuePairsUptoRow, standIns := [], harness := (true, "7ce8ad43f08f43a2bc49afe96795a7835d2d40eeebc2ce746d8914666a550aa8"), looks := true }, kinds := [], alts := [], laidByText := true, laidKinds := [.data, .data, .data, .data, .handle, .sentinel, .sentinel, .listed, .data, .pinned], laidTests := true, laidLooks := .later }
def ValuePairsUptoCardSaid : Prop := Claim7.holds Tryz.pinned (.plain (OpenSpec.upto valuePairsSpec)) valuePairsUptoCard
end Rows
end Go.Proofs.YtnhcgobpkigeoaaGreatDoorRR
