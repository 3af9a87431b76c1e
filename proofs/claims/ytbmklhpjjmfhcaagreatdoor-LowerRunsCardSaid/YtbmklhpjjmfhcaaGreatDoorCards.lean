/-
  DERIVED. GIVEN WITH THE SEED: THE CARDS: each row of YtbmklhpjjmfhcaaGreatDoorRows.lean that lists a variable, with what it lists TIED to the program's text (the seventh form; the later family's looks); each row that meets fmt, with fmt's text TOLD by the authors' own Lean function (tested against real Go, not proved from fmt's source: count such statements apart). THE CARD IS WHAT COUNTS. Prove the row's statement (the work); the ties are given (YtbmklhpjjmfhcaaGreatDoorTie.lean); close each card by the builder's one call (the guide's Derived/Test/ToyasCard.lean, 'card_holds'). Laid BY PROGRAM, IN A SANDBOX (cutbox-door.mjs). By AI agents, Wed Nov 11 2026. No macro, syntax, notation, axiom, sorry.
-/
import Derived.Test.YtbmklhpjjmfhcaaGreatDoorRows
import GoSem.ClaimSeven
namespace Go.Proofs.YtbmklhpjjmfhcaaGreatDoor
namespace Rows

/-- THE TIED CARD OF 'coillaw13.LowerRuns'. -/
def lowerRunsCard : Claim7 := { stood := { row := lowerRunsRow, standIns := [], harness := (true, "b423a77bdaf1362422fefa21cf82e5fc0ead1daeffec4c9b99c36ac9d12bf789"), looks := true }, kinds := [], alts := [], laidByText := true, laidKinds := [.data, .data, .data, .data, .listed, .sentinel, .sentinel], laidTests := true, laidLooks := .later }
def LowerRunsCardSaid : Prop := Claim7.holds Tryz.pinned (.plain (OpenSpec.ofChange lowerRunsSpec)) lowerRunsCard

/-- THE SECOND FORM's CARD OF 'coillaw13.LowerRuns'. -/
def lowerRunsUptoCard : Claim7 := { stood := { row := lowerRunsUptoRow, standIns := [], harness := (true, "b423a77bdaf1362422fefa21cf82e5fc0ead1daeffec4c9b99c36ac9d12bf789"), looks := true }, kinds := [], alts := [], laidByText := true, laidKinds := [.data, .data, .data, .data, .listed, .sentinel, .sentinel], laidTests := true, laidLooks := .later }
def LowerRunsUptoCardSaid : Prop := Claim7.holds Tryz.pinned (.plain (OpenSpec.upto lowerRunsSpec)) lowerRunsUptoCard
end Rows
end Go.Proofs.YtbmklhpjjmfhcaaGreatDoor
