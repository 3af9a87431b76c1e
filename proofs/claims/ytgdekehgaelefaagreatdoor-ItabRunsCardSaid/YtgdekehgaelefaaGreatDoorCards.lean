/-
  DERIVED. GIVEN WITH THE SEED: THE CARDS: each row of YtgdekehgaelefaaGreatDoorRows.lean that lists a variable, with what it lists TIED to the program's text (the seventh form; the later family's looks); each row that meets fmt, with fmt's text TOLD by the authors' own Lean function (tested against real Go, not proved from fmt's source: count such statements apart). THE CARD IS WHAT COUNTS. Prove the row's statement (the work); the ties are given (YtgdekehgaelefaaGreatDoorTie.lean); close each card by the builder's one call (the guide's Derived/Test/ToyasCard.lean, 'card_holds'). Laid BY PROGRAM, IN A SANDBOX (cutbox-door.mjs). By AI agents, Wed Nov 11 2026. No macro, syntax, notation, axiom, sorry.
-/
import Derived.Test.YtgdekehgaelefaaGreatDoorRows
import GoSem.ClaimSeven
namespace Go.Proofs.YtgdekehgaelefaaGreatDoor
namespace Rows

/-- THE TIED CARD OF 'coillaw12.ItabRuns'. -/
def itabRunsCard : Claim7 := { stood := { row := itabRunsRow, standIns := [], harness := (true, "8f0fc6dd0256bfff6312188fee148266a5d6776408d370b68b9808d1e2dbe338"), looks := true }, kinds := [], alts := [], laidByText := true, laidKinds := [.data, .data, .data, .sentinel, .sentinel, .listed, .data], laidTests := true, laidLooks := .later }
def ItabRunsCardSaid : Prop := Claim7.holds Tryz.pinned (.plain (OpenSpec.ofChange itabRunsSpec)) itabRunsCard

/-- THE SECOND FORM's CARD OF 'coillaw12.ItabRuns'. -/
def itabRunsUptoCard : Claim7 := { stood := { row := itabRunsUptoRow, standIns := [], harness := (true, "8f0fc6dd0256bfff6312188fee148266a5d6776408d370b68b9808d1e2dbe338"), looks := true }, kinds := [], alts := [], laidByText := true, laidKinds := [.data, .data, .data, .sentinel, .sentinel, .listed, .data], laidTests := true, laidLooks := .later }
def ItabRunsUptoCardSaid : Prop := Claim7.holds Tryz.pinned (.plain (OpenSpec.upto itabRunsSpec)) itabRunsUptoCard
end Rows
end Go.Proofs.YtgdekehgaelefaaGreatDoor
