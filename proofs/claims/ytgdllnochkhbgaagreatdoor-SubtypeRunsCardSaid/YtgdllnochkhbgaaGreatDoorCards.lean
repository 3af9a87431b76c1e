/-
  DERIVED. GIVEN WITH THE SEED: THE CARDS: each row of YtgdllnochkhbgaaGreatDoorRows.lean that lists a variable, with what it lists TIED to the program's text (the seventh form; the later family's looks); each row that meets fmt, with fmt's text TOLD by the authors' own Lean function (tested against real Go, not proved from fmt's source: count such statements apart). THE CARD IS WHAT COUNTS. Prove the row's statement (the work); the ties are given (YtgdllnochkhbgaaGreatDoorTie.lean); close each card by the builder's one call (the guide's Derived/Test/ToyasCard.lean, 'card_holds'). Laid BY PROGRAM, IN A SANDBOX (cutbox-door.mjs). By AI agents, Wed Nov 11 2026. No macro, syntax, notation, axiom, sorry.
-/
import Derived.Test.YtgdllnochkhbgaaGreatDoorRows
import GoSem.ClaimSeven
namespace Go.Proofs.YtgdllnochkhbgaaGreatDoor
namespace Rows

/-- THE TIED CARD OF 'coillaw8.SubtypeRuns'. -/
def subtypeRunsCard : Claim7 := { stood := { row := subtypeRunsRow, standIns := [], harness := (true, "52ff0d56f8b38410ef1195f3594971b22bcbd091b950425c4eb89b199f12e894"), looks := true }, kinds := [], alts := [], laidByText := true, laidKinds := [.data, .data, .data, .handle, .sentinel, .sentinel, .listed, .data], laidTests := true, laidLooks := .later }
def SubtypeRunsCardSaid : Prop := Claim7.holds Tryz.pinned (.plain (OpenSpec.ofChange subtypeRunsSpec)) subtypeRunsCard

/-- THE SECOND FORM's CARD OF 'coillaw8.SubtypeRuns'. -/
def subtypeRunsUptoCard : Claim7 := { stood := { row := subtypeRunsUptoRow, standIns := [], harness := (true, "52ff0d56f8b38410ef1195f3594971b22bcbd091b950425c4eb89b199f12e894"), looks := true }, kinds := [], alts := [], laidByText := true, laidKinds := [.data, .data, .data, .handle, .sentinel, .sentinel, .listed, .data], laidTests := true, laidLooks := .later }
def SubtypeRunsUptoCardSaid : Prop := Claim7.holds Tryz.pinned (.plain (OpenSpec.upto subtypeRunsSpec)) subtypeRunsUptoCard
end Rows
end Go.Proofs.YtgdllnochkhbgaaGreatDoor
