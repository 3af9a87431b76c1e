/-
  DERIVED. GIVEN WITH THE SEED: THE CARDS: each row of YtccpbgbemeibcaaGreatDoorRows.lean that lists a variable, with what it lists TIED to the program's text (the seventh form; the later family's looks); each row that meets fmt, with fmt's text TOLD by the authors' own Lean function (tested against real Go, not proved from fmt's source: count such statements apart). THE CARD IS WHAT COUNTS. Prove the row's statement (the work); the ties are given (YtccpbgbemeibcaaGreatDoorTie.lean); close each card by the builder's one call (the guide's Derived/Test/ToyasCard.lean, 'card_holds'). Laid BY PROGRAM, IN A SANDBOX (cutbox-door.mjs). By AI agents, Wed Nov 11 2026. No macro, syntax, notation, axiom, sorry.
-/
import Derived.Test.YtccpbgbemeibcaaGreatDoorRows
import GoSem.ClaimSeven
namespace Go.Proofs.YtccpbgbemeibcaaGreatDoor
namespace Rows

/-- THE TIED CARD OF 'coillaw6.CanonRuns'. -/
def canonRunsCard : Claim7 := { stood := { row := canonRunsRow, standIns := [], harness := (true, "2a722dab2234a6ce2b3455bf648e10a8881aff6c8ff959ad0f91a583d33c0330"), looks := true }, kinds := [], alts := [], laidByText := true, laidKinds := [.data, .data, .data, .sentinel, .sentinel, .listed, .data], laidTests := true, laidLooks := .later }
def CanonRunsCardSaid : Prop := Claim7.holds Tryz.pinned (.plain (OpenSpec.ofChange canonRunsSpec)) canonRunsCard

/-- THE SECOND FORM's CARD OF 'coillaw6.CanonRuns'. -/
def canonRunsUptoCard : Claim7 := { stood := { row := canonRunsUptoRow, standIns := [], harness := (true, "2a722dab2234a6ce2b3455bf648e10a8881aff6c8ff959ad0f91a583d33c0330"), looks := true }, kinds := [], alts := [], laidByText := true, laidKinds := [.data, .data, .data, .sentinel, .sentinel, .listed, .data], laidTests := true, laidLooks := .later }
def CanonRunsUptoCardSaid : Prop := Claim7.holds Tryz.pinned (.plain (OpenSpec.upto canonRunsSpec)) canonRunsUptoCard
end Rows
end Go.Proofs.YtccpbgbemeibcaaGreatDoor
