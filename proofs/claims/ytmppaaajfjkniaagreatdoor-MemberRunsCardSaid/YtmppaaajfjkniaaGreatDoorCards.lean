/-
  DERIVED. GIVEN WITH THE SEED: THE CARDS: each row of YtmppaaajfjkniaaGreatDoorRows.lean that lists a variable, with what it lists TIED to the program's text (the seventh form; the later family's looks); each row that meets fmt, with fmt's text TOLD by the authors' own Lean function (tested against real Go, not proved from fmt's source: count such statements apart). THE CARD IS WHAT COUNTS. Prove the row's statement (the work); the ties are given (YtmppaaajfjkniaaGreatDoorTie.lean); close each card by the builder's one call (the guide's Derived/Test/ToyasCard.lean, 'card_holds'). Laid BY PROGRAM, IN A SANDBOX (cutbox-door.mjs). By AI agents, Wed Nov 11 2026. No macro, syntax, notation, axiom, sorry.
-/
import Derived.Test.YtmppaaajfjkniaaGreatDoorRows
import GoSem.ClaimSeven
namespace Go.Proofs.YtmppaaajfjkniaaGreatDoor
namespace Rows

/-- THE TIED CARD OF 'coillaw7.MemberRuns'. -/
def memberRunsCard : Claim7 := { stood := { row := memberRunsRow, standIns := [], harness := (true, "2e51db76569b33d5bb7d8a6ba683beb429f21f8d42dcf3dd3963c30c0032ef95"), looks := true }, kinds := [], alts := [], laidByText := true, laidKinds := [.data, .data, .data, .sentinel, .sentinel, .listed, .data], laidTests := true, laidLooks := .later }
def MemberRunsCardSaid : Prop := Claim7.holds Tryz.pinned (.plain (OpenSpec.ofChange memberRunsSpec)) memberRunsCard

/-- THE SECOND FORM's CARD OF 'coillaw7.MemberRuns'. -/
def memberRunsUptoCard : Claim7 := { stood := { row := memberRunsUptoRow, standIns := [], harness := (true, "2e51db76569b33d5bb7d8a6ba683beb429f21f8d42dcf3dd3963c30c0032ef95"), looks := true }, kinds := [], alts := [], laidByText := true, laidKinds := [.data, .data, .data, .sentinel, .sentinel, .listed, .data], laidTests := true, laidLooks := .later }
def MemberRunsUptoCardSaid : Prop := Claim7.holds Tryz.pinned (.plain (OpenSpec.upto memberRunsSpec)) memberRunsUptoCard
end Rows
end Go.Proofs.YtmppaaajfjkniaaGreatDoor
