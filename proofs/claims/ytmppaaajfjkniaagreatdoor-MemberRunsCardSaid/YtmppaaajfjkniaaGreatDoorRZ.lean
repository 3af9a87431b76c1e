/- MemberRuns answers true: the card of its row. No condition. -/
import Derived.Test.YtmppaaajfjkniaaGreatDoorRS
import Derived.Test.YtmppaaajfjkniaaGreatDoorRC
namespace Go.Proofs.YtmppaaajfjkniaaGreatDoor
open Go Go.AbN

/-- The card. -/
theorem memberRuns_holds : Rows.MemberRunsCardSaid := by
  obtain ⟨σ, h⟩ := answers
  exact Runs.card fun _ hL may => Runs.walk (sound 600) h hL may
#print axioms memberRuns_holds
end Go.Proofs.YtmppaaajfjkniaaGreatDoor
