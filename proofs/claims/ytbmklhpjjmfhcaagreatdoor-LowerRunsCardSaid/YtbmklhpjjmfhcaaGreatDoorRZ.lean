/- LowerRuns answers true: the card of its row. No condition. -/
import Derived.Test.YtbmklhpjjmfhcaaGreatDoorRS
import Derived.Test.YtbmklhpjjmfhcaaGreatDoorRC
namespace Go.Proofs.YtbmklhpjjmfhcaaGreatDoor
open Go Go.AbN

/-- The card. -/
theorem lowerRuns_holds : Rows.LowerRunsCardSaid := by
  obtain ⟨σ, h⟩ := answers
  exact Runs.card fun _ hL may => Runs.walk (sound 600) h hL may
#print axioms lowerRuns_holds
end Go.Proofs.YtbmklhpjjmfhcaaGreatDoor
