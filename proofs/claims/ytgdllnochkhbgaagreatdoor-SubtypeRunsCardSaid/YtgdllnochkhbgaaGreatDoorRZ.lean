/- SubtypeRuns answers true: the card of its row. No condition. -/
import Derived.Test.YtgdllnochkhbgaaGreatDoorRS
import Derived.Test.YtgdllnochkhbgaaGreatDoorRC
namespace Go.Proofs.YtgdllnochkhbgaaGreatDoor
open Go Go.AbN

/-- The card. -/
theorem subtypeRuns_holds : Rows.SubtypeRunsCardSaid := by
  obtain ⟨σ, h⟩ := answers
  exact Runs.card fun _ hL may => Runs.walk (sound 600) h hL may
#print axioms subtypeRuns_holds
end Go.Proofs.YtgdllnochkhbgaaGreatDoor
