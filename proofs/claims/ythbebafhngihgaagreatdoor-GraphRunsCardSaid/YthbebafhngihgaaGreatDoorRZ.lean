/- GraphRuns answers true: the card of its row. No condition. -/
import Derived.Test.YthbebafhngihgaaGreatDoorRS
import Derived.Test.YthbebafhngihgaaGreatDoorR9
import Derived.Test.YthbebafhngihgaaGreatDoorRC
namespace Go.Proofs.YthbebafhngihgaaGreatDoor
open Go Go.AbN

/-- The card. -/
theorem graphRuns_holds : Rows.GraphRunsCardSaid := by
  obtain ⟨σ, h⟩ := runs_true
  exact Runs.card fun _ hL may => Runs.walk (sound1 2001) h hL may
#print axioms graphRuns_holds
end Go.Proofs.YthbebafhngihgaaGreatDoor
