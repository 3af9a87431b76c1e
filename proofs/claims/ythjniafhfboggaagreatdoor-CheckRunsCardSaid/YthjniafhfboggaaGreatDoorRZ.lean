/- CheckRuns answers true: the card of its row. No condition. -/
import Derived.Test.YthjniafhfboggaaGreatDoorRS
import Derived.Test.YthjniafhfboggaaGreatDoorRC
namespace Go.Proofs.YthjniafhfboggaaGreatDoor
open Go Go.AbN

/-- The card. -/
theorem checkRuns_holds : Rows.CheckRunsCardSaid := by
  obtain ⟨σ, h⟩ := answers
  exact Runs.card fun _ hL may => Runs.walk (sound 600) h hL may
#print axioms checkRuns_holds
end Go.Proofs.YthjniafhfboggaaGreatDoor
