/- ItabRuns answers true: the card of its row. No condition. -/
import Derived.Test.YtgdekehgaelefaaGreatDoorRS
import Derived.Test.YtgdekehgaelefaaGreatDoorRC
namespace Go.Proofs.YtgdekehgaelefaaGreatDoor
open Go Go.AbN

/-- The card. -/
theorem itabRuns_holds : Rows.ItabRunsCardSaid := by
  obtain ⟨σ, h⟩ := answers
  exact Runs.card fun _ hL may => Runs.walk (sound 600) h hL may
#print axioms itabRuns_holds
end Go.Proofs.YtgdekehgaelefaaGreatDoor
