/- CanonRuns answers true: the card of its row. No condition. -/
import Derived.Test.YtccpbgbemeibcaaGreatDoorRS
import Derived.Test.YtccpbgbemeibcaaGreatDoorRC
namespace Go.Proofs.YtccpbgbemeibcaaGreatDoor
open Go Go.AbN

/-- The card. -/
theorem canonRuns_holds : Rows.CanonRunsCardSaid := by
  obtain ⟨σ, h⟩ := answers
  exact Runs.card fun _ hL may => Runs.walk (sound 600) h hL may
#print axioms canonRuns_holds
end Go.Proofs.YtccpbgbemeibcaaGreatDoor
