/- The run of the closed sentence on the compiled machine: it comes to true. No premise. -/
import Derived.Test.YthjniafhfboggaaGreatDoorPD
import Derived.Test.YthjniafhfboggaaGreatDoorQB
namespace Go.AbN
open Go Go.Ab Go.AbQ
/-- What is looked at in the end. -/
def seen (r : V) (_ : SS) : Bool := match r with
  | .sc (.bool b) => b
  | _ => false
set_option maxRecDepth 1000000 in
set_option maxHeartbeats 400000000 in
theorem run_true : callC false KU Q 600 3 [] (enc ⟨[], 0⟩) seen = true := by kernel_rfl
end Go.AbN
