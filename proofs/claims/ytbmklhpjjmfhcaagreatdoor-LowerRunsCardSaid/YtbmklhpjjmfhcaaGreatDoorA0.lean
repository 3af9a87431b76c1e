/- Package-level variables that stay: which blocks, and what lies there. No premise; definitions alone. -/
import Derived.Orders
import Derived.Lib.Space
namespace Go.Ab
open Go
/-- strings.asciiSpace. -/
def GL : List (Nat × Array Value) := [(4, (Lib.asciiSpaceTab.map fun z => Value.int .u8 z).toArray)]
end Go.Ab
