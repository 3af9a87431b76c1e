/- Package-level variables that stay: which blocks, and what lies there. No premise; definitions alone. -/
import Derived.Orders
import Derived.Lib.Space
import Derived.Lib.ItoaNum
namespace Go.Ab
open Go
/-- errors.errorType; strings.asciiSpace. -/
def GL : List (Nat × Array Value) := [(0, #[.iface 232 (.agg #[.pointer (some ⟨10, 24, none⟩)])]), (5, (Lib.asciiSpaceTab.map fun z => Value.int .u8 z).toArray), (1, (Lib.pow10Tab.map fun z => Value.int .u64 z).toArray)]
end Go.Ab
