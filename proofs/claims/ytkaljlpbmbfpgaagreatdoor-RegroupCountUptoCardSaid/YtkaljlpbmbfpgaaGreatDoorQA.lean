/- The seat's tables: what strconv.Itoa reads, and the most that internal/bytealg looks through. -/
import Derived.Lib.ItoaNum
import Derived.Lib.LaidTab
import Derived.Calls
namespace Go.Pu
/-- package-level variables' blocks, and what is known of their cells -/
def seatTabs : List (Nat × (Array Value → Prop)) :=
 [(1, fun c => c = (Lib.pow10Tab.map fun z => Value.int .u64 z).toArray), (0, fun c => ∃ m, c[0]? = some (.int .i64 m))]
end Go.Pu
