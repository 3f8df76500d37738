/- The seat's tables: none. -/
import Derived.Calls
namespace Go.Pu
/-- package-level variables' blocks, and what is known of their cells -/
def seatTabs : List (Nat × (Array Value → Prop)) := []
end Go.Pu
