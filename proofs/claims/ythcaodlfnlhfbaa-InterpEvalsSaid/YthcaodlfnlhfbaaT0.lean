/- The interpreter over trees: what is known of the package-level variables that the program's library texts read: none. -/
import Derived.WalkKit
import Derived.RowKit
namespace Go.Proofs.YthcaodlfnlhfbaaT
open Go
/-- By number: what a variable's cells hold. -/
def GL : List (Nat × (Array Value → Prop)) := []
end Go.Proofs.YthcaodlfnlhfbaaT
