/- The interpreter over trees: what is known of the package-level variables that the program's library texts read. -/
import Derived.WalkKit
import Derived.RowKit
import Derived.Lib.ItoaNum
import Derived.Shelf.Unicode.DecodeSlow
namespace Go.Proofs.YthcaodlfnlhfbaaDoorT
open Go
/-- By number: what a variable's cells hold. -/
def GL : List (Nat × (Array Value → Prop)) :=
  [(0, fun cs => ∀ c : Nat, c < 256 → cs[c]? = some (.int .u8 (Lib.firstT c))),
   (1, fun cs => ∀ i : Nat, i < 16 → cs[2 * i]? = some (.int .u8 (Lib.accLo i)) ∧ cs[2 * i + 1]? = some (.int .u8 (Lib.accHi i))),
   (2, fun cs => ∃ t p, cs[0]? = some (.iface t p)),
   (3, fun cs => ∃ t p, cs[0]? = some (.iface t p)),
   (4, fun cs => cs = (Lib.pow10Tab.map fun z => Value.int .u64 z).toArray)]
end Go.Proofs.YthcaodlfnlhfbaaDoorT
