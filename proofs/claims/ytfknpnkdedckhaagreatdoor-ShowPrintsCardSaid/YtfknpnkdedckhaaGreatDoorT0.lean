/- The interpreter over trees: what is known of the package-level variables that the program's library texts read. -/
import Derived.WalkKit
import Derived.RowKit
import Derived.Lib.ItoaNum
import Derived.Shelf.Unicode.DecodeSlow
namespace Go.Proofs.YtfknpnkdedckhaaGreatDoorT
open Go
def errP (cs : Array Value) : Prop := ∃ t p, cs[0]? = some (.iface t p)
def powP (cs : Array Value) : Prop := cs = (Lib.pow10Tab.map fun z => Value.int .u64 z).toArray
def firstP (cs : Array Value) : Prop := ∀ c : Nat, c < 256 → cs[c]? = some (.int .u8 (Lib.firstT c))
def acceptP (cs : Array Value) : Prop := ∀ i : Nat, i < 16 → cs[2 * i]? = some (.int .u8 (Lib.accLo i)) ∧ cs[2 * i + 1]? = some (.int .u8 (Lib.accHi i))
/-- By number: what a variable's cells hold. -/
def GL : List (Nat × (Array Value → Prop)) := [(6, errP), (7, errP), (0, powP), (1, firstP), (2, acceptP)]
theorem mem_syn : (6, errP) ∈ GL := .head _
theorem mem_rng : (7, errP) ∈ GL := .tail _ (.head _)
theorem mem_pow : (0, powP) ∈ GL := .tail _ (.tail _ (.head _))
theorem mem_first : (1, firstP) ∈ GL := .tail _ (.tail _ (.tail _ (.head _)))
theorem mem_accept : (2, acceptP) ∈ GL := .tail _ (.tail _ (.tail _ (.tail _ (.head _))))
end Go.Proofs.YtfknpnkdedckhaaGreatDoorT
