/- What the listed package-level variables hold (by number), as texts of this work take it. -/
import Derived.Lib.ItoaNum
import Derived.Shelf.Unicode.DecodeSlow
namespace Go.Proofs.YthcaodlfnlhfbaaDoorT
open Go
def errP (cs : Array Value) : Prop := ∃ t p, cs[0]? = some (.iface t p)
def powP (cs : Array Value) : Prop := cs = (Lib.pow10Tab.map fun z => Value.int .u64 z).toArray
/-- By number: what a variable's cells hold. -/
def GL : List (Nat × (Array Value → Prop)) := [(2, errP), (3, errP), (4, powP)]
theorem mem_syn : (2, errP) ∈ GL := .head _
theorem mem_rng : (3, errP) ∈ GL := .tail _ (.head _)
theorem mem_pow : (4, powP) ∈ GL := .tail _ (.tail _ (.head _))
end Go.Proofs.YthcaodlfnlhfbaaDoorT
