/- What the listed package-level variables hold (by number), as texts of this work take it. -/
import Derived.Lib.ItoaNum
import Derived.Shelf.Unicode.DecodeSlow
namespace Go.Proofs.YthcaodlfnlhfbaaDoorT
open Go
def firstP (cs : Array Value) : Prop := ∀ c : Nat, c < 256 → cs[c]? = some (.int .u8 (Lib.firstT c))
def acceptP (cs : Array Value) : Prop := ∀ i : Nat, i < 16 → cs[2 * i]? = some (.int .u8 (Lib.accLo i)) ∧ cs[2 * i + 1]? = some (.int .u8 (Lib.accHi i))
/-- By number: what a variable's cells hold. -/
def GL : List (Nat × (Array Value → Prop)) := [(0, firstP), (1, acceptP)]
theorem mem_first : (0, firstP) ∈ GL := .head _
theorem mem_accept : (1, acceptP) ∈ GL := .tail _ (.head _)
end Go.Proofs.YthcaodlfnlhfbaaDoorT
