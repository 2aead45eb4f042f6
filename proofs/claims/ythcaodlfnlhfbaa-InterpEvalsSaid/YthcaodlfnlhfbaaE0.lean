/- Expressions; operators; reserved words. -/
import Derived.Test.YthcaodlfnlhfbaaG3
namespace Go.Proofs.YthcaodlfnlhfbaaT
open Go Go.Proofs
set_option linter.unusedVariables false
inductive E where
  | non
  | lit (n : Int)
  | ref (s : ByteArray)
  | not (x : E)
  | neg (x : E)
  | bin (op : ByteArray) (l r : E)
  deriving Inhabited
/-- How strongly an operator binds; 0: it is none. -/
def lvl (s : ByteArray) : Nat :=
  if s = bs [124, 124] then 1 else if s = bs [38, 38] then 2
  else if s = bs [60] ∨ s = bs [60, 61] ∨ s = bs [61, 61] ∨ s = bs [33, 61] then 3
  else if s = bs [43] ∨ s = bs [45] then 4 else if s = bs [42] then 5 else 0
theorem lvl_le (s : ByteArray) : lvl s ≤ 5 := by
  unfold lvl
  repeat' split
  all_goals omega
/-- chart var state all end do undo at retries on if go set. -/
def RS : List ByteArray := [bs [99, 104, 97, 114, 116], bs [118, 97, 114], bs [115, 116, 97, 116, 101], bs [97, 108, 108], bs [101, 110, 100], bs [100, 111], bs [117, 110, 100, 111], bs [97, 116], bs [114, 101, 116, 114, 105, 101, 115], bs [111, 110], bs [105, 102], bs [103, 111], bs [115, 101, 116]]
def resv (s : ByteArray) : Bool := RS.any fun x => decide (s = x)
end Go.Proofs.YthcaodlfnlhfbaaT
