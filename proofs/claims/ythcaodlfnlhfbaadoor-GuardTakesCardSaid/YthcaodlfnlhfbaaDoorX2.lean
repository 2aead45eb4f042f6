/- The library's numerals of numbers, as the program calls for them. -/
import Derived.Test.YthcaodlfnlhfbaaDoorX5
import Derived.Test.YthcaodlfnlhfbaaDoorPA
namespace Go.Proofs.YthcaodlfnlhfbaaDoorT
open Go Go.Proofs
theorem runs106 (n : Nat) (hn : n ≤ 9223372036854775807) : Rn 106 [.s (.int .u64 n), i64 10] (st ⟨(Lib.decDigits n).toArray⟩, [.dead, .dead]) :=
  f106 _ _ _ ⟨_, runs116 n (by omega), rfl⟩
end Go.Proofs.YthcaodlfnlhfbaaDoorT
