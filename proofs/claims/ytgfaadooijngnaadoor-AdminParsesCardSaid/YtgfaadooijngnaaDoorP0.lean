/- The program's structures, as they are read. -/
import Derived.Test.YtgfaadooijngnaaDoorT24
import Derived.Test.YtgfaadooijngnaaDoorProg
import Derived.KernelRfl
namespace Go.Proofs.YtgfaadooijngnaaDoorT
open Go Go.Proofs
set_option linter.unusedVariables false
theorem mixed : Tryd.prog.follows .mixedOrders = true := by kernel_rfl
def MV : FuncId → Bool := mvOf []
abbrev Rn (f : FuncId) (args : List T) (R : T × List T) : Prop := Runs Tryd.prog f args R

end Go.Proofs.YtgfaadooijngnaaDoorT
