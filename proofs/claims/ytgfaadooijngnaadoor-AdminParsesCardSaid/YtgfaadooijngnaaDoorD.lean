/- What a law is handed, opened by its types. -/
import Derived.Test.YtgfaadooijngnaaDoorT25
import Derived.Test.YtgfaadooijngnaaDoorP0
namespace Go.Proofs.YtgfaadooijngnaaDoorT
open Go Go.Proofs
set_option linter.unusedVariables false
theorem d9 {n : Nat} {ts : List T} (h : Ty Tryd.prog n 9 ts) : ∃ w : ByteArray, valT Tryd.prog 9 ts = (st w) ∧ ByteArray.size w ≤ maxLen := by
  have h := row_of_ty 9 n 9 [.s] ts (by kernel_rfl) h
  obtain ⟨_, _, rfl, ⟨x0, rfl, h0⟩, rfl⟩ := h
  exact ⟨x0, by kernel_rfl, h0⟩
theorem d3 {n : Nat} {ts : List T} (h : Ty Tryd.prog n 3 ts) : ∃ w : Int, valT Tryd.prog 3 ts = (i64 w) ∧ (Lit.int .i64 w).wf = true := by
  have h := row_of_ty 9 n 3 [.i .i64] ts (by kernel_rfl) h
  obtain ⟨_, _, rfl, ⟨x0, rfl, h0⟩, rfl⟩ := h
  exact ⟨x0, by kernel_rfl, h0⟩
end Go.Proofs.YtgfaadooijngnaaDoorT
