/- What a law is handed, opened by its types. -/
import Derived.Test.YthcaodlfnlhfbaaDoorT25
import Derived.Test.YthcaodlfnlhfbaaDoorP0
namespace Go.Proofs.YthcaodlfnlhfbaaDoorT
open Go Go.Proofs
set_option linter.unusedVariables false
theorem d9 {n : Nat} {ts : List T} (h : Ty Tryd.prog n 9 ts) : ∃ w : ByteArray, valT Tryd.prog 9 ts = (st w) ∧ ByteArray.size w ≤ maxLen := by
  have h := row_of_ty 9 n 9 [.s] ts (by kernel_rfl) h
  obtain ⟨_, _, rfl, ⟨x0, rfl, h0⟩, rfl⟩ := h
  exact ⟨x0, by kernel_rfl, h0⟩
theorem d21 {n : Nat} {ts : List T} (h : Ty Tryd.prog n 21 ts) : ∃ w : Int, valT Tryd.prog 21 ts = (i32 w) ∧ (Lit.int .i32 w).wf = true := by
  have h := row_of_ty 9 n 21 [.i .i32] ts (by kernel_rfl) h
  obtain ⟨_, _, rfl, ⟨x0, rfl, h0⟩, rfl⟩ := h
  exact ⟨x0, by kernel_rfl, h0⟩
end Go.Proofs.YthcaodlfnlhfbaaDoorT
