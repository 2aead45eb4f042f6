/- What a law is handed, opened by its types. -/
import Derived.Test.YthcaodlfnlhfbaaGreatDoorT25
import Derived.Test.YthcaodlfnlhfbaaGreatDoorP0
namespace Go.Proofs.YthcaodlfnlhfbaaGreatDoorT
open Go Go.Proofs
set_option linter.unusedVariables false
theorem d24 {n : Nat} {ts : List T} (h : Ty Tryz.prog n 24 ts) : ∃ w : W_tumbrelref04_Node, valT Tryz.prog 24 ts = w.t ∧ (Lit.int .i64 w.fKind).wf = true ∧ (Lit.int .i64 w.fN).wf = true ∧ ByteArray.size w.fS ≤ maxLen ∧ (∃ m, m < n ∧ SlT Tryz.prog m 24 w.fParts) := by
  have h := row_of_ty 9 n 24 [.i .i64, .i .i64, .s, .sl 24 4] ts (by kernel_rfl) h
  obtain ⟨_, _, rfl, ⟨x0, rfl, h0⟩, _, _, rfl, ⟨x1, rfl, h1⟩, _, _, rfl, ⟨x2, rfl, h2⟩, _, _, rfl, ⟨x3, rfl, h3⟩, rfl⟩ := h
  exact ⟨⟨x0, x1, x2, x3⟩, by kernel_rfl, h0, h1, h2, h3⟩
theorem d9 {n : Nat} {ts : List T} (h : Ty Tryz.prog n 9 ts) : ∃ w : ByteArray, valT Tryz.prog 9 ts = (st w) ∧ ByteArray.size w ≤ maxLen := by
  have h := row_of_ty 9 n 9 [.s] ts (by kernel_rfl) h
  obtain ⟨_, _, rfl, ⟨x0, rfl, h0⟩, rfl⟩ := h
  exact ⟨x0, by kernel_rfl, h0⟩
theorem d3 {n : Nat} {ts : List T} (h : Ty Tryz.prog n 3 ts) : ∃ w : Int, valT Tryz.prog 3 ts = (i64 w) ∧ (Lit.int .i64 w).wf = true := by
  have h := row_of_ty 9 n 3 [.i .i64] ts (by kernel_rfl) h
  obtain ⟨_, _, rfl, ⟨x0, rfl, h0⟩, rfl⟩ := h
  exact ⟨x0, by kernel_rfl, h0⟩
theorem d2 {n : Nat} {ts : List T} (h : Ty Tryz.prog n 2 ts) : ∃ w : Int, valT Tryz.prog 2 ts = (i64 w) ∧ (Lit.int .i64 w).wf = true := by
  have h := row_of_ty 9 n 2 [.i .i64] ts (by kernel_rfl) h
  obtain ⟨_, _, rfl, ⟨x0, rfl, h0⟩, rfl⟩ := h
  exact ⟨x0, by kernel_rfl, h0⟩
theorem d22 {n : Nat} {ts : List T} (h : Ty Tryz.prog n 22 ts) : ∃ w : List T, valT Tryz.prog 22 ts = (.sl 4 w) ∧ (∃ m, m < n ∧ SlT Tryz.prog m 24 w) := by
  have h := row_of_ty 9 n 22 [.sl 24 4] ts (by kernel_rfl) h
  obtain ⟨_, _, rfl, ⟨x0, rfl, h0⟩, rfl⟩ := h
  exact ⟨x0, by kernel_rfl, h0⟩
end Go.Proofs.YthcaodlfnlhfbaaGreatDoorT
