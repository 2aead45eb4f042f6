/- What a law is handed, opened by its types. -/
import Derived.Test.YthcaodlfnlhfbaaT25
import Derived.Test.YthcaodlfnlhfbaaP0
namespace Go.Proofs.YthcaodlfnlhfbaaT
open Go Go.Proofs
set_option linter.unusedVariables false
theorem d46 {n : Nat} {ts : List T} (h : Ty Try.prog n 46 ts) : ∃ w : W_tumbrelref04_Node, valT Try.prog 46 ts = w.t ∧ (Lit.int .i64 w.fKind).wf = true ∧ (Lit.int .i64 w.fN).wf = true ∧ ByteArray.size w.fS ≤ maxLen ∧ (∃ m, m < n ∧ SlT Try.prog m 46 w.fParts) := by
  have h := row_of_ty 9 n 46 [.i .i64, .i .i64, .s, .sl 46 4] ts (by kernel_rfl) h
  obtain ⟨_, _, rfl, ⟨x0, rfl, h0⟩, _, _, rfl, ⟨x1, rfl, h1⟩, _, _, rfl, ⟨x2, rfl, h2⟩, _, _, rfl, ⟨x3, rfl, h3⟩, rfl⟩ := h
  exact ⟨⟨x0, x1, x2, x3⟩, by kernel_rfl, h0, h1, h2, h3⟩
theorem d47 {n : Nat} {ts : List T} (h : Ty Try.prog n 47 ts) : ∃ w : List T, valT Try.prog 47 ts = (.sl 2 w) ∧ (∃ m, m < n ∧ SlT Try.prog m 50 w) := by
  have h := row_of_ty 9 n 47 [.sl 50 2] ts (by kernel_rfl) h
  obtain ⟨_, _, rfl, ⟨x0, rfl, h0⟩, rfl⟩ := h
  exact ⟨x0, by kernel_rfl, h0⟩
theorem d3 {n : Nat} {ts : List T} (h : Ty Try.prog n 3 ts) : ∃ w : Int, valT Try.prog 3 ts = (i64 w) ∧ (Lit.int .i64 w).wf = true := by
  have h := row_of_ty 9 n 3 [.i .i64] ts (by kernel_rfl) h
  obtain ⟨_, _, rfl, ⟨x0, rfl, h0⟩, rfl⟩ := h
  exact ⟨x0, by kernel_rfl, h0⟩
theorem d2 {n : Nat} {ts : List T} (h : Ty Try.prog n 2 ts) : ∃ w : Int, valT Try.prog 2 ts = (i64 w) ∧ (Lit.int .i64 w).wf = true := by
  have h := row_of_ty 9 n 2 [.i .i64] ts (by kernel_rfl) h
  obtain ⟨_, _, rfl, ⟨x0, rfl, h0⟩, rfl⟩ := h
  exact ⟨x0, by kernel_rfl, h0⟩
theorem d9 {n : Nat} {ts : List T} (h : Ty Try.prog n 9 ts) : ∃ w : ByteArray, valT Try.prog 9 ts = (st w) ∧ ByteArray.size w ≤ maxLen := by
  have h := row_of_ty 9 n 9 [.s] ts (by kernel_rfl) h
  obtain ⟨_, _, rfl, ⟨x0, rfl, h0⟩, rfl⟩ := h
  exact ⟨x0, by kernel_rfl, h0⟩
theorem d44 {n : Nat} {ts : List T} (h : Ty Try.prog n 44 ts) : ∃ w : List T, valT Try.prog 44 ts = (.sl 4 w) ∧ (∃ m, m < n ∧ SlT Try.prog m 46 w) := by
  have h := row_of_ty 9 n 44 [.sl 46 4] ts (by kernel_rfl) h
  obtain ⟨_, _, rfl, ⟨x0, rfl, h0⟩, rfl⟩ := h
  exact ⟨x0, by kernel_rfl, h0⟩
theorem d50 {n : Nat} {ts : List T} (h : Ty Try.prog n 50 ts) : ∃ w : W_api_Var, valT Try.prog 50 ts = w.t ∧ ByteArray.size w.fName ≤ maxLen ∧ (Lit.int .i64 w.fN).wf = true := by
  have h := row_of_ty 9 n 50 [.s, .i .i64] ts (by kernel_rfl) h
  obtain ⟨_, _, rfl, ⟨x0, rfl, h0⟩, _, _, rfl, ⟨x1, rfl, h1⟩, rfl⟩ := h
  exact ⟨⟨x0, x1⟩, by kernel_rfl, h0, h1⟩
end Go.Proofs.YthcaodlfnlhfbaaT
