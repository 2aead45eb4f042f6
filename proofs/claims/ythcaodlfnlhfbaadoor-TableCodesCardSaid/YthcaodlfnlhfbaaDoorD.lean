/- What a law is handed, opened by its types. -/
import Derived.Test.YthcaodlfnlhfbaaDoorT25
import Derived.Test.YthcaodlfnlhfbaaDoorP0
namespace Go.Proofs.YthcaodlfnlhfbaaDoorT
open Go Go.Proofs
set_option linter.unusedVariables false
theorem d37 {n : Nat} {ts : List T} (h : Ty Tryd.prog n 37 ts) : ∃ w : W_tumbrelref04_Node, valT Tryd.prog 37 ts = w.t ∧ (Lit.int .i64 w.fKind).wf = true ∧ (Lit.int .i64 w.fN).wf = true ∧ ByteArray.size w.fS ≤ maxLen ∧ (∃ m, m < n ∧ SlT Tryd.prog m 37 w.fParts) := by
  have h := row_of_ty 9 n 37 [.i .i64, .i .i64, .s, .sl 37 4] ts (by kernel_rfl) h
  obtain ⟨_, _, rfl, ⟨x0, rfl, h0⟩, _, _, rfl, ⟨x1, rfl, h1⟩, _, _, rfl, ⟨x2, rfl, h2⟩, _, _, rfl, ⟨x3, rfl, h3⟩, rfl⟩ := h
  exact ⟨⟨x0, x1, x2, x3⟩, by kernel_rfl, h0, h1, h2, h3⟩
theorem d38 {n : Nat} {ts : List T} (h : Ty Tryd.prog n 38 ts) : ∃ w : List T, valT Tryd.prog 38 ts = (.sl 2 w) ∧ (∃ m, m < n ∧ SlT Tryd.prog m 41 w) := by
  have h := row_of_ty 9 n 38 [.sl 41 2] ts (by kernel_rfl) h
  obtain ⟨_, _, rfl, ⟨x0, rfl, h0⟩, rfl⟩ := h
  exact ⟨x0, by kernel_rfl, h0⟩
theorem d3 {n : Nat} {ts : List T} (h : Ty Tryd.prog n 3 ts) : ∃ w : Int, valT Tryd.prog 3 ts = (i64 w) ∧ (Lit.int .i64 w).wf = true := by
  have h := row_of_ty 9 n 3 [.i .i64] ts (by kernel_rfl) h
  obtain ⟨_, _, rfl, ⟨x0, rfl, h0⟩, rfl⟩ := h
  exact ⟨x0, by kernel_rfl, h0⟩
theorem d2 {n : Nat} {ts : List T} (h : Ty Tryd.prog n 2 ts) : ∃ w : Int, valT Tryd.prog 2 ts = (i64 w) ∧ (Lit.int .i64 w).wf = true := by
  have h := row_of_ty 9 n 2 [.i .i64] ts (by kernel_rfl) h
  obtain ⟨_, _, rfl, ⟨x0, rfl, h0⟩, rfl⟩ := h
  exact ⟨x0, by kernel_rfl, h0⟩
theorem d9 {n : Nat} {ts : List T} (h : Ty Tryd.prog n 9 ts) : ∃ w : ByteArray, valT Tryd.prog 9 ts = (st w) ∧ ByteArray.size w ≤ maxLen := by
  have h := row_of_ty 9 n 9 [.s] ts (by kernel_rfl) h
  obtain ⟨_, _, rfl, ⟨x0, rfl, h0⟩, rfl⟩ := h
  exact ⟨x0, by kernel_rfl, h0⟩
theorem d35 {n : Nat} {ts : List T} (h : Ty Tryd.prog n 35 ts) : ∃ w : List T, valT Tryd.prog 35 ts = (.sl 4 w) ∧ (∃ m, m < n ∧ SlT Tryd.prog m 37 w) := by
  have h := row_of_ty 9 n 35 [.sl 37 4] ts (by kernel_rfl) h
  obtain ⟨_, _, rfl, ⟨x0, rfl, h0⟩, rfl⟩ := h
  exact ⟨x0, by kernel_rfl, h0⟩
theorem d41 {n : Nat} {ts : List T} (h : Ty Tryd.prog n 41 ts) : ∃ w : W_api_Var, valT Tryd.prog 41 ts = w.t ∧ ByteArray.size w.fName ≤ maxLen ∧ (Lit.int .i64 w.fN).wf = true := by
  have h := row_of_ty 9 n 41 [.s, .i .i64] ts (by kernel_rfl) h
  obtain ⟨_, _, rfl, ⟨x0, rfl, h0⟩, _, _, rfl, ⟨x1, rfl, h1⟩, rfl⟩ := h
  exact ⟨⟨x0, x1⟩, by kernel_rfl, h0, h1⟩
end Go.Proofs.YthcaodlfnlhfbaaDoorT
