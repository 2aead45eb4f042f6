/- What a law is handed, opened by its types. -/
import Derived.Test.YthcaodlfnlhfbaaT25
import Derived.Test.YthcaodlfnlhfbaaP0
namespace Go.Proofs.YthcaodlfnlhfbaaT
open Go Go.Proofs
set_option linter.unusedVariables false
theorem d27 {n : Nat} {ts : List T} (h : Ty Try.prog n 27 ts) : ∃ w : W_tumbrelref06_Chart, valT Try.prog 27 ts = w.t ∧ ByteArray.size w.fName ≤ maxLen ∧ (Lit.int .i64 w.fVersion).wf = true ∧ (Lit.int .i64 w.fAt_Line).wf = true ∧ (Lit.int .i64 w.fAt_Col).wf = true ∧ (∃ m, m < n ∧ SlT Try.prog m 196 w.fVars) ∧ (∃ m, m < n ∧ SlT Try.prog m 135 w.fStates) := by
  have h := row_of_ty 9 n 27 [.s, .i .i64, .i .i64, .i .i64, .sl 196 4, .sl 135 11] ts (by kernel_rfl) h
  obtain ⟨_, _, rfl, ⟨x0, rfl, h0⟩, _, _, rfl, ⟨x1, rfl, h1⟩, _, _, rfl, ⟨x2, rfl, h2⟩, _, _, rfl, ⟨x3, rfl, h3⟩, _, _, rfl, ⟨x4, rfl, h4⟩, _, _, rfl, ⟨x5, rfl, h5⟩, rfl⟩ := h
  exact ⟨⟨x0, x1, x2, x3, x4, x5⟩, by kernel_rfl, h0, h1, h2, h3, h4, h5⟩
theorem d33 {n : Nat} {ts : List T} (h : Ty Try.prog n 33 ts) : ∃ w : W_tumbrelref20_Instance, valT Try.prog 33 ts = w.t ∧ (Lit.int .i64 w.fPhase).wf = true ∧ (∃ m, m < n ∧ SlT Try.prog m 3 w.fActive) ∧ (∃ m, m < n ∧ SlT Try.prog m 2 w.fVars) ∧ (∃ m, m < n ∧ SlT Try.prog m 74 w.fWorks) ∧ (Lit.int .i64 w.fLast).wf = true ∧ (∃ m, m < n ∧ SlT Try.prog m 66 w.fStack) ∧ (Lit.int .i64 w.fUndoAttempt).wf = true := by
  have h := row_of_ty 9 n 33 [.i .i64, .sl 3 1, .sl 2 1, .sl 74 4, .i .i64, .sl 66 3, .i .i64, .b, .b] ts (by kernel_rfl) h
  obtain ⟨_, _, rfl, ⟨x0, rfl, h0⟩, _, _, rfl, ⟨x1, rfl, h1⟩, _, _, rfl, ⟨x2, rfl, h2⟩, _, _, rfl, ⟨x3, rfl, h3⟩, _, _, rfl, ⟨x4, rfl, h4⟩, _, _, rfl, ⟨x5, rfl, h5⟩, _, _, rfl, ⟨x6, rfl, h6⟩, _, _, rfl, ⟨x7, rfl⟩, _, _, rfl, ⟨x8, rfl⟩, rfl⟩ := h
  exact ⟨⟨x0, x1, x2, x3, x4, x5, x6, x7, x8⟩, by kernel_rfl, h0, h1, h2, h3, h4, h5, h6⟩
theorem d9 {n : Nat} {ts : List T} (h : Ty Try.prog n 9 ts) : ∃ w : ByteArray, valT Try.prog 9 ts = (st w) ∧ ByteArray.size w ≤ maxLen := by
  have h := row_of_ty 9 n 9 [.s] ts (by kernel_rfl) h
  obtain ⟨_, _, rfl, ⟨x0, rfl, h0⟩, rfl⟩ := h
  exact ⟨x0, by kernel_rfl, h0⟩
theorem d3 {n : Nat} {ts : List T} (h : Ty Try.prog n 3 ts) : ∃ w : Int, valT Try.prog 3 ts = (i64 w) ∧ (Lit.int .i64 w).wf = true := by
  have h := row_of_ty 9 n 3 [.i .i64] ts (by kernel_rfl) h
  obtain ⟨_, _, rfl, ⟨x0, rfl, h0⟩, rfl⟩ := h
  exact ⟨x0, by kernel_rfl, h0⟩
theorem d4 {n : Nat} {ts : List T} (h : Ty Try.prog n 4 ts) : ∃ w : Bool, valT Try.prog 4 ts = (tb w) := by
  have h := row_of_ty 9 n 4 [.b] ts (by kernel_rfl) h
  obtain ⟨_, _, rfl, ⟨x0, rfl⟩, rfl⟩ := h
  exact ⟨x0, by kernel_rfl⟩
theorem d196 {n : Nat} {ts : List T} (h : Ty Try.prog n 196 ts) : ∃ w : W_tumbrelref06_Var, valT Try.prog 196 ts = w.t ∧ ByteArray.size w.fName ≤ maxLen ∧ (Lit.int .i64 w.fN).wf = true ∧ (Lit.int .i64 w.fAt_Line).wf = true ∧ (Lit.int .i64 w.fAt_Col).wf = true := by
  have h := row_of_ty 9 n 196 [.s, .i .i64, .i .i64, .i .i64] ts (by kernel_rfl) h
  obtain ⟨_, _, rfl, ⟨x0, rfl, h0⟩, _, _, rfl, ⟨x1, rfl, h1⟩, _, _, rfl, ⟨x2, rfl, h2⟩, _, _, rfl, ⟨x3, rfl, h3⟩, rfl⟩ := h
  exact ⟨⟨x0, x1, x2, x3⟩, by kernel_rfl, h0, h1, h2, h3⟩
theorem d135 {n : Nat} {ts : List T} (h : Ty Try.prog n 135 ts) : ∃ w : W_tumbrelref06_State, valT Try.prog 135 ts = w.t ∧ ByteArray.size w.fName ≤ maxLen ∧ (Lit.int .i64 w.fAt_Line).wf = true ∧ (Lit.int .i64 w.fAt_Col).wf = true ∧ ByteArray.size w.fDo ≤ maxLen ∧ ByteArray.size w.fUndo ≤ maxLen ∧ (Lit.int .i64 w.fWhere).wf = true ∧ (Lit.int .i64 w.fRetries).wf = true ∧ (∃ m, m < n ∧ SlT Try.prog m 138 w.fOns) ∧ (∃ m, m < n ∧ SlT Try.prog m 135 w.fInner) := by
  have h := row_of_ty 9 n 135 [.s, .i .i64, .i .i64, .b, .b, .s, .s, .i .i64, .i .i64, .sl 138 10, .sl 135 11] ts (by kernel_rfl) h
  obtain ⟨_, _, rfl, ⟨x0, rfl, h0⟩, _, _, rfl, ⟨x1, rfl, h1⟩, _, _, rfl, ⟨x2, rfl, h2⟩, _, _, rfl, ⟨x3, rfl⟩, _, _, rfl, ⟨x4, rfl⟩, _, _, rfl, ⟨x5, rfl, h5⟩, _, _, rfl, ⟨x6, rfl, h6⟩, _, _, rfl, ⟨x7, rfl, h7⟩, _, _, rfl, ⟨x8, rfl, h8⟩, _, _, rfl, ⟨x9, rfl, h9⟩, _, _, rfl, ⟨x10, rfl, h10⟩, rfl⟩ := h
  exact ⟨⟨x0, x1, x2, x3, x4, x5, x6, x7, x8, x9, x10⟩, by kernel_rfl, h0, h1, h2, h5, h6, h7, h8, h9, h10⟩
theorem d2 {n : Nat} {ts : List T} (h : Ty Try.prog n 2 ts) : ∃ w : Int, valT Try.prog 2 ts = (i64 w) ∧ (Lit.int .i64 w).wf = true := by
  have h := row_of_ty 9 n 2 [.i .i64] ts (by kernel_rfl) h
  obtain ⟨_, _, rfl, ⟨x0, rfl, h0⟩, rfl⟩ := h
  exact ⟨x0, by kernel_rfl, h0⟩
theorem d74 {n : Nat} {ts : List T} (h : Ty Try.prog n 74 ts) : ∃ w : W_tumbrelref20_Work, valT Try.prog 74 ts = w.t ∧ (Lit.int .i64 w.fState).wf = true ∧ (Lit.int .i64 w.fTurn).wf = true ∧ (Lit.int .i64 w.fAttempt).wf = true := by
  have h := row_of_ty 9 n 74 [.i .i64, .i .i64, .i .i64, .b] ts (by kernel_rfl) h
  obtain ⟨_, _, rfl, ⟨x0, rfl, h0⟩, _, _, rfl, ⟨x1, rfl, h1⟩, _, _, rfl, ⟨x2, rfl, h2⟩, _, _, rfl, ⟨x3, rfl⟩, rfl⟩ := h
  exact ⟨⟨x0, x1, x2, x3⟩, by kernel_rfl, h0, h1, h2⟩
theorem d66 {n : Nat} {ts : List T} (h : Ty Try.prog n 66 ts) : ∃ w : W_tumbrelref20_Entry, valT Try.prog 66 ts = w.t ∧ (Lit.int .i64 w.fTurn).wf = true ∧ ByteArray.size w.fUndo ≤ maxLen ∧ (Lit.int .i64 w.fWhere).wf = true := by
  have h := row_of_ty 9 n 66 [.i .i64, .s, .i .i64] ts (by kernel_rfl) h
  obtain ⟨_, _, rfl, ⟨x0, rfl, h0⟩, _, _, rfl, ⟨x1, rfl, h1⟩, _, _, rfl, ⟨x2, rfl, h2⟩, rfl⟩ := h
  exact ⟨⟨x0, x1, x2⟩, by kernel_rfl, h0, h1, h2⟩
theorem d138 {n : Nat} {ts : List T} (h : Ty Try.prog n 138 ts) : ∃ w : W_tumbrelref06_On, valT Try.prog 138 ts = w.t ∧ ByteArray.size w.fEvent ≤ maxLen ∧ (Lit.int .i64 w.fGuard_Kind).wf = true ∧ (Lit.int .i64 w.fGuard_N).wf = true ∧ ByteArray.size w.fGuard_S ≤ maxLen ∧ (∃ m, m < n ∧ SlT Try.prog m 46 w.fGuard_Parts) ∧ ByteArray.size w.fTarget ≤ maxLen ∧ (∃ m, m < n ∧ SlT Try.prog m 140 w.fSets) ∧ (Lit.int .i64 w.fAt_Line).wf = true ∧ (Lit.int .i64 w.fAt_Col).wf = true := by
  have h := row_of_ty 9 n 138 [.s, .b, .i .i64, .i .i64, .s, .sl 46 4, .s, .sl 140 5, .i .i64, .i .i64] ts (by kernel_rfl) h
  obtain ⟨_, _, rfl, ⟨x0, rfl, h0⟩, _, _, rfl, ⟨x1, rfl⟩, _, _, rfl, ⟨x2, rfl, h2⟩, _, _, rfl, ⟨x3, rfl, h3⟩, _, _, rfl, ⟨x4, rfl, h4⟩, _, _, rfl, ⟨x5, rfl, h5⟩, _, _, rfl, ⟨x6, rfl, h6⟩, _, _, rfl, ⟨x7, rfl, h7⟩, _, _, rfl, ⟨x8, rfl, h8⟩, _, _, rfl, ⟨x9, rfl, h9⟩, rfl⟩ := h
  exact ⟨⟨x0, x1, x2, x3, x4, x5, x6, x7, x8, x9⟩, by kernel_rfl, h0, h2, h3, h4, h5, h6, h7, h8, h9⟩
theorem d46 {n : Nat} {ts : List T} (h : Ty Try.prog n 46 ts) : ∃ w : W_tumbrelref04_Node, valT Try.prog 46 ts = w.t ∧ (Lit.int .i64 w.fKind).wf = true ∧ (Lit.int .i64 w.fN).wf = true ∧ ByteArray.size w.fS ≤ maxLen ∧ (∃ m, m < n ∧ SlT Try.prog m 46 w.fParts) := by
  have h := row_of_ty 9 n 46 [.i .i64, .i .i64, .s, .sl 46 4] ts (by kernel_rfl) h
  obtain ⟨_, _, rfl, ⟨x0, rfl, h0⟩, _, _, rfl, ⟨x1, rfl, h1⟩, _, _, rfl, ⟨x2, rfl, h2⟩, _, _, rfl, ⟨x3, rfl, h3⟩, rfl⟩ := h
  exact ⟨⟨x0, x1, x2, x3⟩, by kernel_rfl, h0, h1, h2, h3⟩
theorem d140 {n : Nat} {ts : List T} (h : Ty Try.prog n 140 ts) : ∃ w : W_tumbrelref06_Set, valT Try.prog 140 ts = w.t ∧ ByteArray.size w.fName ≤ maxLen ∧ (Lit.int .i64 w.fTo_Kind).wf = true ∧ (Lit.int .i64 w.fTo_N).wf = true ∧ ByteArray.size w.fTo_S ≤ maxLen ∧ (∃ m, m < n ∧ SlT Try.prog m 46 w.fTo_Parts) := by
  have h := row_of_ty 9 n 140 [.s, .i .i64, .i .i64, .s, .sl 46 4] ts (by kernel_rfl) h
  obtain ⟨_, _, rfl, ⟨x0, rfl, h0⟩, _, _, rfl, ⟨x1, rfl, h1⟩, _, _, rfl, ⟨x2, rfl, h2⟩, _, _, rfl, ⟨x3, rfl, h3⟩, _, _, rfl, ⟨x4, rfl, h4⟩, rfl⟩ := h
  exact ⟨⟨x0, x1, x2, x3, x4⟩, by kernel_rfl, h0, h1, h2, h3, h4⟩
end Go.Proofs.YthcaodlfnlhfbaaT
