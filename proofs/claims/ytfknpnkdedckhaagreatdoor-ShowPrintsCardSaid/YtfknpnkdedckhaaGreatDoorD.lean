/- What a law is handed, opened by its types. -/
import Derived.Test.YtfknpnkdedckhaaGreatDoorT25
import Derived.Test.YtfknpnkdedckhaaGreatDoorP0
namespace Go.Proofs.YtfknpnkdedckhaaGreatDoorT
open Go Go.Proofs
set_option linter.unusedVariables false
theorem d27 {n : Nat} {ts : List T} (h : Ty Tryz.prog n 27 ts) : ∃ w : W_tumbrelref06_Chart, valT Tryz.prog 27 ts = w.t ∧ ByteArray.size w.fName ≤ reachBytes ∧ (Lit.int .i64 w.fVersion).wf = true ∧ (Lit.int .i64 w.fAt_Line).wf = true ∧ (Lit.int .i64 w.fAt_Col).wf = true ∧ (∃ m, m < n ∧ SlT Tryz.prog m 149 w.fVars) ∧ (∃ m, m < n ∧ SlT Tryz.prog m 63 w.fStates) := by
  have h := row_of_ty 9 n 27 [.s, .i .i64, .i .i64, .i .i64, .sl 149 4, .sl 63 11] ts (by kernel_rfl) h
  obtain ⟨_, _, rfl, ⟨x0, rfl, h0⟩, _, _, rfl, ⟨x1, rfl, h1⟩, _, _, rfl, ⟨x2, rfl, h2⟩, _, _, rfl, ⟨x3, rfl, h3⟩, _, _, rfl, ⟨x4, rfl, h4⟩, _, _, rfl, ⟨x5, rfl, h5⟩, rfl⟩ := h
  exact ⟨⟨x0, x1, x2, x3, x4, x5⟩, by kernel_rfl, h0, h1, h2, h3, h4, h5⟩
theorem d9 {n : Nat} {ts : List T} (h : Ty Tryz.prog n 9 ts) : ∃ w : ByteArray, valT Tryz.prog 9 ts = (st w) ∧ ByteArray.size w ≤ reachBytes := by
  have h := row_of_ty 9 n 9 [.s] ts (by kernel_rfl) h
  obtain ⟨_, _, rfl, ⟨x0, rfl, h0⟩, rfl⟩ := h
  exact ⟨x0, by kernel_rfl, h0⟩
theorem d3 {n : Nat} {ts : List T} (h : Ty Tryz.prog n 3 ts) : ∃ w : Int, valT Tryz.prog 3 ts = (i64 w) ∧ (Lit.int .i64 w).wf = true := by
  have h := row_of_ty 9 n 3 [.i .i64] ts (by kernel_rfl) h
  obtain ⟨_, _, rfl, ⟨x0, rfl, h0⟩, rfl⟩ := h
  exact ⟨x0, by kernel_rfl, h0⟩
theorem d24 {n : Nat} {ts : List T} (h : Ty Tryz.prog n 24 ts) : ∃ w : List T, valT Tryz.prog 24 ts = (.sl 4 w) ∧ (∃ m, m < n ∧ SlT Tryz.prog m 149 w) := by
  have h := row_of_ty 9 n 24 [.sl 149 4] ts (by kernel_rfl) h
  obtain ⟨_, _, rfl, ⟨x0, rfl, h0⟩, rfl⟩ := h
  exact ⟨x0, by kernel_rfl, h0⟩
theorem d25 {n : Nat} {ts : List T} (h : Ty Tryz.prog n 25 ts) : ∃ w : List T, valT Tryz.prog 25 ts = (.sl 11 w) ∧ (∃ m, m < n ∧ SlT Tryz.prog m 63 w) := by
  have h := row_of_ty 9 n 25 [.sl 63 11] ts (by kernel_rfl) h
  obtain ⟨_, _, rfl, ⟨x0, rfl, h0⟩, rfl⟩ := h
  exact ⟨x0, by kernel_rfl, h0⟩
theorem d149 {n : Nat} {ts : List T} (h : Ty Tryz.prog n 149 ts) : ∃ w : W_tumbrelref06_Var, valT Tryz.prog 149 ts = w.t ∧ ByteArray.size w.fName ≤ reachBytes ∧ (Lit.int .i64 w.fN).wf = true ∧ (Lit.int .i64 w.fAt_Line).wf = true ∧ (Lit.int .i64 w.fAt_Col).wf = true := by
  have h := row_of_ty 9 n 149 [.s, .i .i64, .i .i64, .i .i64] ts (by kernel_rfl) h
  obtain ⟨_, _, rfl, ⟨x0, rfl, h0⟩, _, _, rfl, ⟨x1, rfl, h1⟩, _, _, rfl, ⟨x2, rfl, h2⟩, _, _, rfl, ⟨x3, rfl, h3⟩, rfl⟩ := h
  exact ⟨⟨x0, x1, x2, x3⟩, by kernel_rfl, h0, h1, h2, h3⟩
theorem d63 {n : Nat} {ts : List T} (h : Ty Tryz.prog n 63 ts) : ∃ w : W_tumbrelref06_State, valT Tryz.prog 63 ts = w.t ∧ ByteArray.size w.fName ≤ reachBytes ∧ (Lit.int .i64 w.fAt_Line).wf = true ∧ (Lit.int .i64 w.fAt_Col).wf = true ∧ ByteArray.size w.fDo ≤ reachBytes ∧ ByteArray.size w.fUndo ≤ reachBytes ∧ (Lit.int .i64 w.fWhere).wf = true ∧ (Lit.int .i64 w.fRetries).wf = true ∧ (∃ m, m < n ∧ SlT Tryz.prog m 75 w.fOns) ∧ (∃ m, m < n ∧ SlT Tryz.prog m 63 w.fInner) := by
  have h := row_of_ty 9 n 63 [.s, .i .i64, .i .i64, .b, .b, .s, .s, .i .i64, .i .i64, .sl 75 10, .sl 63 11] ts (by kernel_rfl) h
  obtain ⟨_, _, rfl, ⟨x0, rfl, h0⟩, _, _, rfl, ⟨x1, rfl, h1⟩, _, _, rfl, ⟨x2, rfl, h2⟩, _, _, rfl, ⟨x3, rfl⟩, _, _, rfl, ⟨x4, rfl⟩, _, _, rfl, ⟨x5, rfl, h5⟩, _, _, rfl, ⟨x6, rfl, h6⟩, _, _, rfl, ⟨x7, rfl, h7⟩, _, _, rfl, ⟨x8, rfl, h8⟩, _, _, rfl, ⟨x9, rfl, h9⟩, _, _, rfl, ⟨x10, rfl, h10⟩, rfl⟩ := h
  exact ⟨⟨x0, x1, x2, x3, x4, x5, x6, x7, x8, x9, x10⟩, by kernel_rfl, h0, h1, h2, h5, h6, h7, h8, h9, h10⟩
theorem d2 {n : Nat} {ts : List T} (h : Ty Tryz.prog n 2 ts) : ∃ w : Int, valT Tryz.prog 2 ts = (i64 w) ∧ (Lit.int .i64 w).wf = true := by
  have h := row_of_ty 9 n 2 [.i .i64] ts (by kernel_rfl) h
  obtain ⟨_, _, rfl, ⟨x0, rfl, h0⟩, rfl⟩ := h
  exact ⟨x0, by kernel_rfl, h0⟩
theorem d4 {n : Nat} {ts : List T} (h : Ty Tryz.prog n 4 ts) : ∃ w : Bool, valT Tryz.prog 4 ts = (tb w) := by
  have h := row_of_ty 9 n 4 [.b] ts (by kernel_rfl) h
  obtain ⟨_, _, rfl, ⟨x0, rfl⟩, rfl⟩ := h
  exact ⟨x0, by kernel_rfl⟩
theorem d61 {n : Nat} {ts : List T} (h : Ty Tryz.prog n 61 ts) : ∃ w : List T, valT Tryz.prog 61 ts = (.sl 10 w) ∧ (∃ m, m < n ∧ SlT Tryz.prog m 75 w) := by
  have h := row_of_ty 9 n 61 [.sl 75 10] ts (by kernel_rfl) h
  obtain ⟨_, _, rfl, ⟨x0, rfl, h0⟩, rfl⟩ := h
  exact ⟨x0, by kernel_rfl, h0⟩
theorem d75 {n : Nat} {ts : List T} (h : Ty Tryz.prog n 75 ts) : ∃ w : W_tumbrelref06_On, valT Tryz.prog 75 ts = w.t ∧ ByteArray.size w.fEvent ≤ reachBytes ∧ (Lit.int .i64 w.fGuard_Kind).wf = true ∧ (Lit.int .i64 w.fGuard_N).wf = true ∧ ByteArray.size w.fGuard_S ≤ reachBytes ∧ (∃ m, m < n ∧ SlT Tryz.prog m 72 w.fGuard_Parts) ∧ ByteArray.size w.fTarget ≤ reachBytes ∧ (∃ m, m < n ∧ SlT Tryz.prog m 193 w.fSets) ∧ (Lit.int .i64 w.fAt_Line).wf = true ∧ (Lit.int .i64 w.fAt_Col).wf = true := by
  have h := row_of_ty 9 n 75 [.s, .b, .i .i64, .i .i64, .s, .sl 72 4, .s, .sl 193 5, .i .i64, .i .i64] ts (by kernel_rfl) h
  obtain ⟨_, _, rfl, ⟨x0, rfl, h0⟩, _, _, rfl, ⟨x1, rfl⟩, _, _, rfl, ⟨x2, rfl, h2⟩, _, _, rfl, ⟨x3, rfl, h3⟩, _, _, rfl, ⟨x4, rfl, h4⟩, _, _, rfl, ⟨x5, rfl, h5⟩, _, _, rfl, ⟨x6, rfl, h6⟩, _, _, rfl, ⟨x7, rfl, h7⟩, _, _, rfl, ⟨x8, rfl, h8⟩, _, _, rfl, ⟨x9, rfl, h9⟩, rfl⟩ := h
  exact ⟨⟨x0, x1, x2, x3, x4, x5, x6, x7, x8, x9⟩, by kernel_rfl, h0, h2, h3, h4, h5, h6, h7, h8, h9⟩
theorem d70 {n : Nat} {ts : List T} (h : Ty Tryz.prog n 70 ts) : ∃ w : List T, valT Tryz.prog 70 ts = (.sl 4 w) ∧ (∃ m, m < n ∧ SlT Tryz.prog m 72 w) := by
  have h := row_of_ty 9 n 70 [.sl 72 4] ts (by kernel_rfl) h
  obtain ⟨_, _, rfl, ⟨x0, rfl, h0⟩, rfl⟩ := h
  exact ⟨x0, by kernel_rfl, h0⟩
theorem d73 {n : Nat} {ts : List T} (h : Ty Tryz.prog n 73 ts) : ∃ w : List T, valT Tryz.prog 73 ts = (.sl 5 w) ∧ (∃ m, m < n ∧ SlT Tryz.prog m 193 w) := by
  have h := row_of_ty 9 n 73 [.sl 193 5] ts (by kernel_rfl) h
  obtain ⟨_, _, rfl, ⟨x0, rfl, h0⟩, rfl⟩ := h
  exact ⟨x0, by kernel_rfl, h0⟩
theorem d72 {n : Nat} {ts : List T} (h : Ty Tryz.prog n 72 ts) : ∃ w : W_tumbrelref04_Node, valT Tryz.prog 72 ts = w.t ∧ (Lit.int .i64 w.fKind).wf = true ∧ (Lit.int .i64 w.fN).wf = true ∧ ByteArray.size w.fS ≤ reachBytes ∧ (∃ m, m < n ∧ SlT Tryz.prog m 72 w.fParts) := by
  have h := row_of_ty 9 n 72 [.i .i64, .i .i64, .s, .sl 72 4] ts (by kernel_rfl) h
  obtain ⟨_, _, rfl, ⟨x0, rfl, h0⟩, _, _, rfl, ⟨x1, rfl, h1⟩, _, _, rfl, ⟨x2, rfl, h2⟩, _, _, rfl, ⟨x3, rfl, h3⟩, rfl⟩ := h
  exact ⟨⟨x0, x1, x2, x3⟩, by kernel_rfl, h0, h1, h2, h3⟩
theorem d193 {n : Nat} {ts : List T} (h : Ty Tryz.prog n 193 ts) : ∃ w : W_tumbrelref06_Set, valT Tryz.prog 193 ts = w.t ∧ ByteArray.size w.fName ≤ reachBytes ∧ (Lit.int .i64 w.fTo_Kind).wf = true ∧ (Lit.int .i64 w.fTo_N).wf = true ∧ ByteArray.size w.fTo_S ≤ reachBytes ∧ (∃ m, m < n ∧ SlT Tryz.prog m 72 w.fTo_Parts) := by
  have h := row_of_ty 9 n 193 [.s, .i .i64, .i .i64, .s, .sl 72 4] ts (by kernel_rfl) h
  obtain ⟨_, _, rfl, ⟨x0, rfl, h0⟩, _, _, rfl, ⟨x1, rfl, h1⟩, _, _, rfl, ⟨x2, rfl, h2⟩, _, _, rfl, ⟨x3, rfl, h3⟩, _, _, rfl, ⟨x4, rfl, h4⟩, rfl⟩ := h
  exact ⟨⟨x0, x1, x2, x3, x4⟩, by kernel_rfl, h0, h1, h2, h3, h4⟩
end Go.Proofs.YtfknpnkdedckhaaGreatDoorT
