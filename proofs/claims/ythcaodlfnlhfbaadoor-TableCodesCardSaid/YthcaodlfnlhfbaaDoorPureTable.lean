/- TableCodes: at what a law is handed. -/
import Derived.Test.YthcaodlfnlhfbaaDoorE9
import Derived.Test.YthcaodlfnlhfbaaDoorX12
import Derived.Test.YthcaodlfnlhfbaaDoorD
namespace Go.Proofs.YthcaodlfnlhfbaaDoorT
open Go Go.Proofs
theorem vars_of {m : Nat} {xs : List T} (h : SlT Tryd.prog m 41 xs) : ∃ V : List W_api_Var, xs = V.map W_api_Var.t ∧ V.length ≤ maxLen := by
  obtain ⟨ys, rfl, hl, hy⟩ := h
  suffices ∃ V : List W_api_Var, ys.map (valT Tryd.prog 41) = V.map W_api_Var.t ∧ V.length = ys.length by
    obtain ⟨V, h1, h2⟩ := this
    exact ⟨V, h1, by omega⟩
  clear hl
  induction ys with
  | nil => exact ⟨[], rfl, rfl⟩
  | cons y ys ih =>
    obtain ⟨V, h1, h2⟩ := ih fun z hz => hy z (List.mem_cons_of_mem _ hz)
    obtain ⟨w, hw, _⟩ := d41 (hy y (by simp))
    exact ⟨w :: V, by simp [h1, hw], by simp [h2]⟩
theorem tableCodes_pure {n1 n2 : Nat} {t1 t2 : List T} (h1 : Ty Tryd.prog n1 37 t1) (h2 : Ty Tryd.prog n2 38 t2) : Rn 6 [valT Tryd.prog 37 t1, valT Tryd.prog 38 t2] (tb true, [.dead, .dead]) := by
  obtain ⟨w, e1, _, _, hS, m, _, hs⟩ := d37 h1
  obtain ⟨xs, e2, k, _, hx⟩ := d38 h2
  obtain ⟨V, rfl, hV⟩ := vars_of hx
  rw [e1, e2]
  exact tableCodes_row refsSaid w hS hs V hV
end Go.Proofs.YthcaodlfnlhfbaaDoorT
