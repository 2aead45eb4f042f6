/- GuardParses, GuardTakes: at what a law is handed. -/
import Derived.Test.YthcaodlfnlhfbaaDoorH6
import Derived.Test.YthcaodlfnlhfbaaDoorD
namespace Go.Proofs.YthcaodlfnlhfbaaDoorT
open Go Go.Proofs
theorem guardParses_pure {n : Nat} {t : List T} (h : Ty Tryd.prog n 9 t) : Rn 9 [valT Tryd.prog 9 t] (tb true, [.dead]) := by
  obtain ⟨w, h1, h2⟩ := d9 h
  rw [h1]
  exact guardParses_row w
theorem guardTakes_pure {n : Nat} {t : List T} (h : Ty Tryd.prog n 9 t) : Rn 10 [valT Tryd.prog 9 t] (tb true, [.dead]) := by
  obtain ⟨w, h1, h2⟩ := d9 h
  rw [h1]
  exact guardTakes_row w
end Go.Proofs.YthcaodlfnlhfbaaDoorT
