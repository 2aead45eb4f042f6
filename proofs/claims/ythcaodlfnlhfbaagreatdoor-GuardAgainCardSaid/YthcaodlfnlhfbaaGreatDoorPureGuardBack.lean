/- GuardBack, GuardAgain: at what a law is handed. -/
import Derived.Test.YthcaodlfnlhfbaaGreatDoorM3
import Derived.Test.YthcaodlfnlhfbaaGreatDoorD
namespace Go.Proofs.YthcaodlfnlhfbaaGreatDoorT
open Go Go.Proofs
theorem guardBack_pure {n : Nat} {t : List T} (h : Ty Tryz.prog n 24 t) : Rn 3 [valT Tryz.prog 24 t] (tb true, [.dead]) := by
  obtain ⟨w, h1, _, _, hS, hs⟩ := d24 h
  rw [h1]
  exact guardBack_row hS hs
theorem guardAgain_pure {n : Nat} {t : List T} (h : Ty Tryz.prog n 9 t) : Rn 4 [valT Tryz.prog 9 t] (tb true, [.dead]) := by
  obtain ⟨s, h2, _⟩ := d9 h
  rw [h2]
  exact guardAgain_row s
end Go.Proofs.YthcaodlfnlhfbaaGreatDoorT
