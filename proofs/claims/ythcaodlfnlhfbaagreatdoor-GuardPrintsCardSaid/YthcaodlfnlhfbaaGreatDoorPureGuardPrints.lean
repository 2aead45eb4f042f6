/- GuardPrints: at what a law is handed. -/
import Derived.Test.YthcaodlfnlhfbaaGreatDoorM3
import Derived.Test.YthcaodlfnlhfbaaGreatDoorD
namespace Go.Proofs.YthcaodlfnlhfbaaGreatDoorT
open Go Go.Proofs
theorem guardPrints_pure {n m : Nat} {t u : List T} (h : Ty Tryz.prog n 24 t) (h' : Ty Tryz.prog m 9 u) : Rn 5 [valT Tryz.prog 24 t, valT Tryz.prog 9 u] (tb true, [.dead, .dead]) := by
  obtain ⟨w, h1, _, _, hS, hs⟩ := d24 h
  obtain ⟨s, h2, _⟩ := d9 h'
  rw [h1, h2]
  exact guardPrints_row hS hs s
end Go.Proofs.YthcaodlfnlhfbaaGreatDoorT
