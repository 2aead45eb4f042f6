/- AdminParses: at what a law is handed. -/
import Derived.Test.YtgfaadooijngnaaDoorA3
import Derived.Test.YtgfaadooijngnaaDoorD
namespace Go.Proofs.YtgfaadooijngnaaDoorT
open Go Go.Proofs
theorem adminParses_pure {n m : Nat} {t u : List T} (h : Ty Tryd.prog n 9 t) (h' : Ty Tryd.prog m 3 u) : Rn 3 [valT Tryd.prog 9 t, valT Tryd.prog 3 u] (tb true, [.dead, .dead]) := by
  obtain ⟨w, h1, _⟩ := d9 h
  obtain ⟨e, h2, _⟩ := d3 h'
  rw [h1, h2]
  exact adminParses_row w e
end Go.Proofs.YtgfaadooijngnaaDoorT
