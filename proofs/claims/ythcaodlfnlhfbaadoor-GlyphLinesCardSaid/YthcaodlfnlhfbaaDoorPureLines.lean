/- GlyphLines: at what a law is handed. -/
import Derived.Test.YthcaodlfnlhfbaaDoorG12
import Derived.Test.YthcaodlfnlhfbaaDoorD
namespace Go.Proofs.YthcaodlfnlhfbaaDoorT
open Go Go.Proofs
theorem glyphLines_pure {n : Nat} {t : List T} (h : Ty Tryd.prog n 9 t) : Rn 8 [valT Tryd.prog 9 t] (tb true, [.dead]) := by
  obtain ⟨w, h1, h2⟩ := d9 h
  rw [h1]
  exact glyphLines_row w
end Go.Proofs.YthcaodlfnlhfbaaDoorT
