/- GlyphWords, GlyphNames: at what a law is handed. -/
import Derived.Test.YthcaodlfnlhfbaaDoorG10
import Derived.Test.YthcaodlfnlhfbaaDoorD
namespace Go.Proofs.YthcaodlfnlhfbaaDoorT
open Go Go.Proofs
theorem glyphWords_pure {n : Nat} {t : List T} (h : Ty Tryd.prog n 9 t) : Rn 7 [valT Tryd.prog 9 t] (tb true, [.dead]) := by
  obtain ⟨w, h1, h2⟩ := d9 h
  rw [h1]
  exact glyphWords_row w
theorem glyphNames_pure {n m : Nat} {t u : List T} (h : Ty Tryd.prog n 9 t) (h' : Ty Tryd.prog m 21 u) : Rn 5 [valT Tryd.prog 9 t, valT Tryd.prog 21 u] (tb true, [.dead, .dead]) := by
  obtain ⟨w, h1, h2⟩ := d9 h
  obtain ⟨x, h3, h4⟩ := d21 h'
  rw [h1, h3]
  exact glyphNames_row w h2 x
end Go.Proofs.YthcaodlfnlhfbaaDoorT
