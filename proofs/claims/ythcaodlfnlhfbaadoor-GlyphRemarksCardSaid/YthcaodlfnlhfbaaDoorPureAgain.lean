/- GlyphAgain, GlyphRemarks: at what a law is handed. -/
import Derived.Test.YthcaodlfnlhfbaaDoorR3
import Derived.Test.YthcaodlfnlhfbaaDoorD
namespace Go.Proofs.YthcaodlfnlhfbaaDoorT
open Go Go.Proofs
theorem glyphAgain_pure {n : Nat} {t : List T} (h : Ty Tryd.prog n 9 t) : Rn 3 [valT Tryd.prog 9 t] (tb true, [.dead]) := by
  obtain ⟨w, h1, h2⟩ := d9 h
  rw [h1]
  exact glyphAgain_row w
theorem glyphRemarks_pure {n m k : Nat} {t u v : List T} (h : Ty Tryd.prog n 9 t) (h' : Ty Tryd.prog m 9 u) (h'' : Ty Tryd.prog k 9 v) : Rn 4 [valT Tryd.prog 9 t, valT Tryd.prog 9 u, valT Tryd.prog 9 v] (tb true, [.dead, .dead, .dead]) := by
  obtain ⟨w, h1, _⟩ := d9 h
  obtain ⟨x, h3, _⟩ := d9 h'
  obtain ⟨y, h5, _⟩ := d9 h''
  rw [h1, h3, h5]
  exact glyphRemarks_row w x y
end Go.Proofs.YthcaodlfnlhfbaaDoorT
