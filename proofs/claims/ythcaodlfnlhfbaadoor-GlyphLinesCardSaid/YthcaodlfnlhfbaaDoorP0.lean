/- The program's structures, as they are read. -/
import Derived.Test.YthcaodlfnlhfbaaDoorT24
import Derived.Test.YthcaodlfnlhfbaaDoorProg
import Derived.KernelRfl
namespace Go.Proofs.YthcaodlfnlhfbaaDoorT
open Go Go.Proofs
set_option linter.unusedVariables false
theorem mixed : Tryd.prog.follows .mixedOrders = true := by kernel_rfl
def MV : FuncId → Bool := mvOf []
abbrev Rn (f : FuncId) (args : List T) (R : T × List T) : Prop := Runs Tryd.prog f args R
structure W_api_Pos where
  fLine : Int
  fCol : Int
def W_api_Pos.t (w : W_api_Pos) : T := .agg [(i64 w.fLine), (i64 w.fCol)]
structure W_glyph_Word where
  fKind : Int
  fText : ByteArray
  fAt_Line : Int
  fAt_Col : Int
def W_glyph_Word.t (w : W_glyph_Word) : T := .agg [(i64 w.fKind), (st w.fText), (i64 w.fAt_Line), (i64 w.fAt_Col)]
structure W_glyph_lexer where
  ftext : ByteArray
  fwords : List T
  fskip : Int
  fnote : Bool
  fat_Line : Int
  fat_Col : Int
def W_glyph_lexer.t (w : W_glyph_lexer) : T := .agg [(st w.ftext), (.sl 4 w.fwords), (i64 w.fskip), (tb w.fnote), (i64 w.fat_Line), (i64 w.fat_Col)]
structure W_tumbrelref03_Word where
  fKind : Int
  fText : ByteArray
  fAt_Line : Int
  fAt_Col : Int
def W_tumbrelref03_Word.t (w : W_tumbrelref03_Word) : T := .agg [(i64 w.fKind), (st w.fText), (i64 w.fAt_Line), (i64 w.fAt_Col)]
end Go.Proofs.YthcaodlfnlhfbaaDoorT
