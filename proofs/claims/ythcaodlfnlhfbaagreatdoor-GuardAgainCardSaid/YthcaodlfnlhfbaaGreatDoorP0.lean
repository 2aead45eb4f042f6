/- The program's structures, as they are read. -/
import Derived.Test.YthcaodlfnlhfbaaGreatDoorT24
import Derived.Test.YthcaodlfnlhfbaaGreatDoorProg
import Derived.KernelRfl
namespace Go.Proofs.YthcaodlfnlhfbaaGreatDoorT
open Go Go.Proofs
set_option linter.unusedVariables false
theorem mixed : Tryz.prog.follows .mixedOrders = true := by kernel_rfl
def MV : FuncId → Bool := mvOf []
abbrev Rn (f : FuncId) (args : List T) (R : T × List T) : Prop := Runs Tryz.prog f args R
structure W_tumbrelref04_Node where
  fKind : Int
  fN : Int
  fS : ByteArray
  fParts : List T
def W_tumbrelref04_Node.t (w : W_tumbrelref04_Node) : T := .agg [(i64 w.fKind), (i64 w.fN), (st w.fS), (.sl 4 w.fParts)]
structure W_api_Pos where
  fLine : Int
  fCol : Int
def W_api_Pos.t (w : W_api_Pos) : T := .agg [(i64 w.fLine), (i64 w.fCol)]
structure W_expr_Lit where
  fN : Int
def W_expr_Lit.t (w : W_expr_Lit) : T := .agg [(i64 w.fN)]
structure W_expr_Ref where
  fName : ByteArray
def W_expr_Ref.t (w : W_expr_Ref) : T := .agg [(st w.fName)]
structure W_expr_Bin where
  fOp : ByteArray
  fL : IfV
  fR : IfV
def W_expr_Bin.t (w : W_expr_Bin) : T := .agg [(st w.fOp), w.fL.v, w.fR.v]
structure W_expr_Neg where
  fX : IfV
def W_expr_Neg.t (w : W_expr_Neg) : T := .agg [w.fX.v]
structure W_expr_Not where
  fX : IfV
def W_expr_Not.t (w : W_expr_Not) : T := .agg [w.fX.v]
structure W_glyph_lexer where
  ftext : ByteArray
  fwords : List T
  fskip : Int
  fnote : Bool
  fat_Line : Int
  fat_Col : Int
def W_glyph_lexer.t (w : W_glyph_lexer) : T := .agg [(st w.ftext), (.sl 4 w.fwords), (i64 w.fskip), (tb w.fnote), (i64 w.fat_Line), (i64 w.fat_Col)]
structure W_glyph_Word where
  fKind : Int
  fText : ByteArray
  fAt_Line : Int
  fAt_Col : Int
def W_glyph_Word.t (w : W_glyph_Word) : T := .agg [(i64 w.fKind), (st w.fText), (i64 w.fAt_Line), (i64 w.fAt_Col)]
structure W_guard_parser where
  fwords : List T
  fat : Int
  fbad : Bool
def W_guard_parser.t (w : W_guard_parser) : T := .agg [(.sl 4 w.fwords), (i64 w.fat), (tb w.fbad)]
end Go.Proofs.YthcaodlfnlhfbaaGreatDoorT
