/- The program's structures, as they are read. -/
import Derived.Test.YtfknpnkdedckhaaGreatDoorT24
import Derived.Test.YtfknpnkdedckhaaGreatDoorProg
import Derived.KernelRfl
namespace Go.Proofs.YtfknpnkdedckhaaGreatDoorT
open Go Go.Proofs
set_option linter.unusedVariables false
theorem mixed : Tryz.prog.follows .mixedOrders = true := by kernel_rfl
def MV : FuncId → Bool := mvOf []
abbrev Rn (f : FuncId) (args : List T) (R : T × List T) : Prop := Runs Tryz.prog f args R
structure W_tumbrelref06_Chart where
  fName : ByteArray
  fVersion : Int
  fAt_Line : Int
  fAt_Col : Int
  fVars : List T
  fStates : List T
def W_tumbrelref06_Chart.t (w : W_tumbrelref06_Chart) : T := .agg [(st w.fName), (i64 w.fVersion), (i64 w.fAt_Line), (i64 w.fAt_Col), (.sl 4 w.fVars), (.sl 11 w.fStates)]
structure W_chart_Chart where
  fName : ByteArray
  fVersion : Int
  fAt_Line : Int
  fAt_Col : Int
  fVars : List T
  fStates : List T
def W_chart_Chart.t (w : W_chart_Chart) : T := .agg [(st w.fName), (i64 w.fVersion), (i64 w.fAt_Line), (i64 w.fAt_Col), (.sl 4 w.fVars), (.sl 11 w.fStates)]
structure W_api_Pos where
  fLine : Int
  fCol : Int
def W_api_Pos.t (w : W_api_Pos) : T := .agg [(i64 w.fLine), (i64 w.fCol)]
structure W_glyph_lexer where
  ftext : ByteArray
  fwords : List T
  fskip : Int
  fnote : Bool
  fat_Line : Int
  fat_Col : Int
def W_glyph_lexer.t (w : W_glyph_lexer) : T := .agg [(st w.ftext), (.sl 4 w.fwords), (i64 w.fskip), (tb w.fnote), (i64 w.fat_Line), (i64 w.fat_Col)]
structure W_tumbrelref06_Var where
  fName : ByteArray
  fN : Int
  fAt_Line : Int
  fAt_Col : Int
def W_tumbrelref06_Var.t (w : W_tumbrelref06_Var) : T := .agg [(st w.fName), (i64 w.fN), (i64 w.fAt_Line), (i64 w.fAt_Col)]
structure W_tumbrelref06_State where
  fName : ByteArray
  fAt_Line : Int
  fAt_Col : Int
  fAll : Bool
  fEnd : Bool
  fDo : ByteArray
  fUndo : ByteArray
  fWhere : Int
  fRetries : Int
  fOns : List T
  fInner : List T
def W_tumbrelref06_State.t (w : W_tumbrelref06_State) : T := .agg [(st w.fName), (i64 w.fAt_Line), (i64 w.fAt_Col), (tb w.fAll), (tb w.fEnd), (st w.fDo), (st w.fUndo), (i64 w.fWhere), (i64 w.fRetries), (.sl 10 w.fOns), (.sl 11 w.fInner)]
structure W_glyph_Word where
  fKind : Int
  fText : ByteArray
  fAt_Line : Int
  fAt_Col : Int
def W_glyph_Word.t (w : W_glyph_Word) : T := .agg [(i64 w.fKind), (st w.fText), (i64 w.fAt_Line), (i64 w.fAt_Col)]
structure W_tumbrelref06_On where
  fEvent : ByteArray
  fHas : Bool
  fGuard_Kind : Int
  fGuard_N : Int
  fGuard_S : ByteArray
  fGuard_Parts : List T
  fTarget : ByteArray
  fSets : List T
  fAt_Line : Int
  fAt_Col : Int
def W_tumbrelref06_On.t (w : W_tumbrelref06_On) : T := .agg [(st w.fEvent), (tb w.fHas), (i64 w.fGuard_Kind), (i64 w.fGuard_N), (st w.fGuard_S), (.sl 4 w.fGuard_Parts), (st w.fTarget), (.sl 5 w.fSets), (i64 w.fAt_Line), (i64 w.fAt_Col)]
structure W_tumbrelref06_Set where
  fName : ByteArray
  fTo_Kind : Int
  fTo_N : Int
  fTo_S : ByteArray
  fTo_Parts : List T
def W_tumbrelref06_Set.t (w : W_tumbrelref06_Set) : T := .agg [(st w.fName), (i64 w.fTo_Kind), (i64 w.fTo_N), (st w.fTo_S), (.sl 4 w.fTo_Parts)]
structure W_chart_State where
  fName : ByteArray
  fAt_Line : Int
  fAt_Col : Int
  fAll : Bool
  fEnd : Bool
  fDo : ByteArray
  fUndo : ByteArray
  fWhere : Int
  fRetries : Int
  fOns : List T
  fInner : List T
def W_chart_State.t (w : W_chart_State) : T := .agg [(st w.fName), (i64 w.fAt_Line), (i64 w.fAt_Col), (tb w.fAll), (tb w.fEnd), (st w.fDo), (st w.fUndo), (i64 w.fWhere), (i64 w.fRetries), (.sl 6 w.fOns), (.sl 11 w.fInner)]
structure W_chart_On where
  fEvent : ByteArray
  fGuard : IfV
  fTarget : ByteArray
  fSets : List T
  fAt_Line : Int
  fAt_Col : Int
def W_chart_On.t (w : W_chart_On) : T := .agg [(st w.fEvent), w.fGuard.v, (st w.fTarget), (.sl 2 w.fSets), (i64 w.fAt_Line), (i64 w.fAt_Col)]
structure W_tumbrelref04_Node where
  fKind : Int
  fN : Int
  fS : ByteArray
  fParts : List T
def W_tumbrelref04_Node.t (w : W_tumbrelref04_Node) : T := .agg [(i64 w.fKind), (i64 w.fN), (st w.fS), (.sl 4 w.fParts)]
structure W_chart_Var where
  fName : ByteArray
  fN : Int
  fAt_Line : Int
  fAt_Col : Int
def W_chart_Var.t (w : W_chart_Var) : T := .agg [(st w.fName), (i64 w.fN), (i64 w.fAt_Line), (i64 w.fAt_Col)]
structure W_chart_Set where
  fName : ByteArray
  fTo : IfV
def W_chart_Set.t (w : W_chart_Set) : T := .agg [(st w.fName), w.fTo.v]
structure W_expr_Lit where
  fN : Int
def W_expr_Lit.t (w : W_expr_Lit) : T := .agg [(i64 w.fN)]
structure W_expr_Ref where
  fName : ByteArray
def W_expr_Ref.t (w : W_expr_Ref) : T := .agg [(st w.fName)]
structure W_expr_Not where
  fX : IfV
def W_expr_Not.t (w : W_expr_Not) : T := .agg [w.fX.v]
structure W_expr_Neg where
  fX : IfV
def W_expr_Neg.t (w : W_expr_Neg) : T := .agg [w.fX.v]
structure W_expr_Bin where
  fOp : ByteArray
  fL : IfV
  fR : IfV
def W_expr_Bin.t (w : W_expr_Bin) : T := .agg [(st w.fOp), w.fL.v, w.fR.v]
end Go.Proofs.YtfknpnkdedckhaaGreatDoorT
