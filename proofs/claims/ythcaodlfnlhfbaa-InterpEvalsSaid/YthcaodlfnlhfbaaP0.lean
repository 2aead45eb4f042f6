/- The program's structures, as they are read. -/
import Derived.Test.YthcaodlfnlhfbaaT24
import Derived.Test.YthcaodlfnlhfbaaProg
import Derived.KernelRfl
namespace Go.Proofs.YthcaodlfnlhfbaaT
open Go Go.Proofs
set_option linter.unusedVariables false
theorem mixed : Try.prog.follows .mixedOrders = true := by kernel_rfl
def MV : FuncId → Bool := mvOf []
abbrev Rn (f : FuncId) (args : List T) (R : T × List T) : Prop := Runs Try.prog f args R
structure W_tumbrelref04_Node where
  fKind : Int
  fN : Int
  fS : ByteArray
  fParts : List T
def W_tumbrelref04_Node.t (w : W_tumbrelref04_Node) : T := .agg [(i64 w.fKind), (i64 w.fN), (st w.fS), (.sl 4 w.fParts)]
structure W_api_Var where
  fName : ByteArray
  fN : Int
def W_api_Var.t (w : W_api_Var) : T := .agg [(st w.fName), (i64 w.fN)]
structure W_expr_Lit where
  fN : Int
def W_expr_Lit.t (w : W_expr_Lit) : T := .agg [(i64 w.fN)]
structure W_expr_Ref where
  fName : ByteArray
def W_expr_Ref.t (w : W_expr_Ref) : T := .agg [(st w.fName)]
structure W_expr_Not where
  fX : IfV
def W_expr_Not.t (w : W_expr_Not) : T := .agg [w.fX.v]
structure W_expr_Neg where
  fX : IfV
def W_expr_Neg.t (w : W_expr_Neg) : T := .agg [w.fX.v]
structure W_expr_Bin where
  fOp : ByteArray
  fL : IfV
  fR : IfV
def W_expr_Bin.t (w : W_expr_Bin) : T := .agg [(st w.fOp), w.fL.v, w.fR.v]
structure W_table_coder where
  fvars : List T
  fout : List T
def W_table_coder.t (w : W_table_coder) : T := .agg [(.sl 2 w.fvars), (.sl 2 w.fout)]
structure W_table_Instr where
  fOp : ByteArray
  fN : Int
def W_table_Instr.t (w : W_table_Instr) : T := .agg [(st w.fOp), (i64 w.fN)]
end Go.Proofs.YthcaodlfnlhfbaaT
