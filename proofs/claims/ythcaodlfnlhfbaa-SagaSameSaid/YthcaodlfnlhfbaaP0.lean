/- The program's structures, as they are read. -/
import Derived.Test.YthcaodlfnlhfbaaT24
import Derived.Test.YthcaodlfnlhfbaaProg
import Derived.KernelRfl
namespace Go.Proofs.YthcaodlfnlhfbaaT
open Go Go.Proofs
set_option linter.unusedVariables false
theorem mixed : Try.prog.follows .mixedOrders = true := by kernel_rfl
def MV : FuncId → Bool := mvOf []
abbrev Rn (f : FuncId) (args : List T) (R : T × List T) : Prop := Runs Try.prog f args R
structure W_tumbrelref06_Chart where
  fName : ByteArray
  fVersion : Int
  fAt_Line : Int
  fAt_Col : Int
  fVars : List T
  fStates : List T
def W_tumbrelref06_Chart.t (w : W_tumbrelref06_Chart) : T := .agg [(st w.fName), (i64 w.fVersion), (i64 w.fAt_Line), (i64 w.fAt_Col), (.sl 4 w.fVars), (.sl 11 w.fStates)]
structure W_tumbrelref20_Instance where
  fPhase : Int
  fActive : List T
  fVars : List T
  fWorks : List T
  fLast : Int
  fStack : List T
  fUndoAttempt : Int
  fUndoSent : Bool
  fHeld : Bool
def W_tumbrelref20_Instance.t (w : W_tumbrelref20_Instance) : T := .agg [(i64 w.fPhase), (.sl 1 w.fActive), (.sl 1 w.fVars), (.sl 4 w.fWorks), (i64 w.fLast), (.sl 3 w.fStack), (i64 w.fUndoAttempt), (tb w.fUndoSent), (tb w.fHeld)]
structure W_saga_Instance where
  fPhase : Int
  fActive : List T
  fVars : List T
  fWorks : List T
  fLast : Int
  fStack : List T
  fUndoAttempt : Int
  fUndoSent : Bool
  fHeld : Bool
def W_saga_Instance.t (w : W_saga_Instance) : T := .agg [(i64 w.fPhase), (.sl 1 w.fActive), (.sl 1 w.fVars), (.sl 4 w.fWorks), (i64 w.fLast), (.sl 3 w.fStack), (i64 w.fUndoAttempt), (tb w.fUndoSent), (tb w.fHeld)]
structure W_tumbrelref20_Entry where
  fTurn : Int
  fUndo : ByteArray
  fWhere : Int
def W_tumbrelref20_Entry.t (w : W_tumbrelref20_Entry) : T := .agg [(i64 w.fTurn), (st w.fUndo), (i64 w.fWhere)]
structure W_tumbrelref20_Work where
  fState : Int
  fTurn : Int
  fAttempt : Int
  fSent : Bool
def W_tumbrelref20_Work.t (w : W_tumbrelref20_Work) : T := .agg [(i64 w.fState), (i64 w.fTurn), (i64 w.fAttempt), (tb w.fSent)]
structure W_saga_Work where
  fState : Int
  fTurn : Int
  fAttempt : Int
  fSent : Bool
def W_saga_Work.t (w : W_saga_Work) : T := .agg [(i64 w.fState), (i64 w.fTurn), (i64 w.fAttempt), (tb w.fSent)]
structure W_saga_Entry where
  fTurn : Int
  fUndo : ByteArray
  fWhere : Int
def W_saga_Entry.t (w : W_saga_Entry) : T := .agg [(i64 w.fTurn), (st w.fUndo), (i64 w.fWhere)]
structure W_tumbrelref06_State where
  fName : ByteArray
  fAt_Line : Int
  fAt_Col : Int
  fAll : Bool
  fEnd : Bool
  fDo : ByteArray
  fUndo : ByteArray
  fWhere : Int
  fRetries : Int
  fOns : List T
  fInner : List T
def W_tumbrelref06_State.t (w : W_tumbrelref06_State) : T := .agg [(st w.fName), (i64 w.fAt_Line), (i64 w.fAt_Col), (tb w.fAll), (tb w.fEnd), (st w.fDo), (st w.fUndo), (i64 w.fWhere), (i64 w.fRetries), (.sl 10 w.fOns), (.sl 11 w.fInner)]
structure W_tumbrelref06_On where
  fEvent : ByteArray
  fHas : Bool
  fGuard_Kind : Int
  fGuard_N : Int
  fGuard_S : ByteArray
  fGuard_Parts : List T
  fTarget : ByteArray
  fSets : List T
  fAt_Line : Int
  fAt_Col : Int
def W_tumbrelref06_On.t (w : W_tumbrelref06_On) : T := .agg [(st w.fEvent), (tb w.fHas), (i64 w.fGuard_Kind), (i64 w.fGuard_N), (st w.fGuard_S), (.sl 4 w.fGuard_Parts), (st w.fTarget), (.sl 5 w.fSets), (i64 w.fAt_Line), (i64 w.fAt_Col)]
structure W_tumbrelref06_Set where
  fName : ByteArray
  fTo_Kind : Int
  fTo_N : Int
  fTo_S : ByteArray
  fTo_Parts : List T
def W_tumbrelref06_Set.t (w : W_tumbrelref06_Set) : T := .agg [(st w.fName), (i64 w.fTo_Kind), (i64 w.fTo_N), (st w.fTo_S), (.sl 4 w.fTo_Parts)]
structure W_tumbrelref04_Node where
  fKind : Int
  fN : Int
  fS : ByteArray
  fParts : List T
def W_tumbrelref04_Node.t (w : W_tumbrelref04_Node) : T := .agg [(i64 w.fKind), (i64 w.fN), (st w.fS), (.sl 4 w.fParts)]
structure W_tumbrelref06_Var where
  fName : ByteArray
  fN : Int
  fAt_Line : Int
  fAt_Col : Int
def W_tumbrelref06_Var.t (w : W_tumbrelref06_Var) : T := .agg [(st w.fName), (i64 w.fN), (i64 w.fAt_Line), (i64 w.fAt_Col)]
end Go.Proofs.YthcaodlfnlhfbaaT
