/- The interpreter over trees: short words for what is printed. -/
import Derived.Test.YthcaodlfnlhfbaaDoorT23
namespace Go.Proofs.YthcaodlfnlhfbaaDoorT
open Go
set_option linter.unusedVariables false

def i64 (n : Int) : T := .s (.int .i64 n)
def i32 (n : Int) : T := .s (.int .i32 n)
def u8 (n : Int) : T := .s (.int .u8 n)
def st (b : ByteArray) : T := .s (.string b)
def nilS : T := .s (.slice none 0 0)
def nilP : T := .s (.pointer none)
def bs (l : List UInt8) : ByteArray := ⟨l.toArray⟩
/-- An interface value: its type's number (0: nil), what stands in it. -/
structure IfV where
  t : TypeId
  x : T
  deriving Inhabited
def IfV.v (i : IfV) : T := .ifc i.t i.x
/-- nil, or a slice of one's own. -/
def mnT (K : Loc) (ws : List T) : T := match ws with
  | [] => nilS
  | _ :: _ => .own K
def mnH (K : Loc) (e : TypeId) (sz : Nat) (ws : List T) : List (Loc × O) := match ws with
  | [] => []
  | _ :: _ => [(K, .arr e sz ws)]
def mnC (e : TypeId) (sz : Nat) (ws : List T) : T := match ws with
  | [] => nilS
  | _ :: _ => .cown e sz ws
def annAt {α : Type 1} (d : α) : List (Nat × α) → Nat → α
  | [], _ => d
  | e :: r, s => cond (Nat.beq e.1 s) e.2 (annAt d r s)
def cutAt : List (Nat × List Nat) → Nat → Option (List Nat)
  | [], _ => none
  | e :: r, s => cond (Nat.beq e.1 s) (some e.2) (cutAt r s)
/-- What stands in a box, or is captured. -/
def capA : T → Nat → T
  | .fn _ _ cs, i => cs.getD i .dead
  | .cbox _ cs, i => cs.getD i .dead
  | _, _ => .dead
/-- What is bound. -/
def fnA : T → Nat → T
  | .fn _ fs _, i => fs.getD i .dead
  | _, _ => .dead
def mkAnn (c : List (Nat × (List T → List (Enc (T × List T))))) (e : List (Nat × List (Enc T))) (i : List (Nat × List (TypeId × List (Enc T)))) (k : List (Nat × List Nat)) : Ann := { call := annAt (fun _ => []) c, elem := annAt [] e, inv := annAt [] i, cut := cutAt k }
theorem via {A B : Prop} (e : A = B) : A → B := fun h => e ▸ h
def mvOf (l : List Nat) (f : Nat) : Bool := l.any (Nat.beq f)
end Go.Proofs.YthcaodlfnlhfbaaDoorT
