/- The interpreter over trees: its words. (No program in sight: sound for any program of the model; the proof stands in the texts behind.) -/
import Derived.WalkKit
import Derived.RowKit
import Derived.KernelRfl
import Derived.Test.YtfknpnkdedckhaaGreatDoorT0
import Derived.Below
import Derived.OwnWalk
import Derived.Laws.Cells
import Derived.Laws.CopyRow
import Derived.Maps.AppendAt
import Derived.Laws.StructEq
import Derived.Laws.Append
import Derived.Great.BuildSlice
import Derived.Laws.OwnMore
namespace Go.Proofs.YtfknpnkdedckhaaGreatDoorT
open Go
set_option linter.unusedVariables false

/-- A key of the store: where it was made (a number of the code's place), and which one of those made there. -/
abbrev Loc := Nat × Nat

/-- Values as trees. s: plain, no address in it; sl: a slice that is only read (the cells of an element, the elements); own, ptr, eptr, it: what is the call's own; ep: a pointer to cells that are only read; cown, cbox: owned things by value, at a call's border. -/
inductive T where
  | s (v : Value)
  | agg (cs : List T)
  | tup (cs : List T)
  | ifc (t : TypeId) (x : T)
  | sl (sz : Nat) (xs : List T)
  | own (l : Loc)
  | ptr (l : Loc) (off : Nat)
  | ep (cs : List T)
  | eptr (l : Loc) (sz i off : Nat)
  | fn (f : Fn) (fs cs : List T)
  | it (l : Loc)
  | cown (e : TypeId) (sz : Nat) (xs : List T)
  | cbox (ty : TypeId) (cs : List T)
  | dead
  deriving Inhabited

/-- What is the call's own in memory. -/
inductive O where
  | box (ty : TypeId) (cs : List T)
  | arr (e : TypeId) (sz : Nat) (xs : List T)
  | iter (b : ByteArray) (pos : Nat)
  deriving Inhabited

structure St where
  τ : Nat → T
  σ : Loc → Option O
  cnt : Nat → Nat
  nt : Nat

/-- What an operation does. -/
structure Dl where
  v : T
  upd : List (Loc × Option O)
  bump : List Nat
  rd : List Loc
  deriving Inhabited

def T.cells : T → List T
  | .agg cs => cs
  | x => [x]
/-- A value that may stand in a cell or be stored: no tuple, nothing unknown, no iterator. -/
def T.ok1 : T → Bool
  | .dead | .tup _ | .cown .. | .cbox .. | .it _ => false
  | _ => true
def plainV : Value → Bool
  | .bool _ | .int .. | .float .. | .string _ | .pointer none | .slice none 0 0 | .map none | .chan none | .nilFunc => true
  | .func _ a b => a.isEmpty && b.isEmpty
  | _ => false
/-- nil of an interface: type 0. -/
def nilI : T := .ifc 0 .dead
def plainI : Value → Bool
  | .nilIface => true
  | v => plainV v
def ofV : Value → T
  | .nilIface => nilI
  | v => .s v
def szok (sz n : Nat) (xs : List T) : Bool := decide (sz = n) || xs.isEmpty

/-! ### Types -/
section
variable (P : Program)
def aggOf (t : TypeId) : Option Bool := match P.underlying t with
  | some (.struct _) | some (.array _ _) => some true
  | some _ => some false
  | none => none
def szOf (t : TypeId) : Option Nat := (P.info? t).map (·.size)
def bytesOf (t : TypeId) : Option Nat := (P.info? t).map (·.bytes)
def zeroFits (d : Option TypeDesc) (z : Value) : Bool := match d, z with
  | some (.struct _), .agg _ | some (.array _ _), .agg _ => true
  | some (.struct _), _ | some (.array _ _), _ => false
  | some _, .agg _ => false
  | some _, .tuple _ => false
  | some _, _ => true
  | none, _ => false
def zeroOf (t : TypeId) : Option (List T) := match P.info? t with
  | some i => match i.zero with
    | some z => if z.cells.toList.all plainI && decide (z.cells.size = i.size) && zeroFits (P.underlying t) z then some (z.cells.toList.map ofV) else none
    | none => none
  | none => none
/-- A field's place, its cells and its type. -/
def fieldOf (t : TypeId) (i : Nat) : Option (Nat × Nat × TypeId) := match P.underlying t with
  | some (.struct fs) => match fs[i]? with
    | some f => match szOf P f.type with
      | some n => if n = 0 then none else some (f.offset, n, f.type)
      | none => none
    | none => none
  | _ => none
def elemOf (t : TypeId) : Option TypeId := match P.underlying t with
  | some (.slice e) => some e
  | _ => none
/-- A value of a type out of cells. -/
def ofCells (t : TypeId) (cs : List T) : Option T := match aggOf P t, szOf P t with
  | some true, some n => if n ≤ cs.length then some (.agg (cs.take n)) else none
  | some false, some n => if n = 1 then cs.head? else none
  | _, _ => none
end
/-- An empty slice bears its element's size. -/
def canC (P : Program) (t : TypeId) : T → T
  | .sl sz xs => if sz = 0 then (match P.underlying t, xs with
    | some (.slice e), [] => (match szOf P e with | some n => .sl n [] | none => .sl sz xs)
    | _, _ => .sl sz xs) else .sl sz xs
  | x => x
def leafT (P : Program) : Nat → TypeId → List TypeId
  | 0, t => [t]
  | d + 1, t => match P.underlying t with
    | some (.struct fs) => fs.toList.flatMap fun f => leafT P d f.type
    | some (.array n e) => (List.replicate n (leafT P d e)).flatten
    | _ => [t]
def canL (P : Program) : List TypeId → List T → List T
  | t :: ts, c :: cs => canC P t c :: canL P ts cs
  | _, cs => cs
def canT (P : Program) (t : TypeId) : T → T
  | .agg cs => .agg (canL P (leafT P 6 t) cs)
  | x => canC P t x
def canA (P : Program) (f : FuncId) (args : List T) : List T := match P.funcs[f]? with
  | some fn => if fn.params.size = args.length then List.zipWith (canT P) fn.params.toList args else args
  | none => args
def splice (cs : List T) (off : Nat) (new : List T) : List T := cs.take off ++ new ++ cs.drop (off + new.length)

/-! ### Turned for a call: frozen (read only), closed (handed over), opened -/
section
variable (σ : Loc → Option O)
mutual
def frz : T → Option (T × List Loc)
  | .s (.slice none 0 0) => some (.sl 0 [], [])
  | .s v => some (.s v, [])
  | .agg cs => match frzL cs with | some (cs', r) => some (.agg cs', r) | none => none
  | .own l => match σ l with
    | some (.arr _ sz xs) => some (.sl sz xs, [l])
    | _ => none
  | .sl sz xs => some (.sl sz xs, [])
  | .ifc t x => some (.ifc t x, [])
  | .ep cs => some (.ep cs, [])
  | _ => none
def frzL : List T → Option (List T × List Loc)
  | [] => some ([], [])
  | x :: r => match frz x, frzL r with
    | some (x', a), some (r', b) => some (x' :: r', a ++ b)
    | _, _ => none
end
mutual
def clsT (rec : List T → Option (List T × List Loc)) : T → Option (T × List Loc)
  | .s v => some (.s v, [])
  | .agg cs => match clsTL rec cs with | some (cs', r) => some (.agg cs', r) | none => none
  | .tup cs => match clsTL rec cs with | some (cs', r) => some (.tup cs', r) | none => none
  | .fn f fs cs => match clsTL rec fs, clsTL rec cs with | some (fs', a), some (cs', b) => some (.fn f fs' cs', a ++ b) | _, _ => none
  | .own l => match σ l with
    | some (.arr e sz xs) => some (.cown e sz xs, [l])
    | _ => none
  | .ptr l off => if off = 0 then match σ l with
    | some (.box ty cs) => match rec cs with | some (cs', r) => some (.cbox ty cs', l :: r) | none => none
    | _ => none
    else none
  | .sl sz xs => some (.sl sz xs, [])
  | .ifc t x => some (.ifc t x, [])
  | .ep cs => some (.ep cs, [])
  | _ => none
def clsTL (rec : List T → Option (List T × List Loc)) : List T → Option (List T × List Loc)
  | [] => some ([], [])
  | x :: r => match clsT rec x, clsTL rec r with
    | some (x', a), some (r', b) => some (x' :: r', a ++ b)
    | _, _ => none
end
def clsL : Nat → List T → Option (List T × List Loc)
  | 0 => clsTL σ fun _ => none
  | d + 1 => clsTL σ (clsL d)
def cls (t : T) : Option (T × List Loc) := clsT σ (clsL σ 4) t
end
section
variable (key : Nat → Loc)
mutual
def opn : Nat → T → T × Nat × List (Loc × O)
  | i, .cown e sz xs => (.own (key i), i + 1, [(key i, .arr e sz xs)])
  | i, .cbox ty cs => match opnL (i + 1) cs with | (cs', j, u) => (.ptr (key i) 0, j, (key i, .box ty cs') :: u)
  | i, .agg cs => match opnL i cs with | (cs', j, u) => (.agg cs', j, u)
  | i, .tup cs => match opnL i cs with | (cs', j, u) => (.tup cs', j, u)
  | i, .fn f fs cs => match opnL i fs with | (fs', j, u) => match opnL j cs with | (cs', k, u') => (.fn f fs' cs', k, u ++ u')
  | i, x => (x, i, [])
def opnL : Nat → List T → List T × Nat × List (Loc × O)
  | i, [] => ([], i, [])
  | i, x :: r => match opn i x with | (x', j, u) => match opnL j r with | (r', k, u') => (x' :: r', k, u ++ u')
end
end

def killL (r : List Loc) : List (Loc × Option O) := r.map fun l => (l, none)

/-! ### Operations -/
def pv (x : T) : Option Dl := some ⟨x, [], [], []⟩
def opd (S : St) : Operand → T
  | .tmp t => S.τ t
  | .const v => if plainI v then ofV v else .dead
  | .func f => .s (.func (.func f) #[] #[])
  | .global _ => .dead
def tb (b : Bool) : T := .s (.bool b)
def ti (n : Int) : T := .s (.int .i64 n)

section
variable (P : Program)
def evLoad (S : St) (t : TypeId) : T → Option Dl
  | .ptr l off => match S.σ l with
    | some (.box _ cs) => match ofCells P t (cs.drop off) with | some x => some ⟨x, [], [], [l]⟩ | none => none
    | _ => none
  | .ep cs => match ofCells P t cs with | some x => pv x | none => none
  | .eptr l sz i off => match S.σ l with
    | some (.arr _ sz' xs) => match xs[i]? with
      | some x => if x.ok1 && decide (sz' = sz) then (match ofCells P t (x.cells.drop off) with | some y => some ⟨y, [], [], [l]⟩ | none => none) else none
      | none => none
    | _ => none
  | _ => none
/-- Frozen, as a value of a type. -/
def frzC (t : TypeId) (σ : Loc → Option O) (x : T) : Option (T × List Loc) := match frz σ x with
  | some (y, r) => some (canT P t y, r)
  | none => none
def evStore (S : St) (t : TypeId) (v : T) : T → Option Dl
  | .ptr l off => match S.σ l, szOf P t with
    | some (.box ty cs), some n => if v.ok1 && decide (v.cells.length = n) && decide (off + n ≤ cs.length) then some ⟨.dead, [(l, some (.box ty (splice cs off v.cells)))], [], [l]⟩ else none
    | _, _ => none
  | .eptr l sz' i off => match S.σ l, szOf P t, frzC P t S.σ v with
    | some (.arr e sz xs), some n, some (w, r) => match xs[i]? with
      | some x => if w.ok1 && x.ok1 && decide (sz' = sz) && decide (w.cells.length = n) && decide (off + n ≤ x.cells.length) && !r.contains l then
          (match x with
          | .agg cs => some ⟨.dead, killL r ++ [(l, some (.arr e sz (xs.set i (.agg (splice cs off w.cells)))))], [], l :: r⟩
          | _ => match w with
            | .agg _ => none
            | _ => some ⟨.dead, killL r ++ [(l, some (.arr e sz (xs.set i w)))], [], l :: r⟩) else none
      | none => none
    | _, _, _ => none
  | _ => none
def evFieldAddr (t : TypeId) (i : Nat) (x : T) : Option T := match fieldOf P t i with
  | some (o, n, _) => match x with
    | .ptr l off => some (.ptr l (off + o))
    | .ep cs => some (.ep (cs.drop o))
    | .eptr l sz j off => some (.eptr l sz j (off + o))
    | _ => none
  | none => none
def evField (t : TypeId) (i : Nat) (x : T) : Option T := match fieldOf P t i with
  | some (o, n, ft) => match x with
    | .agg cs => ofCells P ft (cs.drop o)
    | _ => none
  | none => none
def evIndexAddr (S : St) (t : TypeId) (x i : T) : Option Dl := match elemOf P t, i with
  | some e, .s (.int _ n) => match szOf P e with
    | some sz => match x with
      | .sl sz' xs => if szok sz' sz xs then (if 0 ≤ n ∧ n < xs.length then (match xs[n.toNat]? with | some y => if y.ok1 then pv (.ep y.cells) else none | none => none) else none) else none
      | .own l => (match S.σ l with
        | some (.arr _ _ xs) => if 0 ≤ n ∧ n < xs.length then some ⟨.eptr l sz n.toNat 0, [], [], [l]⟩ else none
        | _ => none)
      | _ => none
    | none => none
  | _, _ => none
def byteAt (b : ByteArray) (i : Nat) : Int := ((b.data.toList.getD i 0).toNat : Int)
def evIndex (t : TypeId) (x i : T) : Option T := match x, i with
  | .s (.string b), .s (.int _ n) => match P.underlying t with
    | some .string => if 0 ≤ n ∧ n < b.size then some (.s (.int .u8 (byteAt b n.toNat))) else none
    | _ => none
  | .agg cs, .s (.int _ n) => match P.underlying t with
    | some (.array len e) => match szOf P e with
      | some sz => if 0 ≤ n ∧ n < len then ofCells P e (cs.drop (n.toNat * sz)) else none
      | none => none
    | _ => none
  | _, _ => none
/-- '==' of cells of a type of whole numbers, bools, strings and structs of these. -/
def eqT : Nat → TypeId → List T → List T → Option Bool
  | 0, _, _, _ => none
  | d + 1, t, xs, ys => match P.underlying t with
    | some .bool => match xs, ys with | [.s (.bool a)], [.s (.bool b)] => some (a == b) | _, _ => none
    | some (.int _) => match xs, ys with | [.s (.int k a)], [.s (.int k' b)] => if k = k' then some (a == b) else none | _, _ => none
    | some .string => match xs, ys with | [.s (.string a)], [.s (.string b)] => some (decide (a = b)) | _, _ => none
    | some (.struct fs) => if P.stoodInHeld t then none else
        fs.toList.foldr (fun f acc => match szOf P f.type with
          | some n => if f.name = "_" then none else match eqT d f.type ((xs.drop f.offset).take n) ((ys.drop f.offset).take n), acc with
            | some a, some b => some (a && b)
            | _, _ => none
          | none => none) (some true)
    | _ => none
def cmpI (op : BinOp) (k : IntKind) (a b : Int) : Option T := match op with
  | .add => some (.s (.int k (k.wrap (a + b))))
  | .sub => some (.s (.int k (k.wrap (a - b))))
  | .mul => some (.s (.int k (k.wrap (a * b))))
  | .quo => if b = 0 then none else some (.s (.int k (k.wrap (a.tdiv b))))
  | .rem => if b = 0 then none else some (.s (.int k (a.tmod b)))
  | .eql => some (tb (decide (a = b)))
  | .neq => some (tb (!decide (a = b)))
  | .lss => some (tb (decide (a < b)))
  | .leq => some (tb (decide (a ≤ b)))
  | .gtr => some (tb (decide (b < a)))
  | .geq => some (tb (decide (b ≤ a)))
  | _ => none
def cmpS (op : BinOp) (a b : ByteArray) : Option T := match op with
  | .add => if ((a.size + b.size : Nat) : Int) ≤ 9223372036854775807 then some (.s (.string (a ++ b))) else none
  | .eql => some (tb (decide (a = b)))
  | .neq => some (tb (!decide (a = b)))
  | .lss => some (tb (Op.bytesLess a.toList b.toList))
  | .leq => some (tb (Op.bytesLess a.toList b.toList || decide (a = b)))
  | .gtr => some (tb (!(Op.bytesLess a.toList b.toList || decide (a = b))))
  | .geq => some (tb (!Op.bytesLess a.toList b.toList))
  | _ => none
/-- Is a value the nil of its type? -/
def nilT : T → Option Bool
  | .s (.pointer none) | .s .nilFunc | .s (.slice none 0 0) => some true
  | .ptr _ _ | .ep _ | .eptr _ _ _ _ | .own _ | .fn _ _ _ => some false
  | .s (.func _ _ _) => some false
  | _ => none
def eqOp (op : BinOp) (b : Bool) : Option T := match op with
  | .eql => some (tb b)
  | .neq => some (tb (!b))
  | _ => none
def constB : Operand → Bool
  | .const _ => true
  | _ => false
/-- The type and the nil fit ('== nil'). -/
def nilFits (t : TypeId) (x : T) : Bool := match P.underlying t, x with
  | some (.pointer _), .s (.pointer none) | some (.func ..), .s .nilFunc | some (.slice _), .s (.slice none 0 0) => true
  | _, _ => false
def nonFits (t : TypeId) (x : T) : Bool := match P.underlying t, x with
  | some (.pointer _), .ptr _ _ | some (.pointer _), .ep _ | some (.pointer _), .eptr _ _ _ _ => true
  | some (.slice _), .own _ => true
  | some (.func ..), .fn _ _ _ | some (.func ..), .s (.func _ _ _) => true
  | _, _ => false
def evBin (op : BinOp) (t : TypeId) (ox oy : Operand) (x y : T) : Option T := match x, y with
  | .s (.int k a), .s (.int k' b) => if k = k' then cmpI op k a b else none
  | .s (.string a), .s (.string b) => cmpS op a b
  | .s (.bool a), .s (.bool b) => match P.underlying t with | some .bool => eqOp op (a == b) | _ => none
  | .agg xs, .agg ys => if P.eqGuardType P.depth t || aggOf P t != some true then none else match eqT P 20 t xs ys with | some b => eqOp op b | none => none
  | .ifc a _, .ifc b _ => match P.underlying t with
    | some (.interface _) => if constB oy && decide (b = 0) then eqOp op (decide (a = 0)) else if constB ox && decide (a = 0) then eqOp op (decide (b = 0)) else none
    | _ => none
  | x, y => if nilFits P t y && (constB ox || constB oy) then (if nilFits P t x then eqOp op true else if nonFits P t x then eqOp op false else none)
      else if nilFits P t x && (constB ox || constB oy) && nonFits P t y then eqOp op false else none
def evUn (op : UnOp) : T → Option T
  | .s (.int k a) => match op with | .neg => some (.s (.int k (k.wrap (0 - a)))) | _ => none
  | .s (.bool b) => match op with | .not => some (tb (!b)) | _ => none
  | _ => none
def evConv (src dst : TypeId) (x : T) : Option T := match P.underlying src, P.underlying dst, x with
  | some _, some (.int k), .s (.int _ n) => some (.s (.int k (k.wrap n)))
  | some _, some .string, .s (.string b) => some (.s (.string b))
  | some _, some .string, .s (.int _ n) => some (.s (.string (Utf8.encode n)))
  | _, _, _ => none
def bound (o : Option T) (dflt mx : Nat) : Option Nat := match o with
  | none => some dflt
  | some (.s (.int _ n)) => if 0 ≤ n ∧ n ≤ mx then some n.toNat else none
  | _ => none
def evSlice (S : St) (site : Nat) (t : TypeId) (x : T) (lo hi : Option T) : Option Dl := match x, P.underlying t with
  | .s (.string b), some .string => match bound hi b.size b.size with
    | some h => match bound lo 0 h with | some l => pv (.s (.string (b.extract l h))) | none => none
    | none => none
  | .sl sz xs, some (.slice e) => match szOf P e with
    | some n => if szok sz n xs then (match bound hi xs.length xs.length with
      | some h => match bound lo 0 h with | some l => pv (.sl sz ((xs.take h).drop l)) | none => none
      | none => none) else none
    | none => none
  | .own l, some (.slice e) => match szOf P e, S.σ l with
    | some _, some (.arr e' sz xs) => match bound hi xs.length xs.length with
      | some h => match bound lo 0 h with
        | some k => if k = 0 then some ⟨.own (l.1, S.cnt l.1), [(l, none), ((l.1, S.cnt l.1), some (.arr e' sz (xs.take h)))], [l.1], [l]⟩ else none
        | none => none
      | none => none
    | _, _ => none
  | .s (.slice none 0 0), some (.slice e) => match szOf P e with
    | some _ => match bound hi 0 0 with
      | some h => match bound lo 0 h with | some _ => pv (.s (.slice none 0 0)) | none => none
      | none => none
    | none => none
  | _, _ => none
def ifaceT (t : TypeId) : Option Bool := match P.underlying t with
  | some (.interface _) => some true
  | some _ => some false
  | none => none
def zeroT (t : TypeId) : Option T := match zeroOf P t with
  | some cs => ofCells P t cs
  | none => none
def evAssert (xt at_ : TypeId) (ok : Bool) (x : T) : Option T := if ifaceT P at_ = some false ∧ at_ ≠ 0 then
    (match x with
    | .ifc t y => if t = at_ then some (if ok then .tup [y, tb true] else y)
        else if ok then match zeroT P at_ with | some z => some (.tup [z, tb false]) | none => none else none
    | _ => none)
  else none
/-- Do all fields' types have a row? -/
def placesOk (t : TypeId) : Bool := match P.underlying t with
  | some (.struct fs) => fs.toList.all fun f => (P.info? f.type).isSome
  | _ => false
/-- Parts laid into cells. -/
def fillT (t : TypeId) : List (Nat × T) → List T → Option (List T)
  | [], cs => some cs
  | (i, x) :: r, cs => match fieldOf P t i with
    | some (o, n, _) => if x.ok1 && decide (x.cells.length = n) && decide (o + n ≤ cs.length) then fillT t r (splice cs o x.cells) else none
    | none => none
def setAll (n : Nat) : List (Nat × T) → List T → Option (List T)
  | [], xs => some xs
  | (i, x) :: r, xs => if x.ok1 && decide (x.cells.length = n) && decide (i < xs.length) then setAll n r (xs.set i x) else none
/-- The elements of what is appended. -/
def srcOf (σ : Loc → Option O) (sz : Nat) : T → Option (List T × List Loc)
  | .sl sz' ys => if szok sz' sz ys then some (ys, []) else none
  | .own l => match σ l with
    | some (.arr _ sz' ys) => if sz' = sz then some (ys, [l]) else none
    | _ => none
  | .s (.slice none 0 0) => some ([], [])
  | _ => none
def evAppend (S : St) (site : Nat) (t : TypeId) (tys : Option TypeId) (s x : T) : Option Dl := match elemOf P t, tys with
  | some e, some t1 => match elemOf P t1, szOf P e, bytesOf P e, zeroOf P e with
    | some _, some sz, some by_, some z => if sz = 0 ∨ by_ = 0 then none else match srcOf S.σ sz x with
      | some (ys, r) => if ys.all T.ok1 then (match s with
        | .s (.slice none 0 0) => if ys.length * by_ ≤ 140737488355328 then
            (match ys with
            | [] => some ⟨.s (.slice none 0 0), [], [], r⟩
            | _ => some ⟨.own (site, S.cnt site), [((site, S.cnt site), some (.arr e sz ys))], [site], r⟩) else none
        | .own l => match S.σ l with
          | some (.arr e' sz' xs) => if e' = e ∧ sz' = sz ∧ (xs.length + ys.length) * by_ ≤ 140737488355328 then
              some ⟨.own (l.1, S.cnt l.1), [(l, none), ((l.1, S.cnt l.1), some (.arr e sz (xs ++ ys)))], [l.1], l :: r⟩ else none
          | _ => none
        | _ => none) else none
      | none => none
    | _, _, _, _ => none
  | _, _ => none
def lenT (σ : Loc → Option O) : T → Option (Int × List Loc)
  | .s (.string b) => some (b.size, [])
  | .sl _ xs => some (xs.length, [])
  | .own l => match σ l with | some (.arr _ _ xs) => some (xs.length, [l]) | _ => none
  | .s (.slice none 0 0) => some (0, [])
  | _ => none
def evLen (σ : Loc → Option O) (t : Option TypeId) (x : T) : Option Dl := match t with
  | some t => match P.underlying t with
    | some .string => match x with | .s (.string b) => pv (ti b.size) | _ => none
    | some (.slice _) => match x with | .s (.string _) => none | x => match lenT σ x with | some (n, r) => some ⟨ti n, [], [], r⟩ | none => none
    | some (.array n _) => pv (ti n)
    | _ => none
  | none => none
def evMinMax (mx : Bool) : List T → Option T
  | [.s (.int k a), .s (.int _ b)] => some (.s (.int k (if mx then (if a < b then b else a) else (if b < a then b else a))))
  | _ => none

/-! ### A call -/
/-- An argument, as the one called sees it: what is moved, what is read. -/
def argC (σ : Loc → Option O) (mv : Bool) : T → Option (T × List Loc × List Loc)
  | .ptr l off => match cls σ (.ptr l off) with | some (t, m) => some (t, m, []) | none => none
  | .fn f fs cs => match cls σ (.fn f fs cs) with | some (t, m) => some (t, m, []) | none => none
  | .own l => if mv then (match cls σ (.own l) with | some (t, m) => some (t, m, []) | none => none)
      else match frz σ (.own l) with | some (t, r) => some (t, [], r) | none => none
  | x => match frz σ x with | some (t, r) => some (t, [], r) | none => none
def argCL (σ : Loc → Option O) (mv : Bool) : List T → Option (List T × List Loc × List Loc)
  | [] => some ([], [], [])
  | x :: r => match argC σ mv x, argCL σ mv r with
    | some (x', m, a), some (r', m', a') => some (x' :: r', m ++ m', a ++ a')
    | _, _ => none
def nodupL : List Loc → Bool
  | [] => true
  | l :: r => !r.contains l && nodupL r
/-- What comes back of an argument that was moved: the objects at their old keys, what lies in them at new ones. -/
def backC (key : Nat → Loc) (i : Nat) : List T → List T → Option (Nat × List (Loc × O))
  | [], [] => some (i, [])
  | .ptr l _ :: r, .cbox ty cs :: r' => match opnL key i cs with | (cs', j, u) => match backC key j r r' with
    | some (k, u') => some (k, (l, .box ty cs') :: u ++ u')
    | none => none
  | .ptr _ _ :: _, _ :: _ => none
  | _ :: r, _ :: r' => backC key i r r'
  | _, _ => none
def backT (key : Nat → Loc) (mv : Bool) (i : Nat) : T → T → Option (Nat × List (Loc × O))
  | .ptr l _, .cbox ty cs => match opnL key i cs with | (cs', j, u) => some (j, (l, .box ty cs') :: u)
  | .own l, .cown e sz xs => if mv then some (i, [(l, .arr e sz xs)]) else none
  | .fn _ _ cs, .fn _ _ cs' => backC key i cs cs'
  | _, _ => some (i, [])
def backL (key : Nat → Loc) (mv : Bool) (i : Nat) : List T → List T → Option (Nat × List (Loc × O))
  | [], [] => some (i, [])
  | x :: r, y :: s => match backT key mv i x y with
    | some (j, u) => match backL key mv j r s with | some (k, u') => some (k, u ++ u') | none => none
    | none => none
  | _, _ => none
def likeB : O → O → Bool
  | .box .., .box .. => true
  | .arr e sz xs, .arr e' sz' xs' => decide (e = e') && decide (sz = sz') && decide (xs.length = xs'.length)
  | .iter .., .iter .. => true
  | _, _ => false
mutual
def noRo : T → Bool
  | .s _ => true
  | .agg cs => noRoL cs
  | .tup cs => noRoL cs
  | _ => false
def noRoL : List T → Bool
  | [] => true
  | x :: r => noRo x && noRoL r
end
def ckey (site : Nat) (cnt : Nat → Nat) (j : Nat) : Loc := (site + 1 + j, cnt (site + 1 + j))
def evCall (S : St) (call : FuncId → List T → Option (T × List T)) (mv : FuncId → Bool) (site : Nat) (f : FuncId) (args : List T) : Option Dl :=
  match argCL S.σ (mv f) args with
  | some (cargs, m, r) => if nodupL m && r.all (fun l => !m.contains l) then
      match call f cargs with
      | some (res, outs) => match backL (ckey site S.cnt) (mv f) 0 args outs with
        | some (j, u) => match opn (ckey site S.cnt) j res with
          | (res', k, u') =>
            let keep := r.isEmpty || (noRo res && m.isEmpty && u.isEmpty)
            if decide (k ≤ 62) && u.all (fun e => match S.σ e.1 with | some o => likeB o e.2 | none => true) then
              some ⟨res', killL (m ++ if keep then [] else r) ++ (u ++ u').map (fun e => (e.1, some e.2)), (List.range k).map (site + 1 + ·), m ++ r ++ u.map (·.1)⟩
            else none
        | none => none
      | none => none
    else none
  | none => none
end

/-- A method of a type's own, with a receiver that is a value. -/
def methodOf (P : Program) (t : TypeId) (name : String) : Option FuncId := match P.info? t with
  | some i => match i.methods.find? (·.name == name) with
    | some m => if m.path.toList.isEmpty then (match m.func, P.underlying t with
      | some (g, false), some (.pointer _) => none
      | some (g, false), some _ => some g
      | _, _ => none) else none
    | none => none
  | none => none
/-- The site of operation i of region id. -/
def siteOf (id i : Nat) : Nat := 1000 + (id * 256 + i) * 64
def optAll {α β : Type} (f : α → Option β) : List α → Option (List β)
  | [] => some []
  | x :: r => match f x, optAll f r with | some y, some s => some (y :: s) | _, _ => none

def evOp (P : Program) (call : FuncId → List T → Option (T × List T)) (mv : FuncId → Bool) (site : Nat) (S : St) (o : Oper) : Option Dl :=
  match o.op with
  | .move x | .assign x => pv (opd S x)
  | .pick c a b => match opd S c with
    | .s (.bool t) => match opd S a, opd S b with
      | .s (.bool p), .s (.bool q) => pv (tb (bif t then p else q))
      | p, q => pv (if t then p else q)
    | _ => none
  | .alloc t => match zeroOf P t with | some cs => some ⟨.ptr (site, S.cnt site) 0, [((site, S.cnt site), some (.box t cs))], [site], []⟩ | none => none
  | .box t x => if (opd S x).ok1 then some ⟨.ptr (site, S.cnt site) 0, [((site, S.cnt site), some (.box t (opd S x).cells))], [site], []⟩ else none
  | .build t ps => if placesOk P t then match zeroOf P t with
      | some z => match fillT P t (ps.toList.map fun p => (p.1, opd S p.2)) z with | some cs => pv (.agg cs) | none => none
      | none => none
    else none
  | .buildSlice t len ps => match elemOf P t with
    | some e => match szOf P e, zeroOf P e with
      | some sz, some z => if sz = 0 ∨ 16777216 < len * sz then none else match ofCells P e z with
        | some ze => match frzL S.σ (ps.toList.map fun p => opd S p.2) with
          | some (ys, r) => match setAll sz ((ps.toList.map (·.1)).zip (ys.map (canT P e))) (List.replicate len ze) with
            | some xs => some ⟨.own (site, S.cnt site), killL r ++ [((site, S.cnt site), some (.arr e sz xs))], [site], r⟩
            | none => none
          | none => none
        | none => none
      | _, _ => none
    | none => none
  | .load t a => evLoad P S t (opd S a)
  | .store t a x => evStore P S t (opd S x) (opd S a)
  | .nilCheck x => match opd S x with
    | .ptr l off => pv (.ptr l off)
    | .ep cs => pv (.ep cs)
    | .eptr l sz i off => pv (.eptr l sz i off)
    | .ifc t y => if t = 0 then none else pv (.ifc t y)
    | .fn (.func f) fs cs => pv (.fn (.func f) fs cs)
    | .s (.func (.func f) a b) => pv (.s (.func (.func f) a b))
    | _ => none
  | .binOp op t x y _ => match evBin P op t x y (opd S x) (opd S y) with | some v => pv v | none => none
  | .unOp op _ x => match evUn op (opd S x) with | some v => pv v | none => none
  | .convert a b x => match evConv P a b (opd S x) with | some v => pv v | none => none
  | .makeInterface t x => match P.underlying t with
    | some (.interface _) | none => none
    | some _ => match frzC P t S.σ (opd S x) with
      | some (y, r) => if y.ok1 && decide (t ≠ 0) then some ⟨.ifc t y, killL r, [], r⟩ else none
      | none => none
  | .makeFunc f fs cs => if (fs.toList ++ cs.toList).all (fun x => (opd S x).ok1) then pv (.fn f (fs.toList.map (opd S)) (cs.toList.map (opd S))) else none
  | .slice t x lo hi none => evSlice P S site t (opd S x) (lo.map (opd S)) (hi.map (opd S))
  | .fieldAddr t x i => match evFieldAddr P t i (opd S x) with | some v => pv v | none => none
  | .field t x i => match evField P t i (opd S x) with | some v => pv v | none => none
  | .indexAddr t x i => evIndexAddr P S t (opd S x) (opd S i)
  | .index t x i => match evIndex P t (opd S x) (opd S i) with | some v => pv v | none => none
  | .range t x => match P.underlying t, opd S x with
    | some .string, .s (.string b) => some ⟨.it (site, S.cnt site), [((site, S.cnt site), some (.iter b 0))], [site], []⟩
    | _, _ => none
  | .next x true => match opd S x with
    | .it l => match S.σ l with
      | some (.iter b pos) => if pos < b.size then
          some ⟨.tup [tb true, ti pos, .s (.int .i32 (Utf8.decode b pos).1)], [(l, some (.iter b (pos + (Utf8.decode b pos).2)))], [], [l]⟩
        else some ⟨.tup [tb false], [], [], [l]⟩
      | _ => none
    | _ => none
  | .typeAssert x xt t ok => match evAssert P xt t ok (opd S x) with | some v => pv v | none => none
  | .extract x i => match opd S x with
    | .tup cs => match cs[i]? with | some v => pv v | none => none
    | _ => none
  | .call c => match c.callee with
    | .builtin .len => match c.args.toList with
      | [x] => evLen P S.σ (c.argTypes[0]?) (opd S x)
      | _ => none
    | .builtin .append => match c.args.toList with
      | [s, x] => match c.argTypes[0]? with | some t => evAppend P S site t (c.argTypes[1]?) (opd S s) (opd S x) | none => none
      | _ => none
    | .builtin .min => match evMinMax false (c.args.toList.map (opd S)) with | some v => pv v | none => none
    | .builtin .max => match evMinMax true (c.args.toList.map (opd S)) with | some v => pv v | none => none
    | .value f => match opd S f with
      | .s (.func (.func g) a b) => if a.isEmpty && b.isEmpty then evCall S call mv site g (c.args.toList.map (opd S)) else none
      | .fn (.func g) fs cs => evCall S call mv site g (fs ++ c.args.toList.map (opd S) ++ cs)
      | _ => none
    | .invoke f name => match opd S f with
      | .ifc t x => if t = 0 then none else match methodOf P t name with
        | some g => evCall S call mv site g (x :: c.args.toList.map (opd S))
        | none => none
      | _ => none
    | _ => none
  | _ => none

def putT (τ : Nat → T) (i : Nat) (t : T) : Nat → T := fun j => if j = i then t else τ j
def updL (σ : Loc → Option O) : List (Loc × Option O) → Loc → Option O
  | [] => σ
  | e :: r => updL (fun l => if l = e.1 then e.2 else σ l) r
def St.ap (S : St) (dst : Option Nat) (d : Dl) : St :=
  { S with τ := match dst with | some i => if i < S.nt then putT S.τ i d.v else S.τ | none => S.τ, σ := updL S.σ d.upd, cnt := fun s => if d.bump.contains s then S.cnt s + 1 else S.cnt s }
def guardT (ops : Array Oper) (S : St) (o : Oper) : Option Bool := match o.guard with
  | none => some true
  | some (j, want) => match ops[j]? with
    | some p => match p.dst with
      | some t => match S.τ t with | .s (.bool b) => some (b == want) | .tup [] => some false | _ => none
      | none => none
    | none => none

/-- The operations of a region, in the text's order. -/
def evOps (P : Program) (call : Nat → FuncId → List T → Option (T × List T)) (mv : FuncId → Bool) (id : Nat) (ops : Array Oper) : Nat → List Oper → St → Option St
  | _, [], S => some S
  | i, o :: r, S => match guardT ops S o with
    | some true => match evOp P (call (siteOf id i)) mv (siteOf id i) S o with
      | some d => evOps P call mv id ops (i + 1) r (S.ap o.dst d)
      | none => none
    | some false => evOps P call mv id ops (i + 1) r (S.ap o.dst ⟨.tup [], [], [], []⟩)
    | none => none
def apartL (a b : List Loc) : Bool := a.all fun l => !b.contains l
/-- Two operations may come up in either order. -/
def indep (d e : Dl) : Bool := apartL (d.upd.map (·.1)) (e.rd ++ e.upd.map (·.1)) && apartL (e.upd.map (·.1)) d.rd && d.bump.all (fun s => !e.bump.contains s)
/-- For each operation of a region the bits of those that come up before it. -/
def bitsRow (bs : List Nat) (es : List Edge) : Nat := es.foldl (fun acc e => if Region.binds .any e then acc ||| (1 <<< e.on) ||| bs.getD e.on 0 else acc) 0
def bitsGo : List Oper → List Nat → List Nat
  | [], bs => bs
  | o :: r, bs => bitsGo r (bs ++ [bitsRow bs o.after.toList])
def bitsOf (ops : Array Oper) : List Nat := bitsGo ops.toList []
/-- An operation's slots: those it looks at, that it fills. -/
def guardSlot (ops : Array Oper) (o : Oper) : List Tmp := match o.guard with
  | some (g, _) => match ops[g]? with
    | some p => p.dst.toList
    | none => []
  | none => []
def tmpsOf : List Operand → List Tmp
  | [] => []
  | .tmp t :: r => t :: tmpsOf r
  | _ :: r => tmpsOf r
def slotsOf (ops : Array Oper) (o : Oper) : List Tmp := tmpsOf o.op.operands.toList ++ guardSlot ops o ++ o.dst.toList
def inOrder (bits : List Nat) (i j : Nat) : Bool := (bits.getD i 0).testBit j || (bits.getD j 0).testBit i
/-- What one operation fills another one looks at or fills only if they are in order; edges go back. -/
def okD (bits : List Nat) (ops : Array Oper) : Bool :=
  (List.range ops.size).all fun i => match ops[i]? with
    | some o => o.after.toList.all (fun e => !Region.binds .any e || decide (e.on < i)) && (match o.op with | .select _ _ => false | _ => true) &&
        (match o.dst with
        | some t => (List.range ops.size).all fun j => decide (j = i) || inOrder bits i j || (match ops[j]? with | some p => !(slotsOf ops p).contains t | none => true)
        | none => true)
    | none => false
/-- Updates left out. -/
def dropD (F : List Loc) (d : Dl) : Dl := { d with upd := d.upd.filter fun e => !F.contains e.1 }
/-- What is left out is read, too, and is as it was. -/
def SameAt (σ : Loc → Option O) (d : Dl) (F : List Loc) : Prop := ∀ l ∈ F, l ∈ d.rd ∧ updL σ d.upd l = σ l
open Classical in
/-- The same, of a region that draws its order: what an operation does may not touch what another one does that need not come up before it; dr: updates that turn nothing, by operation. -/
noncomputable def evOpsD (P : Program) (call : Nat → FuncId → List T → Option (T × List T)) (mv : FuncId → Bool) (id : Nat) (bits : List Nat) (ops : Array Oper) (dr : Nat → List Loc) : Nat → List (Nat × Dl) → List Oper → St → Option St
  | _, _, [], S => some S
  | i, log, o :: r, S => match guardT ops S o with
    | some true => match evOp P (call (siteOf id i)) mv (siteOf id i) S o with
      | some d => if SameAt S.σ d (dr i) ∧ log.all (fun e => (bits.getD i 0).testBit e.1 || indep e.2 (dropD (dr i) d)) = true then evOpsD P call mv id bits ops dr (i + 1) ((i, dropD (dr i) d) :: log) r (S.ap o.dst (dropD (dr i) d)) else none
      | none => none
    | some false => evOpsD P call mv id bits ops dr (i + 1) ((i, ⟨.tup [], [], [], []⟩) :: log) r (S.ap o.dst ⟨.tup [], [], [], []⟩)
    | none => none

/-- A result out of the frame. -/
def evRes (P : Program) (S : St) : ResultVar → Option T
  | .tmp t => some (S.τ t)
  | .cell a t => match evLoad P S t (S.τ a) with | some d => some d.v | none => none
def outT (σ : Loc → Option O) : T → Option (T × List Loc)
  | .ptr l off => cls σ (.ptr l off)
  | .fn f fs cs => cls σ (.fn f fs cs)
  | .own l => match cls σ (.own l) with | some r => some r | none => some (.dead, [])
  | _ => some (.dead, [])
def outTL (σ : Loc → Option O) : List T → Option (List T × List Loc)
  | [] => some ([], [])
  | x :: r => match outT σ x, outTL σ r with
    | some (x', a), some (r', b) => some (x' :: r', a ++ b)
    | _, _ => none
def resT : List T → T
  | [x] => x
  | xs => .tup xs
def key0 (i : Nat) : Loc := (i, 0)
end Go.Proofs.YtfknpnkdedckhaaGreatDoorT

/- The interpreter over trees: how trees stand for values in memory; what keeps that. -/
namespace Go.Proofs.YtfknpnkdedckhaaGreatDoorT
open Go
set_option linter.unusedVariables false

/-- What a tree is read in: the world, the blocks that may be read (and stay as they are), what the call's own things stand for. -/
structure Ctx where
  w : World
  ok : Nat → Prop
  own : Loc → Value → Prop
  ptr : Loc → Nat → Value → Prop
  eptr : Loc → Nat → Nat → Nat → Value → Prop
  it : Loc → Value → Prop
/-- Nothing of one's own in it. -/
def Ctx.ro (C : Ctx) : Ctx := { C with own := fun _ _ => False, ptr := fun _ _ _ => False, eptr := fun _ _ _ _ _ => False, it := fun _ _ => False }
theorem Ctx.ro_ro (C : Ctx) : C.ro.ro = C.ro := rfl
def one (u : Value) : Prop := u.oneCell' = true

inductive Rep : Ctx → T → Value → Prop
  | s {C : Ctx} {u : Value} (h : plainV u = true) : Rep C (.s u) u
  | agg {C : Ctx} {cs : List T} {vs : List Value} (hl : cs.length = vs.length) (h : ∀ (j : Nat) (x : T) (u : Value), cs[j]? = some x → vs[j]? = some u → Rep C x u) (h1 : ∀ u ∈ vs, one u) : Rep C (.agg cs) (.agg vs.toArray)
  | tup {C : Ctx} {cs : List T} {vs : List Value} (hl : cs.length = vs.length) (h : ∀ (j : Nat) (x : T) (u : Value), cs[j]? = some x → vs[j]? = some u → Rep C x u) : Rep C (.tup cs) (.tuple vs.toArray)
  | ifc {C : Ctx} {t : TypeId} {x : T} {u : Value} (h0 : t ≠ 0) (h : Rep C.ro x u) : Rep C (.ifc t x) (.iface t u)
  | ifn {C : Ctx} {x : T} : Rep C (.ifc 0 x) .nilIface
  | sl {C : Ctx} {sz : Nat} {xs : List T} {us : List Value} {A : Option Addr} {c : Nat} (hl : xs.length = us.length) (hc : xs.length ≤ c)
      (h : ∀ (j : Nat) (x : T) (u : Value), xs[j]? = some x → us[j]? = some u → Rep C.ro x u) (hs : ∀ u ∈ us, u.cells.size = sz)
      (hm : xs = [] ∨ ∃ ad : Addr, A = some ad ∧ ad.spot = none ∧ C.ok ad.block ∧ ∀ (j i : Nat) (u cv : Value), us[j]? = some u → u.cells[i]? = some cv → C.w.cell? ⟨ad.block, ad.off + (j * sz + i), none⟩ = some cv) :
      Rep C (.sl sz xs) (.slice A xs.length c)
  | own {C : Ctx} {l : Loc} {v : Value} (h : C.own l v) : Rep C (.own l) v
  | ptr {C : Ctx} {l : Loc} {off : Nat} {v : Value} (h : C.ptr l off v) : Rep C (.ptr l off) v
  | eptr {C : Ctx} {l : Loc} {sz i off : Nat} {v : Value} (h : C.eptr l sz i off v) : Rep C (.eptr l sz i off) v
  | it {C : Ctx} {l : Loc} {v : Value} (h : C.it l v) : Rep C (.it l) v
  | ep {C : Ctx} {cs : List T} {us : List Value} {ad : Addr} (hl : cs.length = us.length)
      (h : ∀ (j : Nat) (x : T) (u : Value), cs[j]? = some x → us[j]? = some u → Rep C.ro x u) (h1 : ∀ u ∈ us, one u)
      (hsp : ad.spot = none) (hok : C.ok ad.block) (hm : ∀ (i : Nat) (cv : Value), us[i]? = some cv → C.w.cell? ⟨ad.block, ad.off + i, none⟩ = some cv) : Rep C (.ep cs) (.pointer (some ad))
  | fn {C : Ctx} {f : Fn} {fs cs : List T} {vf vc : List Value} (hl : fs.length = vf.length) (hl' : cs.length = vc.length)
      (h : ∀ (j : Nat) (x : T) (u : Value), fs[j]? = some x → vf[j]? = some u → Rep C x u) (h' : ∀ (j : Nat) (x : T) (u : Value), cs[j]? = some x → vc[j]? = some u → Rep C x u) :
      Rep C (.fn f fs cs) (.func f vf.toArray vc.toArray)
  | dead {C : Ctx} {v : Value} : Rep C .dead v

/-- More is known, and what may be read has stayed. -/
structure Ctx.le (C C' : Ctx) : Prop where
  ok : ∀ k, C.ok k → C'.ok k ∧ C'.w.heap[k]? = C.w.heap[k]?
  own : ∀ l v, C.own l v → C'.own l v
  ptr : ∀ l n v, C.ptr l n v → C'.ptr l n v
  eptr : ∀ l s i n v, C.eptr l s i n v → C'.eptr l s i n v
  it : ∀ l v, C.it l v → C'.it l v
theorem Ctx.le.refl (C : Ctx) : C.le C := ⟨fun _ h => ⟨h, rfl⟩, fun _ _ h => h, fun _ _ _ h => h, fun _ _ _ _ _ h => h, fun _ _ h => h⟩
theorem Ctx.le.trans {A B C : Ctx} (h : A.le B) (k : B.le C) : A.le C :=
  ⟨fun n hn => ⟨(k.ok n (h.ok n hn).1).1, ((k.ok n (h.ok n hn).1).2).trans (h.ok n hn).2⟩, fun _ _ x => k.own _ _ (h.own _ _ x), fun _ _ _ x => k.ptr _ _ _ (h.ptr _ _ _ x), fun _ _ _ _ _ x => k.eptr _ _ _ _ _ (h.eptr _ _ _ _ _ x), fun _ _ x => k.it _ _ (h.it _ _ x)⟩
theorem Ctx.le.roro {C C' : Ctx} (h : C.le C') : C.ro.le C'.ro := ⟨h.ok, fun _ _ h => h, fun _ _ _ h => h, fun _ _ _ _ _ h => h, fun _ _ h => h⟩
theorem Ctx.ro_le (C : Ctx) : C.ro.le C := ⟨fun _ h => ⟨h, rfl⟩, fun _ _ h => h.elim, fun _ _ _ h => h.elim, fun _ _ _ _ _ h => h.elim, fun _ _ h => h.elim⟩
theorem cell_of_block {w w' : World} {b : Nat} (h : w'.heap[b]? = w.heap[b]?) (o : Nat) (s : Option Nat) : w'.cell? ⟨b, o, s⟩ = w.cell? ⟨b, o, s⟩ := by
  simp only [World.cell?, h]
theorem Rep.mono {C : Ctx} {t : T} {v : Value} (h : Rep C t v) : ∀ {C' : Ctx}, C.le C' → Rep C' t v := by
  induction h with
  | s h => exact fun _ => .s h
  | agg hl h h1 ih => exact fun le => .agg hl (fun j x u hx hu => ih j x u hx hu le) h1
  | tup hl h ih => exact fun le => .tup hl (fun j x u hx hu => ih j x u hx hu le)
  | ifc h0 h ih => exact fun le => .ifc h0 (ih le.roro)
  | ifn => exact fun _ => .ifn
  | sl hl hc h hs hm ih =>
    intro C' le
    refine .sl hl hc (fun j x u hx hu => ih j x u hx hu le.roro) hs ?_
    rcases hm with hm | ⟨ad, e, hsp, hok, hcell⟩
    · exact .inl hm
    · exact .inr ⟨ad, e, hsp, (le.ok _ hok).1, fun j i u cv hu hcv => (cell_of_block (le.ok _ hok).2 _ _).trans (hcell j i u cv hu hcv)⟩
  | own h => exact fun le => .own (le.own _ _ h)
  | ptr h => exact fun le => .ptr (le.ptr _ _ _ h)
  | eptr h => exact fun le => .eptr (le.eptr _ _ _ _ _ h)
  | it h => exact fun le => .it (le.it _ _ h)
  | ep hl h h1 hsp hok hm ih =>
    intro C' le
    exact .ep hl (fun j x u hx hu => ih j x u hx hu le.roro) h1 hsp (le.ok _ hok).1 (fun i cv hi => (cell_of_block (le.ok _ hok).2 _ _).trans (hm i cv hi))
  | fn hl hl' h h' ih ih' => exact fun le => .fn hl hl' (fun j x u hx hu => ih j x u hx hu le) (fun j x u hx hu => ih' j x u hx hu le)
  | dead => exact fun _ => .dead
theorem Rep.of_ro {C : Ctx} {t : T} {v : Value} (h : Rep C.ro t v) : Rep C t v := h.mono C.ro_le

/-- What is known of package-level variables: of each that is listed, that it may be read, and what it holds. -/
def Glob (w : World) (ok : Nat → Prop) : Prop := ∀ e ∈ GL, ok e.1 ∧ ∃ (cs : Array Value) (t : TypeId) (z : Nat × Nat), w.heap[e.1]? = some (.cells cs t z) ∧ e.2 cs
theorem Glob.mono {w w' : World} {ok ok' : Nat → Prop} (h : Glob w ok) (hk : ∀ k, ok k → ok' k ∧ w'.heap[k]? = w.heap[k]?) : Glob w' ok' := by
  intro e he
  obtain ⟨h1, cs, t, z, h2, h3⟩ := h e he
  exact ⟨(hk _ h1).1, cs, t, z, by rw [(hk _ h1).2]; exact h2, h3⟩
theorem Glob.le {C C' : Ctx} (h : Glob C.w C.ok) (le : C.le C') : Glob C'.w C'.ok := h.mono le.ok

/-- Lists, one by one. -/
def RepA (C : Ctx) (cs : List T) (us : List Value) : Prop := cs.length = us.length ∧ ∀ (j : Nat) (x : T) (u : Value), cs[j]? = some x → us[j]? = some u → Rep C x u
theorem RepA.nil (C : Ctx) : RepA C [] [] := ⟨rfl, fun j x u h => by simp at h⟩
theorem RepA.cons {C : Ctx} {x : T} {u : Value} {cs : List T} {us : List Value} (h : Rep C x u) (hr : RepA C cs us) : RepA C (x :: cs) (u :: us) := by
  refine ⟨by simp [hr.1], fun j y v hy hv => ?_⟩
  cases j with
  | zero => simp at hy hv; subst hy; subst hv; exact h
  | succ j => simp at hy hv; exact hr.2 j y v hy hv
theorem RepA.head {C : Ctx} {x : T} {u : Value} {cs : List T} {us : List Value} (h : RepA C (x :: cs) (u :: us)) : Rep C x u := h.2 0 x u rfl rfl
theorem RepA.tail {C : Ctx} {x : T} {u : Value} {cs : List T} {us : List Value} (h : RepA C (x :: cs) (u :: us)) : RepA C cs us :=
  ⟨by have := h.1; simpa using this, fun j y v hy hv => h.2 (j + 1) y v (by simpa using hy) (by simpa using hv)⟩
theorem RepA.mono {C C' : Ctx} {cs : List T} {us : List Value} (h : RepA C cs us) (le : C.le C') : RepA C' cs us := ⟨h.1, fun j x u hx hu => (h.2 j x u hx hu).mono le⟩
theorem RepA.take {C : Ctx} {cs : List T} {us : List Value} (h : RepA C cs us) (n : Nat) : RepA C (cs.take n) (us.take n) := by
  refine ⟨by simp [h.1], fun j x u hx hu => ?_⟩
  rw [List.getElem?_take] at hx hu
  split at hx
  · rename_i hj
    rw [if_pos hj] at hu
    exact h.2 j x u hx hu
  · simp at hx
theorem RepA.drop {C : Ctx} {cs : List T} {us : List Value} (h : RepA C cs us) (n : Nat) : RepA C (cs.drop n) (us.drop n) := by
  refine ⟨by simp [h.1], fun j x u hx hu => ?_⟩
  rw [List.getElem?_drop] at hx hu
  exact h.2 _ x u hx hu
theorem RepA.append {C : Ctx} {cs ds : List T} {us vs : List Value} (h : RepA C cs us) (k : RepA C ds vs) : RepA C (cs ++ ds) (us ++ vs) := by
  refine ⟨by simp [h.1, k.1], fun j x u hx hu => ?_⟩
  rw [List.getElem?_append] at hx hu
  rw [h.1] at hx
  split at hx
  · rename_i hj
    rw [if_pos hj] at hu
    exact h.2 j x u hx hu
  · rename_i hj
    rw [if_neg hj] at hu
    exact k.2 _ x u hx hu
theorem RepA.set {C : Ctx} {cs : List T} {us : List Value} {x : T} {u : Value} (h : RepA C cs us) (i : Nat) (hx : Rep C x u) : RepA C (cs.set i x) (us.set i u) := by
  refine ⟨by simp [h.1], fun j y v hy hv => ?_⟩
  rw [List.getElem?_set] at hy hv
  rw [h.1] at hy
  split at hy
  · rename_i hj
    subst hj
    simp only [if_true] at hv
    split at hy
    · rename_i hi
      rw [if_pos hi] at hv
      simp at hy hv
      subst hy; subst hv
      exact hx
    · simp at hy
  · rename_i hj
    rw [if_neg hj] at hv
    exact h.2 j y v hy hv
theorem RepA.get {C : Ctx} {cs : List T} {us : List Value} (h : RepA C cs us) {j : Nat} {x : T} (hx : cs[j]? = some x) : ∃ u, us[j]? = some u ∧ Rep C x u := by
  have hj : j < us.length := by
    have := (List.getElem?_eq_some_iff.1 hx).1
    have := h.1
    omega
  exact ⟨us[j], List.getElem?_eq_getElem hj, h.2 j x _ hx (List.getElem?_eq_getElem hj)⟩
theorem RepA.one {C : Ctx} {x : T} {u : Value} (h : Rep C x u) : RepA C [x] [u] := (RepA.nil C).cons h
theorem RepA.of_ro {C : Ctx} {cs : List T} {us : List Value} (h : RepA C.ro cs us) : RepA C cs us := h.mono C.ro_le

/-- One's own things are values of one cell. -/
structure Ctx.Good (C : Ctx) : Prop where
  own : ∀ l v, C.own l v → ∃ a n c, v = .slice a n c
  ptr : ∀ l n v, C.ptr l n v → ∃ a, v = .pointer a
  eptr : ∀ l s i n v, C.eptr l s i n v → ∃ a, v = .pointer a
theorem Ctx.ro_good (C : Ctx) : C.ro.Good := ⟨fun _ _ h => h.elim, fun _ _ _ h => h.elim, fun _ _ _ _ _ h => h.elim⟩
/-- A value's cells, as trees. -/
theorem Rep.cells {C : Ctx} {x : T} {u : Value} (hg : C.Good) (h : Rep C x u) (hk : x.ok1 = true) : RepA C x.cells u.cells.toList ∧ ∀ c ∈ u.cells.toList, one c := by
  cases h with
  | agg hl h h1 => exact ⟨⟨hl, h⟩, h1⟩
  | tup hl h => simp [T.ok1] at hk
  | it h => simp [T.ok1] at hk
  | dead => simp [T.ok1] at hk
  | s h =>
    have e : u.cells = #[u] := by cases u <;> simp [plainV] at h <;> rfl
    rw [e]
    refine ⟨RepA.one (.s h), fun c hc => ?_⟩
    simp at hc; subst hc
    cases c <;> simp [plainV] at h <;> rfl
  | ifc h0 h => exact ⟨RepA.one (.ifc h0 h), fun c hc => by simp [Value.cells] at hc; subst hc; rfl⟩
  | ifn => exact ⟨RepA.one .ifn, fun c hc => by simp [Value.cells] at hc; subst hc; rfl⟩
  | sl hl hc h hs hm => exact ⟨RepA.one (.sl hl hc h hs hm), fun c hc => by simp [Value.cells] at hc; subst hc; rfl⟩
  | own h => obtain ⟨a, n, c, rfl⟩ := hg.own _ _ h; exact ⟨RepA.one (.own h), fun c hc => by simp [Value.cells] at hc; subst hc; rfl⟩
  | ptr h => obtain ⟨a, rfl⟩ := hg.ptr _ _ _ h; exact ⟨RepA.one (.ptr h), fun c hc => by simp [Value.cells] at hc; subst hc; rfl⟩
  | eptr h => obtain ⟨a, rfl⟩ := hg.eptr _ _ _ _ _ h; exact ⟨RepA.one (.eptr h), fun c hc => by simp [Value.cells] at hc; subst hc; rfl⟩
  | ep hl h h1 hsp hok hm => exact ⟨RepA.one (.ep hl h h1 hsp hok hm), fun c hc => by simp [Value.cells] at hc; subst hc; rfl⟩
  | fn hl hl' h h' => exact ⟨RepA.one (.fn hl hl' h h'), fun c hc => by simp [Value.cells] at hc; subst hc; rfl⟩

/-! ### Rows of elements -/
/-- Cells that hold elements, one behind the other. -/
def RowOf (C : Ctx) (sz : Nat) (xs : List T) (cells : Nat → Option Value) : Prop :=
  ∃ us : List Value, RepA C xs us ∧ (∀ u ∈ us, u.cells.size = sz) ∧ ∀ (j i : Nat) (u cv : Value), us[j]? = some u → u.cells[i]? = some cv → cells (j * sz + i) = some cv
theorem RowOf.mono {C C' : Ctx} {sz : Nat} {xs : List T} {f g : Nat → Option Value} (h : RowOf C sz xs f) (le : C.le C') (hfg : ∀ i v, f i = some v → g i = some v) : RowOf C' sz xs g := by
  obtain ⟨us, h1, h2, h3⟩ := h
  exact ⟨us, h1.mono le, h2, fun j i u cv hu hc => hfg _ _ (h3 j i u cv hu hc)⟩
theorem RowOf.nil (C : Ctx) (sz : Nat) (f : Nat → Option Value) : RowOf C sz [] f := ⟨[], RepA.nil C, fun u hu => (List.not_mem_nil hu).elim, fun j i u cv hu => by simp at hu⟩
theorem RowOf.take {C : Ctx} {sz : Nat} {xs : List T} {f : Nat → Option Value} (h : RowOf C sz xs f) (n : Nat) : RowOf C sz (xs.take n) f := by
  obtain ⟨us, h1, h2, h3⟩ := h
  refine ⟨us.take n, h1.take n, fun u hu => h2 u (List.mem_of_mem_take hu), fun j i u cv hu hc => h3 j i u cv ?_ hc⟩
  rw [List.getElem?_take] at hu
  split at hu
  · exact hu
  · simp at hu
theorem RowOf.drop {C : Ctx} {sz : Nat} {xs : List T} {f : Nat → Option Value} (h : RowOf C sz xs f) (n : Nat) : RowOf C sz (xs.drop n) (fun i => f (n * sz + i)) := by
  obtain ⟨us, h1, h2, h3⟩ := h
  refine ⟨us.drop n, h1.drop n, fun u hu => h2 u (List.mem_of_mem_drop hu), fun j i u cv hu hc => ?_⟩
  rw [List.getElem?_drop] at hu
  have := h3 (n + j) i u cv hu hc
  rw [Nat.add_mul, Nat.add_assoc] at this
  exact this
/-- An element, and its cells. -/
theorem RowOf.get {C : Ctx} {sz : Nat} {xs : List T} {f : Nat → Option Value} (h : RowOf C sz xs f) {j : Nat} {x : T} (hx : xs[j]? = some x) : ∃ u, Rep C x u ∧ u.cells.size = sz ∧ ∀ i cv, u.cells[i]? = some cv → f (j * sz + i) = some cv := by
  obtain ⟨us, h1, h2, h3⟩ := h
  obtain ⟨u, hu, hr⟩ := h1.get hx
  exact ⟨u, hr, h2 u (List.mem_of_getElem? hu), fun i cv hc => h3 j i u cv hu hc⟩
theorem Rep.sl_row {C : Ctx} {sz : Nat} {xs : List T} {v : Value} (h : Rep C (.sl sz xs) v) : ∃ A c, v = .slice A xs.length c ∧ xs.length ≤ c ∧ (xs = [] ∨ ∃ ad : Addr, A = some ad ∧ ad.spot = none ∧ C.ok ad.block ∧ RowOf C.ro sz xs (fun i => C.w.cell? ⟨ad.block, ad.off + i, none⟩)) := by
  cases h with
  | sl hl hc h hs hm =>
    rename_i us A c
    refine ⟨A, c, rfl, hc, ?_⟩
    rcases hm with hm | ⟨ad, e, hsp, hok, hcell⟩
    · exact .inl hm
    · exact .inr ⟨ad, e, hsp, hok, us, ⟨hl, h⟩, hs, hcell⟩
theorem Rep.sl_mk {C : Ctx} {sz : Nat} {xs : List T} {A : Option Addr} {c : Nat} (hc : xs.length ≤ c) (hm : xs = [] ∨ ∃ ad : Addr, A = some ad ∧ ad.spot = none ∧ C.ok ad.block ∧ RowOf C.ro sz xs (fun i => C.w.cell? ⟨ad.block, ad.off + i, none⟩)) : Rep C (.sl sz xs) (.slice A xs.length c) := by
  rcases hm with rfl | ⟨ad, e, hsp, hok, us, h1, h2, h3⟩
  · exact .sl (us := []) rfl hc (fun j x u h => by simp at h) (fun u hu => (List.not_mem_nil hu).elim) (.inl rfl)
  · exact .sl h1.1 hc h1.2 h2 (.inr ⟨ad, e, hsp, hok, h3⟩)
theorem Rep.ep_parts {C : Ctx} {cs : List T} {v : Value} (h : Rep C (.ep cs) v) : ∃ (us : List Value) (ad : Addr), v = .pointer (some ad) ∧ cs.length = us.length ∧ (∀ (j : Nat) (x : T) (u : Value), cs[j]? = some x → us[j]? = some u → Rep C.ro x u) ∧ (∀ u ∈ us, one u) ∧
    ad.spot = none ∧ C.ok ad.block ∧ ∀ (i : Nat) (cv : Value), us[i]? = some cv → C.w.cell? ⟨ad.block, ad.off + i, none⟩ = some cv := by
  cases h with
  | ep hl h h1 hsp hok hm => exact ⟨_, _, rfl, hl, h, h1, hsp, hok, hm⟩
theorem Rep.agg_parts {C : Ctx} {cs : List T} {v : Value} (h : Rep C (.agg cs) v) : ∃ vs : List Value, v = .agg vs.toArray ∧ cs.length = vs.length ∧ (∀ (j : Nat) (x : T) (u : Value), cs[j]? = some x → vs[j]? = some u → Rep C x u) ∧ ∀ u ∈ vs, one u := by
  cases h with
  | agg hl h h1 => exact ⟨_, rfl, hl, h, h1⟩
theorem Rep.tup_parts {C : Ctx} {cs : List T} {v : Value} (h : Rep C (.tup cs) v) : ∃ vs : List Value, v = .tuple vs.toArray ∧ RepA C cs vs := by
  cases h with
  | tup hl h => exact ⟨_, rfl, hl, h⟩
theorem Rep.fn_parts {C : Ctx} {f : Fn} {fs cs : List T} {v : Value} (h : Rep C (.fn f fs cs) v) : ∃ vf vc : List Value, v = .func f vf.toArray vc.toArray ∧ RepA C fs vf ∧ RepA C cs vc := by
  cases h with
  | fn hl hl' h h' => exact ⟨_, _, rfl, ⟨hl, h⟩, ⟨hl', h'⟩⟩
/-- nil of an interface. -/
theorem rep_nilI (C : Ctx) : Rep C nilI .nilIface := .ifn
theorem rep_ofV {C : Ctx} {u : Value} (h : plainI u = true) : Rep C (ofV u) u := by
  cases u <;> first | exact .ifn | exact .s h
theorem ok1_ofV (u : Value) : (ofV u).ok1 = true := by cases u <;> rfl
/-- Canonical. -/
theorem canC_rep {P : Program} {C : Ctx} {t : TypeId} {x : T} {v : Value} (h : Rep C x v) : Rep C (canC P t x) v := by
  unfold canC
  split
  · split
    · split
      · split
        · obtain ⟨A, c, rfl, hc, _⟩ := h.sl_row
          exact Rep.sl_mk hc (.inl rfl)
        · exact h
      · exact h
    · exact h
  · exact h
theorem canL_rep {P : Program} {C : Ctx} : ∀ (ts : List TypeId) (cs : List T) (us : List Value), RepA C cs us → RepA C (canL P ts cs) us
  | [], cs, us, h => by cases cs <;> exact h
  | t :: ts, [], us, h => h
  | t :: ts, c :: cs, [], h => absurd h.1 (by simp)
  | t :: ts, c :: cs, u :: us, h => (canL_rep ts cs us h.tail).cons (canC_rep h.head)
theorem canT_rep {P : Program} {C : Ctx} {t : TypeId} {x : T} {v : Value} (h : Rep C x v) : Rep C (canT P t x) v := by
  unfold canT
  split
  · obtain ⟨vs, rfl, hl, hc, h1⟩ := h.agg_parts
    have := canL_rep (P := P) (leafT P 6 t) _ vs ⟨hl, hc⟩
    exact .agg this.1 this.2 h1
  · exact canC_rep h
theorem canM_rep {P : Program} {C : Ctx} {t : TypeId} {xs : List T} {us : List Value} (h : RepA C xs us) : RepA C (xs.map (canT P t)) us := by
  refine ⟨by simp [h.1], fun j x u hx hu => ?_⟩
  rw [List.getElem?_map] at hx
  cases hj : xs[j]? with
  | none => rw [hj] at hx; simp at hx
  | some y => rw [hj] at hx; simp at hx; subst hx; exact canT_rep (h.2 j y u hj hu)
end Go.Proofs.YtfknpnkdedckhaaGreatDoorT

/- The interpreter over trees: the state's relation to the world, and how it goes on. -/
namespace Go.Proofs.YtfknpnkdedckhaaGreatDoorT
open Go Go.RowKit
set_option linter.unusedVariables false

/-- The world goes on: of what was there only blocks of M may have turned. -/
structure Fr (M : Nat → Prop) (w w' : World) : Prop where
  os : w'.os = w.os
  tape : w'.tape = w.tape
  output : w'.output = w.output
  size : w.heap.size ≤ w'.heap.size
  block : ∀ k, k < w.heap.size → ¬ M k → w'.heap[k]? = w.heap[k]?
theorem Fr.refl (M : Nat → Prop) (w : World) : Fr M w w := ⟨rfl, rfl, rfl, Nat.le_refl _, fun _ _ _ => rfl⟩
theorem Fr.trans {M N : Nat → Prop} {a b c : World} (h : Fr M a b) (k : Fr N b c) (hN : ∀ i, N i → M i ∨ a.heap.size ≤ i) : Fr M a c :=
  ⟨k.os.trans h.os, k.tape.trans h.tape, k.output.trans h.output, Nat.le_trans h.size k.size, fun i hi hM => (k.block i (Nat.lt_of_lt_of_le hi h.size) (fun hn => (hN i hn).elim hM (fun hle => by omega))).trans (h.block i hi hM)⟩
theorem Fr.mono {M N : Nat → Prop} {w w' : World} (h : Fr M w w') (hMN : ∀ i, M i → N i) : Fr N w w' := ⟨h.os, h.tape, h.output, h.size, fun i hi hn => h.block i hi (fun hm => hn (hMN i hm))⟩
theorem Fr.below {w w' : World} (h : Fr (fun _ => False) w w') : Below w.heap.size w w' := ⟨h.os, h.tape, h.output, h.size, fun k hk => h.block k hk id⟩
theorem Fr.drew (M : Nat → Prop) (w : World) : Fr M w { w with drawn := w.drawn + 1 } := ⟨rfl, rfl, rfl, Nat.le_refl _, fun _ _ _ => rfl⟩
theorem alloc_size (w : World) (o : Obj) : (w.alloc o).heap.size = w.heap.size + 1 := by show (w.heap.push o).size = _; simp
theorem alloc_new (w : World) (o : Obj) : (w.alloc o).heap[w.heap.size]? = some o := by show (w.heap.push o)[w.heap.size]? = _; simp
theorem Fr.alloc (M : Nat → Prop) (w : World) (o : Obj) : Fr M w (w.alloc o) :=
  ⟨rfl, rfl, rfl, by rw [alloc_size]; omega, fun k hk _ => Below.heap_alloc w o k hk⟩

/-- Where a call began: its world, the blocks that it was handed for its own, and those that it may read. -/
structure Base where
  w0 : World
  bs : List Nat
  ok0 : Nat → Prop
def Base.okb (B : Base) (k : Nat) : Prop := B.ok0 k ∨ k ∈ B.bs ∨ B.w0.heap.size ≤ k
def owned (σ : Loc → Option O) (inj : Loc → Nat) (k : Nat) : Prop := ∃ l o, σ l = some o ∧ inj l = k

def sctx (B : Base) (w : World) (inj : Loc → Nat) (σ : Loc → Option O) (cnt : Nat → Nat) : Ctx where
  w := w
  ok := fun k => B.okb k ∧ k < w.heap.size ∧ ¬ owned σ inj k
  own := fun l v => l.2 < cnt l.1 ∧ ∃ b n c, v = .slice (some ⟨b, 0, none⟩) n c ∧ n ≤ c ∧ ∀ e sz xs, σ l = some (.arr e sz xs) → n = xs.length ∧ b = inj l ∧ ∃ cells, w.heap[inj l]? = some (.cells cells e (0, 0)) ∧ cells.size = c * sz
  ptr := fun l off v => l.2 < cnt l.1 ∧ ∃ b, v = .pointer (some ⟨b, off, none⟩) ∧ ∀ ty cs, σ l = some (.box ty cs) → b = inj l
  eptr := fun l sz i off v => l.2 < cnt l.1 ∧ ∃ b, v = .pointer (some ⟨b, i * sz + off, none⟩) ∧ ∀ e sz' xs, σ l = some (.arr e sz' xs) → b = inj l
  it := fun l v => l.2 < cnt l.1 ∧ ∀ b pos, σ l = some (.iter b pos) → v = .pointer (some ⟨inj l, 0, none⟩)
theorem sctx_w (B : Base) (w : World) (inj : Loc → Nat) (σ : Loc → Option O) (cnt : Nat → Nat) : (sctx B w inj σ cnt).w = w := rfl
theorem ro_w (C : Ctx) : C.ro.w = C.w := rfl
theorem sctx_good (B : Base) (w : World) (inj : Loc → Nat) (σ : Loc → Option O) (cnt : Nat → Nat) : (sctx B w inj σ cnt).Good :=
  ⟨fun _ _ h => by obtain ⟨_, b, n, c, e, _⟩ := h; exact ⟨_, _, _, e⟩, fun _ _ _ h => by obtain ⟨_, b, e, _⟩ := h; exact ⟨_, e⟩, fun _ _ _ _ _ h => by obtain ⟨_, b, e, _⟩ := h; exact ⟨_, e⟩⟩

def RepO (C : Ctx) (b : Nat) : O → Prop
  | .box ty cs => ∃ us : List Value, C.w.heap[b]? = some (.cells us.toArray ty (0, 0)) ∧ RepA C cs us ∧ ∀ u ∈ us, one u
  | .arr e sz xs => 0 < sz ∧ ∃ (cells : Array Value) (c : Nat), C.w.heap[b]? = some (.cells cells e (0, 0)) ∧ cells.size = c * sz ∧ xs.length ≤ c ∧ c ≤ maxLen ∧ RowOf C.ro sz xs (fun i => cells[i]?)
  | .iter s pos => C.w.heap[b]? = some (.stringIter s pos)
theorem RepO.mono {C C' : Ctx} {b : Nat} {o : O} (h : RepO C b o) (le : C.le C') (hb : C'.w.heap[b]? = C.w.heap[b]?) : RepO C' b o := by
  cases o with
  | box ty cs => obtain ⟨us, h1, h2, h3⟩ := h; exact ⟨us, hb.trans h1, h2.mono le, h3⟩
  | arr e sz xs => obtain ⟨h0, cells, c, h1, h2, h3, h4, h5⟩ := h; exact ⟨h0, cells, c, hb.trans h1, h2, h3, h4, h5.mono le.roro (fun _ _ h => h)⟩
  | iter s pos => exact hb.trans h

structure SR (B : Base) (w : World) (inj : Loc → Nat) (σ : Loc → Option O) (cnt : Nat → Nat) : Prop where
  fr : Fr (· ∈ B.bs) B.w0 w
  lt : ∀ l o, σ l = some o → inj l < w.heap.size
  uniq : ∀ l l' o o', σ l = some o → σ l' = some o' → inj l = inj l' → l = l'
  obj : ∀ l o, σ l = some o → RepO (sctx B w inj σ cnt) (inj l) o
  fresh : ∀ l o, σ l = some o → l.2 < cnt l.1
  mine : ∀ l o, σ l = some o → inj l ∈ B.bs ∨ B.w0.heap.size ≤ inj l

def O.like : O → O → Prop
  | .box .., .box .. => True
  | .arr e sz xs, .arr e' sz' xs' => e = e' ∧ sz = sz' ∧ xs.length = xs'.length
  | .iter .., .iter .. => True
  | _, _ => False
theorem O.like_refl (o : O) : o.like o := by cases o <;> simp [O.like]

/-- What goes on keeps what is known. -/
theorem next_le {B : Base} {w w' : World} {inj inj' : Loc → Nat} {σ σ' : Loc → Option O} {cnt cnt' : Nat → Nat}
    (hfr : Fr (owned σ inj) w w') (hcnt : ∀ s, cnt s ≤ cnt' s)
    (hnew : ∀ l o', σ' l = some o' → owned σ inj (inj' l) ∨ w.heap.size ≤ inj' l)
    (hold : ∀ l o', l.2 < cnt l.1 → σ' l = some o' → ∃ o, σ l = some o ∧ inj' l = inj l ∧ o.like o' ∧
      ∀ e0 sz0 xs0, o = .arr e0 sz0 xs0 → ∀ cells e, w.heap[inj l]? = some (.cells cells e (0, 0)) → ∃ cells', w'.heap[inj l]? = some (.cells cells' e (0, 0)) ∧ cells'.size = cells.size) :
    (sctx B w inj σ cnt).le (sctx B w' inj' σ' cnt') := by
  refine ⟨?_, ?_, ?_, ?_, ?_⟩
  · rintro k ⟨h1, h2, h3⟩
    refine ⟨⟨h1, Nat.lt_of_lt_of_le h2 hfr.size, ?_⟩, hfr.block k h2 h3⟩
    rintro ⟨l, o', ho, rfl⟩
    rcases hnew l o' ho with h | h
    · exact h3 h
    · omega
  · rintro l v ⟨h1, b, n, c, hv, hnc, h3⟩
    refine ⟨Nat.lt_of_lt_of_le h1 (hcnt _), b, n, c, hv, hnc, fun e sz xs hx => ?_⟩
    obtain ⟨o, ho, hi, hlike, hsh⟩ := hold l _ h1 hx
    cases o with
    | box ty cs => simp [O.like] at hlike
    | iter s pos => simp [O.like] at hlike
    | arr e0 sz0 xs0 =>
      obtain ⟨rfl, rfl, hlen⟩ := hlike
      obtain ⟨gn, g0, cells, g1, g2⟩ := h3 e0 sz0 xs0 ho
      obtain ⟨cells', k1, k2⟩ := hsh e0 sz0 xs0 rfl cells e0 g1
      exact ⟨by omega, by rw [hi]; exact g0, cells', by rw [hi]; exact k1, by rw [k2]; exact g2⟩
  · rintro l n v ⟨h1, b, hv, h3⟩
    refine ⟨Nat.lt_of_lt_of_le h1 (hcnt _), b, hv, fun ty cs hx => ?_⟩
    obtain ⟨o, ho, hi, hlike, hsh⟩ := hold l _ h1 hx
    cases o with
    | arr e0 sz0 xs0 => simp [O.like] at hlike
    | iter s pos => simp [O.like] at hlike
    | box ty0 cs0 => rw [hi]; exact h3 ty0 cs0 ho
  · rintro l sz i n v ⟨h1, b, hv, h3⟩
    refine ⟨Nat.lt_of_lt_of_le h1 (hcnt _), b, hv, fun e sz' xs hx => ?_⟩
    obtain ⟨o, ho, hi, hlike, hsh⟩ := hold l _ h1 hx
    cases o with
    | box ty cs => simp [O.like] at hlike
    | iter s pos => simp [O.like] at hlike
    | arr e0 sz0 xs0 => rw [hi]; exact h3 e0 sz0 xs0 ho
  · rintro l v ⟨h1, h3⟩
    refine ⟨Nat.lt_of_lt_of_le h1 (hcnt _), fun b pos hx => ?_⟩
    obtain ⟨o, ho, hi, hlike, hsh⟩ := hold l _ h1 hx
    cases o with
    | box ty cs => simp [O.like] at hlike
    | arr e0 sz0 xs0 => simp [O.like] at hlike
    | iter s0 pos0 => rw [hi]; exact h3 s0 pos0 ho

theorem SR.next {B : Base} {w w' : World} {inj inj' : Loc → Nat} {σ σ' : Loc → Option O} {cnt cnt' : Nat → Nat} (h : SR B w inj σ cnt)
    (hfr : Fr (owned σ inj) w w') (hcnt : ∀ s, cnt s ≤ cnt' s)
    (hnew : ∀ l o', σ' l = some o' → owned σ inj (inj' l) ∨ w.heap.size ≤ inj' l)
    (hlt : ∀ l o', σ' l = some o' → inj' l < w'.heap.size)
    (hinj : ∀ l l' o o', σ' l = some o → σ' l' = some o' → inj' l = inj' l' → l = l')
    (hfresh : ∀ l o', σ' l = some o' → l.2 < cnt' l.1)
    (hobj : ∀ l o', σ' l = some o' → RepO (sctx B w' inj' σ' cnt') (inj' l) o') : SR B w' inj' σ' cnt' where
  fr := h.fr.trans hfr (by
    rintro i ⟨l, o, ho, rfl⟩
    exact h.mine l o ho)
  lt := hlt
  uniq := hinj
  obj := hobj
  fresh := hfresh
  mine := by
    intro l o' ho
    rcases hnew l o' ho with ⟨l0, o0, h0, e⟩ | hle
    · rw [← e]; exact h.mine l0 o0 h0
    · exact .inr (Nat.le_trans h.fr.size hle)

/-- A step: the state behind it, and a value. -/
structure Stp (B : Base) (w : World) (inj : Loc → Nat) (σ : Loc → Option O) (cnt : Nat → Nat) (d : Dl) (v : Value) (w' : World) : Prop where
  ex : ∃ inj', SR B w' inj' (updL σ d.upd) (fun s => if d.bump.contains s then cnt s + 1 else cnt s) ∧
    (sctx B w inj σ cnt).le (sctx B w' inj' (updL σ d.upd) (fun s => if d.bump.contains s then cnt s + 1 else cnt s)) ∧
    Rep (sctx B w' inj' (updL σ d.upd) (fun s => if d.bump.contains s then cnt s + 1 else cnt s)) d.v v
theorem Stp.pure {B : Base} {w : World} {inj : Loc → Nat} {σ : Loc → Option O} {cnt : Nat → Nat} (h : SR B w inj σ cnt) {x : T} {v : Value} (hx : Rep (sctx B w inj σ cnt) x v) (rd : List Loc) : Stp B w inj σ cnt ⟨x, [], [], rd⟩ v w :=
  ⟨inj, by simpa [updL] using h, by simpa [updL] using Ctx.le.refl _, by simpa [updL] using hx⟩

/-- A new object at a new key. -/
theorem Stp.newAt {B : Base} {w w' : World} {inj : Loc → Nat} {σ : Loc → Option O} {cnt : Nat → Nat} (h : SR B w inj σ cnt) (site : Nat) (o : O) (ob : Obj) (x : T) (v : Value) (rd : List Loc)
    (hfr0 : Fr (fun _ => False) w w') (hnewblk : w'.heap[w.heap.size]? = some ob)
    (hob : ∀ C : Ctx, (sctx B w inj σ cnt).le C → C.w.heap[w.heap.size]? = some ob → RepO C w.heap.size o)
    (hx : ∀ (inj' : Loc → Nat) (σ' : Loc → Option O) (cnt' : Nat → Nat), inj' (site, cnt site) = w.heap.size → σ' (site, cnt site) = some o → cnt site < cnt' site → Rep (sctx B w' inj' σ' cnt') x v) :
    Stp B w inj σ cnt ⟨x, [((site, cnt site), some o)], [site], rd⟩ v w' := by
  have hnone : σ (site, cnt site) = none := by
    cases hs : σ (site, cnt site) with
    | none => rfl
    | some o0 => have := h.fresh _ _ hs; simp at this
  have hc : ∀ s, cnt s ≤ (if [site].contains s then cnt s + 1 else cnt s) := by intro s; split <;> omega
  have hσ : ∀ l, updL σ [((site, cnt site), some o)] l = if l = (site, cnt site) then some o else σ l := fun l => rfl
  have hlook : ∀ l o', updL σ [((site, cnt site), some o)] l = some o' → (l = (site, cnt site) ∧ o' = o) ∨ (l ≠ (site, cnt site) ∧ σ l = some o') := by
    intro l o' hl
    rw [hσ] at hl
    split at hl
    · rename_i e; injection hl with hl; exact .inl ⟨e, hl.symm⟩
    · rename_i e; exact .inr ⟨e, hl⟩
  have hfr : Fr (owned σ inj) w w' := hfr0.mono (fun _ h => h.elim)
  have hnew : ∀ l o', updL σ [((site, cnt site), some o)] l = some o' → owned σ inj ((fun l => if l = (site, cnt site) then w.heap.size else inj l) l) ∨ w.heap.size ≤ (fun l => if l = (site, cnt site) then w.heap.size else inj l) l := by
    intro l o' hl
    rcases hlook l o' hl with ⟨rfl, rfl⟩ | ⟨hne, hs⟩
    · right; simp
    · left; simp only [hne, if_false]; exact ⟨l, o', hs, rfl⟩
  have le := next_le (B := B) (inj' := fun l => if l = (site, cnt site) then w.heap.size else inj l) (σ' := updL σ [((site, cnt site), some o)]) hfr hc hnew (by
    intro l o' hlt hl
    rcases hlook l o' hl with ⟨rfl, rfl⟩ | ⟨hne, hs⟩
    · simp at hlt
    · refine ⟨o', hs, by simp [hne], O.like_refl _, fun _ _ _ _ cells e hcell => ⟨cells, ?_, rfl⟩⟩
      rw [hfr0.block _ (h.lt l o' hs) id]; exact hcell)
  refine ⟨_, h.next hfr hc hnew ?_ ?_ ?_ ?_, le, hx _ _ _ (by simp) (by simp [hσ]) (by simp)⟩
  · intro l o' hl
    rcases hlook l o' hl with ⟨rfl, rfl⟩ | ⟨hne, hs⟩
    · simpa using (Array.getElem?_eq_some_iff.1 hnewblk).1
    · simp only [hne, if_false]; exact Nat.lt_of_lt_of_le (h.lt l o' hs) hfr0.size
  · intro l l' o1 o2 h1 h2 he
    rcases hlook l o1 h1 with ⟨rfl, rfl⟩ | ⟨hne, hs⟩ <;> rcases hlook l' o2 h2 with ⟨rfl, rfl⟩ | ⟨hne', hs'⟩
    · rfl
    · have := h.lt l' o2 hs'; simp [hne'] at he; omega
    · have := h.lt l o1 hs; simp [hne] at he; omega
    · simp only [hne, hne', if_false] at he; exact h.uniq l l' o1 o2 hs hs' he
  · intro l o' hl
    rcases hlook l o' hl with ⟨rfl, rfl⟩ | ⟨hne, hs⟩
    · simp
    · exact Nat.lt_of_lt_of_le (h.fresh l o' hs) (hc _)
  · intro l o' hl
    rcases hlook l o' hl with ⟨rfl, rfl⟩ | ⟨hne, hs⟩
    · simp only [if_true]; exact hob _ le hnewblk
    · simp only [hne, if_false]; exact (h.obj l o' hs).mono le (hfr0.block _ (h.lt l o' hs) id)
theorem Stp.new {B : Base} {w : World} {inj : Loc → Nat} {σ : Loc → Option O} {cnt : Nat → Nat} (h : SR B w inj σ cnt) (site : Nat) (o : O) (ob : Obj) (x : T) (v : Value) (rd : List Loc)
    (hob : ∀ C : Ctx, (sctx B w inj σ cnt).le C → C.w.heap[w.heap.size]? = some ob → RepO C w.heap.size o)
    (hx : ∀ (inj' : Loc → Nat) (σ' : Loc → Option O) (cnt' : Nat → Nat), inj' (site, cnt site) = w.heap.size → σ' (site, cnt site) = some o → cnt site < cnt' site → (w.alloc ob).heap[w.heap.size]? = some ob → Rep (sctx B (w.alloc ob) inj' σ' cnt') x v) :
    Stp B w inj σ cnt ⟨x, [((site, cnt site), some o)], [site], rd⟩ v (w.alloc ob) :=
  Stp.newAt h site o ob x v rd (Fr.alloc _ w ob) (alloc_new w ob) hob (fun inj' σ' cnt' h1 h2 h3 => hx inj' σ' cnt' h1 h2 h3 (alloc_new w ob))
end Go.Proofs.YtfknpnkdedckhaaGreatDoorT

/- The interpreter over trees: each operation that reads, computes or makes one thing does in the model what the tree says. -/
namespace Go.Proofs.YtfknpnkdedckhaaGreatDoorT
open Go Go.RowKit
set_option linter.unusedVariables false

section
variable {P : Program}
theorem run_und {t : TypeId} {d : TypeDesc} (h : P.underlying t = some d) (w : World) : (underlying t).run P w = .ok d w := by simp [underlying, h]
theorem run_agg {t : TypeId} {b : Bool} (h : aggOf P t = some b) (w : World) : (isAgg t).run P w = .ok b w := by
  unfold aggOf at h
  unfold isAgg
  cases hu : P.underlying t with
  | none => rw [hu] at h; simp at h
  | some d =>
    rw [Sem.run_bind, run_und hu, Result.andThen_ok]
    rw [hu] at h
    cases d <;> simp at h <;> subst h <;> rfl
theorem run_sz {t : TypeId} {n : Nat} (h : szOf P t = some n) (w : World) : (sizeOf t).run P w = .ok n w := by
  unfold szOf at h
  cases hi : P.info? t with
  | none => rw [hi] at h; simp at h
  | some i => rw [hi] at h; simp at h; simp [sizeOf, typeInfo, hi, h]
theorem run_info {t : TypeId} {i : TypeInfo} (h : P.info? t = some i) (w : World) : (typeInfo t).run P w = .ok i w := by simp [typeInfo, h]

theorem add_at {ad : Addr} (h : ad.spot = none) (n : Nat) : ad.add n = ⟨ad.block, ad.off + n, none⟩ := by
  unfold Addr.add
  split
  · rename_i e; subst e; cases ad; simp at h; simp [h]
  · rfl
/-- A variable of a type, out of cells. -/
theorem run_loadV {C : Ctx} {t : TypeId} {cs : List T} {us : List Value} {x : T} {ad : Addr} (hr : RepA C cs us) (h1 : ∀ u ∈ us, one u) (hsp : ad.spot = none)
    (hc : ∀ (i : Nat) (cv : Value), us[i]? = some cv → C.w.cell? ⟨ad.block, ad.off + i, none⟩ = some cv) (hx : ofCells P t cs = some x) :
    ∃ v, (loadVar t ad).run P C.w = .ok v C.w ∧ Rep C x v := by
  unfold ofCells at hx
  split at hx
  · rename_i n ha hs
    split at hx
    · rename_i hn
      injection hx with hx; subst hx
      have hl : (us.take n).length = n := by rw [List.length_take, ← hr.1]; omega
      refine ⟨.agg (us.take n).toArray, ?_, .agg (by rw [List.length_take, List.length_take, hr.1]) ((hr.take n).2) (fun u hu => h1 u (List.mem_of_mem_take hu))⟩
      have hload := run_loadCells_list (P := P) C.w ad (us.take n) (fun j v hj => by
        rw [add_at hsp]
        rw [List.getElem?_take] at hj
        split at hj
        · exact hc j v hj
        · simp at hj)
      rw [hl] at hload
      simp [loadVar, run_agg ha, run_sz hs, hload]
    · simp at hx
  · rename_i n ha hs
    split at hx
    · rename_i hn
      cases cs with
      | nil => simp at hx
      | cons y r =>
        simp at hx; subst hx
        obtain ⟨u, hu, hru⟩ := hr.get (j := 0) (x := y) rfl
        have hcell : C.w.cell? ad = some u := by
          have := hc 0 u hu
          rw [Nat.add_zero] at this
          rw [← this]; congr 1; cases ad; simp at hsp; simp [hsp]
        exact ⟨u, by simp [loadVar, run_agg ha, hcell], hru⟩
    · simp at hx
  · simp at hx
/-- What a type's value is, out of cells of the frame's own. -/
theorem run_part {C : Ctx} {t : TypeId} {cs : List T} {us : List Value} {x : T} (off : Nat) (hr : RepA C cs us) (h1 : ∀ u ∈ us, one u) (w : World) (hx : ofCells P t (cs.drop off) = some x) :
    ∃ v, (part t us.toArray off).run P w = .ok v w ∧ Rep C x v := by
  unfold ofCells at hx
  split at hx
  · rename_i n ha hs
    split at hx
    · rename_i hn
      injection hx with hx; subst hx
      refine ⟨.agg ((us.drop off).take n).toArray, ?_, .agg (by simp [hr.1]) (((hr.drop off).take n).2) (fun u hu => h1 u (List.mem_of_mem_drop (List.mem_of_mem_take hu)))⟩
      have he : us.toArray.extract off (off + n) = ((us.drop off).take n).toArray := by
        apply Array.ext'
        simp [List.take_drop]
      simp only [part, Sem.run_bind, run_agg ha, Result.andThen_ok, if_true, run_sz hs, he, Sem.run_pure]
    · simp at hx
  · rename_i n ha hs
    split at hx
    · rename_i hn
      cases hd : cs.drop off with
      | nil => rw [hd] at hx; simp at hx
      | cons y r =>
        rw [hd] at hx
        simp at hx; subst hx
        have hy : cs[off]? = some y := by
          have := congrArg List.head? hd
          rw [List.head?_drop] at this
          simpa using this
        obtain ⟨u, hu, hru⟩ := hr.get hy
        refine ⟨u, ?_, hru⟩
        simp only [part, Sem.run_bind, run_agg ha, Result.andThen_ok]
        simp [hu]
    · simp at hx
  · simp at hx
theorem fieldOf_parts {t : TypeId} {i o n : Nat} {ft : TypeId} (h : fieldOf P t i = some (o, n, ft)) : ∃ fs f, P.underlying t = some (.struct fs) ∧ fs[i]? = some f ∧ f.offset = o ∧ f.type = ft ∧ szOf P ft = some n ∧ n ≠ 0 := by
  unfold fieldOf at h
  split at h
  · rename_i fs hu
    split at h
    · rename_i f hf
      split at h
      · rename_i m hs
        split at h
        · simp at h
        · rename_i hm
          simp at h
          obtain ⟨rfl, rfl, rfl⟩ := h
          exact ⟨fs, f, hu, hf, rfl, rfl, hs, hm⟩
      · simp at h
    · simp at h
  · simp at h
theorem run_field_at {t : TypeId} {i o n : Nat} {ft : TypeId} (h : fieldOf P t i = some (o, n, ft)) (ad : Addr) (hsp : ad.spot = none) (w : World) : (Instr.fieldAt t (.pointer (some ad)) i).run P w = .ok (.pointer (some ⟨ad.block, ad.off + o, none⟩)) w := by
  obtain ⟨fs, f, hu, hf, rfl, rfl, hs, hn⟩ := fieldOf_parts h
  simp [Instr.fieldAt, run_und hu, hf, Instr.sureAddr, fieldPlace, run_sz hs, hn, add_at hsp]
end

section
variable {P : Program} {B : Base} {w : World} {inj : Loc → Nat} {σ : Loc → Option O} {cnt : Nat → Nat}
theorem box_parts (h : SR B w inj σ cnt) {l : Loc} {ty : TypeId} {cs : List T} (hl : σ l = some (.box ty cs)) : ∃ us : List Value, w.heap[inj l]? = some (.cells us.toArray ty (0, 0)) ∧ RepA (sctx B w inj σ cnt) cs us ∧ ∀ u ∈ us, one u := h.obj l _ hl
theorem box_cell {b : Nat} {us : List Value} {ty : TypeId} (h : w.heap[b]? = some (.cells us.toArray ty (0, 0))) (off : Nat) : ∀ (i : Nat) (cv : Value), (us.drop off)[i]? = some cv → w.cell? ⟨b, off + i, none⟩ = some cv := by
  intro i cv hi
  rw [List.getElem?_drop] at hi
  simp [World.cell?, h, hi]
/-- load -/
theorem load_rep {S : St} (h : SR B w inj S.σ S.cnt) {t : TypeId} {x : T} {u : Value} {d : Dl} (hx : Rep (sctx B w inj S.σ S.cnt) x u) (hd : evLoad P S t x = some d) :
    ∃ v A, u = .pointer (some A) ∧ (loadVar t A).run P w = .ok v w ∧ Rep (sctx B w inj S.σ S.cnt) d.v v ∧ ∃ rd, d = ⟨d.v, [], [], rd⟩ := by
  unfold evLoad at hd
  split at hd
  · rename_i l off
    split at hd
    · rename_i ty cs hl
      split at hd
      · rename_i y hy
        injection hd with hd; subst hd
        cases hx with
        | ptr hp =>
          obtain ⟨_, b, rfl, hbi⟩ := hp
          obtain rfl := hbi ty cs hl
          obtain ⟨us, hb, hr, h1⟩ := box_parts h hl
          obtain ⟨v, hv, hrv⟩ := run_loadV (P := P) (t := t) (ad := ⟨inj l, off, none⟩) (hr.drop off) (fun u hu => h1 u (List.mem_of_mem_drop hu)) rfl (box_cell hb off) hy
          exact ⟨v, _, rfl, hv, hrv, _, rfl⟩
      · simp at hd
    · simp at hd
  · rename_i cs
    split at hd
    · rename_i y hy
      unfold pv at hd
      injection hd with hd; subst hd
      cases hx with
      | ep hl hr h1 hsp hok hm =>
        obtain ⟨v, hv, hrv⟩ := run_loadV (P := P) (C := (sctx B w inj S.σ S.cnt).ro) (t := t) ⟨hl, hr⟩ h1 hsp hm hy
        exact ⟨v, _, rfl, hv, hrv.of_ro, _, rfl⟩
    · simp at hd
  · rename_i l sz i off
    split at hd
    · rename_i e sz' xs hl
      split at hd
      · rename_i y hy
        split at hd
        · rename_i hk
          split at hd
          · rename_i z hz
            injection hd with hd; subst hd
            cases hx
            rename_i hp
            simp only [Bool.and_eq_true, decide_eq_true_eq] at hk
            obtain ⟨hk, rfl⟩ := hk
            obtain ⟨_, b, rfl, hbi⟩ := hp
            obtain rfl := hbi _ _ _ hl
            obtain ⟨h0, cells, c, hb, hcs, hlc, hcm, hrow⟩ := h.obj l _ hl
            obtain ⟨u, hru, hus, huc⟩ := hrow.get hy
            obtain ⟨hra, h1⟩ := hru.cells (Ctx.ro_good _) hk
            obtain ⟨v, hv, hrv⟩ := run_loadV (P := P) (C := (sctx B w inj S.σ S.cnt).ro) (t := t) (ad := ⟨inj l, i * sz' + off, none⟩) (hra.drop off) (fun u hu => h1 u (List.mem_of_mem_drop hu)) rfl (fun i' cv hc => by
              rw [List.getElem?_drop, Array.getElem?_toList] at hc
              have := huc _ _ hc
              have hb' : w.heap[inj l]? = some (.cells cells e (0, 0)) := hb
              show w.cell? _ = _
              simp [World.cell?, hb', Nat.add_assoc, this]) hz
            exact ⟨v, _, rfl, hv, hrv.of_ro, _, rfl⟩
          · simp at hd
        · simp at hd
      · simp at hd
    · simp at hd
  · simp at hd
theorem load_ok {S : St} (h : SR B w inj S.σ S.cnt) {t : TypeId} {x : T} {u : Value} {d : Dl} (hx : Rep (sctx B w inj S.σ S.cnt) x u) (hd : evLoad P S t x = some d) :
    ∃ v, (Instr.loadAt t u).run P w = .ok v w ∧ Stp B w inj S.σ S.cnt d v w := by
  obtain ⟨v, A, rfl, hv, hrv, rd, he⟩ := load_rep h hx hd
  rw [he]
  exact ⟨v, by simp [Instr.loadAt, Instr.sureAddr, hv], Stp.pure h hrv _⟩
end

section
variable {P : Program} {B : Base} {w : World} {inj : Loc → Nat} {σ : Loc → Option O} {cnt : Nat → Nat}
/-- fieldAddr -/
theorem fieldAddr_ok {t : TypeId} {i : Nat} {x y : T} {u : Value} (hx : Rep (sctx B w inj σ cnt) x u) (hd : evFieldAddr P t i x = some y) :
    ∃ v, (Instr.fieldAt t u i).run P w = .ok v w ∧ Rep (sctx B w inj σ cnt) y v := by
  unfold evFieldAddr at hd
  split at hd
  · rename_i o n ft hf
    split at hd
    · injection hd with hd; subst hd
      cases hx
      rename_i hp
      obtain ⟨h1, b, rfl, hb⟩ := hp
      exact ⟨_, run_field_at hf _ rfl w, .ptr ⟨h1, b, rfl, hb⟩⟩
    · injection hd with hd; subst hd
      obtain ⟨us, ad, rfl, hl, hr, h1, hsp, hok, hm⟩ := hx.ep_parts
      have hra := RepA.drop (C := (sctx B w inj σ cnt).ro) ⟨hl, hr⟩ o
      refine ⟨_, run_field_at hf _ hsp w, .ep (us := us.drop o) hra.1 hra.2 (fun u hu => h1 u (List.mem_of_mem_drop hu)) rfl hok (fun k cv hk => ?_)⟩
      rw [List.getElem?_drop] at hk
      have := hm _ _ hk
      rw [← Nat.add_assoc] at this
      exact this
    · injection hd with hd; subst hd
      cases hx
      rename_i hp
      obtain ⟨h1, b, rfl, hb⟩ := hp
      exact ⟨_, run_field_at hf _ rfl w, .eptr ⟨h1, b, by simp only [Nat.add_assoc], hb⟩⟩
    · simp at hd
  · simp at hd
/-- field -/
theorem field_ok {C : Ctx} {t : TypeId} {i : Nat} {x y : T} {u : Value} (hx : Rep C x u) (hd : evField P t i x = some y) (w : World) :
    ∃ v, (Instr.field t u i).run P w = .ok v w ∧ Rep C y v := by
  unfold evField at hd
  split at hd
  · rename_i o n ft hf
    split at hd
    · rename_i cs
      obtain ⟨vs, rfl, hl, h, h1⟩ := hx.agg_parts
      obtain ⟨fs, f, hu, hfi, rfl, rfl, hs, hn⟩ := fieldOf_parts hf
      obtain ⟨v, hv, hr⟩ := run_part (P := P) f.offset ⟨hl, h⟩ h1 w hd
      exact ⟨v, by simp [Instr.field, run_und hu, hfi, asAgg, hv], hr⟩
    · simp at hd
  · simp at hd
theorem run_asInt (k : IntKind) (n : Int) (w : World) : (asIntOf (.int k n)).run P w = .ok (k, n) w := rfl
theorem rep_s {C : Ctx} {v u : Value} (h : Rep C (.s v) u) : u = v := by cases h; rfl
theorem elem_und {t e : TypeId} (h : elemOf P t = some e) : P.underlying t = some (.slice e) := by
  unfold elemOf at h
  split at h
  · injection h with h; subst h; assumption
  · simp at h
/-- indexAddr -/
theorem indexAddr_ok {S : St} (h : SR B w inj S.σ S.cnt) {t : TypeId} {x i : T} {d : Dl} {u ui : Value} (hx : Rep (sctx B w inj S.σ S.cnt) x u) (hi : Rep (sctx B w inj S.σ S.cnt) i ui) (hd : evIndexAddr P S t x i = some d) :
    ∃ v, (Instr.indexAt t u ui).run P w = .ok v w ∧ Stp B w inj S.σ S.cnt d v w := by
  unfold evIndexAddr at hd
  split at hd
  · rename_i e k n he
    obtain rfl := rep_s hi
    have hu := elem_und he
    split at hd
    · rename_i sz hs
      split at hd
      · rename_i sz' xs
        split at hd
        · rename_i hsz
          split at hd
          · rename_i hn
            split at hd
            · rename_i z hz
              split at hd
              · rename_i hk
                unfold pv at hd
                injection hd with hd; subst hd
                obtain ⟨A, c, rfl, hlc, hm⟩ := hx.sl_row
                have hne : xs ≠ [] := by rintro rfl; simp at hz
                have hszz : sz' = sz := by
                  simp only [szok, Bool.or_eq_true, decide_eq_true_eq] at hsz
                  rcases hsz with h | h
                  · exact h
                  · exact absurd (List.isEmpty_iff.1 h) hne
                subst hszz
                rcases hm with hm | ⟨ad, rfl, hsp, hok, hrow⟩
                · exact absurd hm hne
                obtain ⟨uz, hru, hus, huc⟩ := hrow.get hz
                obtain ⟨hra, h1⟩ := hru.cells (Ctx.ro_good _) hk
                refine ⟨.pointer (some ⟨ad.block, ad.off + n.toNat * sz', none⟩), ?_, Stp.pure h (x := .ep z.cells) ?_ []⟩
                · have h2 : (0 ≤ n ∧ n < (xs.length : Int)) := hn
                  simp [Instr.indexAt, run_asInt, run_und hu, run_sz hs, h2, add_at hsp]
                · refine .ep (us := uz.cells.toList) hra.1 hra.2 h1 rfl hok (fun k' cv hk' => ?_)
                  rw [Array.getElem?_toList] at hk'
                  have := huc _ _ hk'
                  simpa [Nat.add_assoc] using this
              · simp at hd
            · simp at hd
          · simp at hd
        · simp at hd
      · rename_i l
        split at hd
        · rename_i e2 sz2 xs hl2
          split at hd
          · rename_i hn
            injection hd with hd; subst hd
            cases hx
            rename_i hp
            obtain ⟨h1, b, m, c, rfl, hnc, hb⟩ := hp
            obtain rfl := (hb _ _ _ hl2).1
            refine ⟨.pointer (some ⟨b, n.toNat * sz, none⟩), ?_, Stp.pure h (x := .eptr l sz n.toNat 0) (.eptr ⟨h1, b, by simp, fun e' sz'' xs' hl => ?_⟩) _⟩
            · simp [Instr.indexAt, run_asInt, run_und hu, run_sz hs, hn, add_at]
            · exact (hb _ _ _ hl).2.1
          · simp at hd
        · simp at hd
      · simp at hd
    · simp at hd
  · simp at hd
end
end Go.Proofs.YtfknpnkdedckhaaGreatDoorT

/- The interpreter over trees: what only computes. -/
namespace Go.Proofs.YtfknpnkdedckhaaGreatDoorT
open Go Go.RowKit
set_option linter.unusedVariables false

section
variable {P : Program} {C : Ctx}
theorem rep_b (b : Bool) : Rep C (tb b) (.bool b) := .s rfl
theorem rep_i (k : IntKind) (n : Int) : Rep C (.s (.int k n)) (.int k n) := .s rfl
theorem rep_str (b : ByteArray) : Rep C (.s (.string b)) (.string b) := .s rfl

/-- index -/
theorem index_ok {t : TypeId} {x i y : T} {u ui : Value} (hx : Rep C x u) (hi : Rep C i ui) (hd : evIndex P t x i = some y) (w : World) :
    ∃ v, (Instr.index t u ui).run P w = .ok v w ∧ Rep C y v := by
  unfold evIndex at hd
  split at hd
  · rename_i b k n
    obtain rfl := rep_s hx
    obtain rfl := rep_s hi
    split at hd
    · rename_i hu
      split at hd
      · rename_i hn
        injection hd with hd; subst hd
        have hlt : n.toNat < b.size := by omega
        refine ⟨_, ?_, rep_i _ _⟩
        have h0 : 0 ≤ n := hn.1
        have hb : b[n.toNat]? = some b[n.toNat] := by simp [hlt]
        simp only [Instr.index, Sem.run_bind, run_asInt, Result.andThen_ok, run_und hu, h0, if_true, hb, Sem.run_pure]
        congr 2
        have hd2 : n.toNat < b.data.size := hlt
        simp only [byteAt, List.getD_eq_getElem?_getD, Array.getElem?_toList]
        rw [Array.getElem?_eq_getElem hd2]
        rfl
      · simp at hd
    · simp at hd
  · rename_i cs k n
    obtain rfl := rep_s hi
    obtain ⟨vs, rfl, hl, h, h1⟩ := hx.agg_parts
    split at hd
    · rename_i len e hu
      split at hd
      · rename_i sz hs
        split at hd
        · rename_i hn
          obtain ⟨v, hv, hr⟩ := run_part (P := P) (n.toNat * sz) ⟨hl, h⟩ h1 w hd
          exact ⟨v, by simp [Instr.index, run_asInt, run_und hu, hn, run_sz hs, hv], hr⟩
        · simp at hd
      · simp at hd
    · simp at hd
  · simp at hd

theorem cmpI_ok {op : BinOp} {k : IntKind} {a b : Int} {y : T} (hd : cmpI op k a b = some y) (t : TypeId) (w : World) :
    ∃ v, (binOp op t (.int k a) (.int k b)).run P w = .ok v w ∧ Rep C y v := by
  cases op
  case add => simp only [cmpI, Option.some.injEq] at hd; subst hd; exact ⟨_, by simp [binOp, Op.intArith], .s rfl⟩
  case sub => simp only [cmpI, Option.some.injEq] at hd; subst hd; exact ⟨_, by simp [binOp, Op.intArith], .s rfl⟩
  case mul => simp only [cmpI, Option.some.injEq] at hd; subst hd; exact ⟨_, by simp [binOp, Op.intArith], .s rfl⟩
  case quo =>
    simp only [cmpI] at hd
    split at hd
    · simp at hd
    · rename_i h0
      simp only [Option.some.injEq] at hd; subst hd; exact ⟨_, by simp [binOp, Op.intDiv, h0], .s rfl⟩
  case rem =>
    simp only [cmpI] at hd
    split at hd
    · simp at hd
    · rename_i h0
      simp only [Option.some.injEq] at hd; subst hd; exact ⟨_, by simp [binOp, Op.intDiv, h0], .s rfl⟩
  case eql => simp only [cmpI, Option.some.injEq] at hd; subst hd; refine ⟨_, ?_, rep_b _⟩; simp [binOp, Op.intCmp]; rfl
  case neq => simp only [cmpI, Option.some.injEq] at hd; subst hd; refine ⟨_, ?_, rep_b _⟩; simp [binOp, Op.intCmp, bne]; rfl
  case lss => simp only [cmpI, Option.some.injEq] at hd; subst hd; exact ⟨_, by simp [binOp, Op.intCmp], rep_b _⟩
  case leq => simp only [cmpI, Option.some.injEq] at hd; subst hd; exact ⟨_, by simp [binOp, Op.intCmp], rep_b _⟩
  case gtr => simp only [cmpI, Option.some.injEq] at hd; subst hd; exact ⟨_, by simp [binOp, Op.intCmp], rep_b _⟩
  case geq => simp only [cmpI, Option.some.injEq] at hd; subst hd; exact ⟨_, by simp [binOp, Op.intCmp], rep_b _⟩
  all_goals simp [cmpI] at hd
theorem toList_eq (a b : ByteArray) : (a.toList == b.toList) = decide (a = b) := by
  have e : ∀ x y : ByteArray, x.toList = y.toList → x = y := by
    intro x y h
    rw [ByteArray.toList_eq, ByteArray.toList_eq] at h
    cases x; cases y
    simp only [ByteArray.mk.injEq]
    exact Array.toList_inj.1 h
  rw [Bool.eq_iff_iff]
  simp only [beq_iff_eq, decide_eq_true_eq]
  exact ⟨e a b, fun h => by rw [h]⟩
theorem cmpS_ok {op : BinOp} {a b : ByteArray} {y : T} (hd : cmpS op a b = some y) (t : TypeId) (w : World) :
    ∃ v, (binOp op t (.string a) (.string b)).run P w = .ok v w ∧ Rep C y v := by
  cases op
  case add =>
    simp only [cmpS] at hd
    split at hd
    · rename_i h0
      simp only [Option.some.injEq] at hd; subst hd
      refine ⟨_, ?_, .s rfl⟩
      have h1 : ¬ (((a.size + b.size : Nat) : Int) > IntKind.i64.max) := by rw [IntKind.max_i64]; omega
      simp only [binOp, Op.stringOp]
      rw [if_neg h1]
      rfl
    · simp at hd
  all_goals first
    | (simp [cmpS] at hd; done)
    | (simp only [cmpS, Option.some.injEq] at hd; subst hd; refine ⟨_, ?_, rep_b _⟩; simp only [binOp, Op.stringOp, toList_eq, Sem.run_pure])
theorem un_ok {op : UnOp} {x y : T} {u : Value} (hx : Rep C x u) (hd : evUn op x = some y) (w : World) : ∃ v, (Op.unary op u).run P w = .ok v w ∧ Rep C y v := by
  unfold evUn at hd
  split at hd
  · obtain rfl := rep_s hx
    cases op <;> simp at hd
    subst hd
    exact ⟨_, by simp [Op.unary, Op.intArith], .s rfl⟩
  · obtain rfl := rep_s hx
    cases op <;> simp at hd
    subst hd
    exact ⟨_, by simp [Op.unary], rep_b _⟩
  · simp at hd
theorem conv_ok {s t : TypeId} {x y : T} {u : Value} (hx : Rep C x u) (hd : evConv P s t x = some y) (w : World) : ∃ v, (convert s t u).run P w = .ok v w ∧ Rep C y v := by
  unfold evConv at hd
  split at hd
  · rename_i d k k' n h1 h2
    obtain rfl := rep_s hx
    injection hd with hd; subst hd
    refine ⟨.int k (k.wrap n), ?_, .s rfl⟩
    simp only [convert, Sem.run_bind, run_und h1, run_und h2, Result.andThen_ok]
    rfl
  · rename_i d b h1 h2
    obtain rfl := rep_s hx
    injection hd with hd; subst hd
    refine ⟨.string b, ?_, .s rfl⟩
    simp only [convert, Sem.run_bind, run_und h1, run_und h2, Result.andThen_ok]
    rfl
  · rename_i d k n h1 h2
    obtain rfl := rep_s hx
    injection hd with hd; subst hd
    refine ⟨.string (Utf8.encode n), ?_, .s rfl⟩
    simp only [convert, Sem.run_bind, run_und h1, run_und h2, Result.andThen_ok]
    rfl
  · simp at hd
/-- Bounds. -/
theorem bound_some {x : T} {u : Value} {d m n : Nat} (h : bound (some x) d m = some n) (hr : Rep C x u) (w : World) (c : BoundsCode) : (Instr.sliceBound u m c).run P w = .ok n w ∧ n ≤ m := by
  unfold bound at h
  split at h
  · rename_i e; simp at e
  · rename_i k z e
    injection e with e; subst e
    split at h
    · rename_i hz
      injection h with h; subst h
      obtain rfl := rep_s hr
      exact ⟨by simp [Instr.sliceBound, run_asInt, hz], by omega⟩
    · simp at h
  · simp at h
/-- What an operand that may lack is. -/
def RepOpt (C : Ctx) (x : Option T) (u : Option Value) : Prop := match x, u with
  | none, none => True
  | some x, some u => Rep C x u
  | _, _ => False
theorem bounds_ok {lo hi : Option T} {ul uh : Option Value} {len cap h l : Nat} (isS : Bool) (hl : RepOpt C lo ul) (hh : RepOpt C hi uh) (e1 : bound hi len len = some h) (e2 : bound lo 0 h = some l) (hlc : len ≤ cap) (w : World) :
    (Instr.sliceBounds isS len cap ul uh none).run P w = .ok (l, h, cap) w ∧ l ≤ h ∧ h ≤ len := by
  have H : (uh = none ∧ h = len) ∨ ∃ v, uh = some v ∧ (∀ c : BoundsCode, (Instr.sliceBound v cap c).run P w = .ok h w) ∧ h ≤ len := by
    cases hi with
    | none =>
      cases uh with
      | none => simp [bound] at e1; exact .inl ⟨rfl, e1.symm⟩
      | some v => exact hh.elim
    | some x =>
      cases uh with
      | none => exact hh.elim
      | some v =>
        have e3 : bound (some x) len cap = some h := by
          unfold bound at e1 ⊢
          split at e1
          · rename_i e; simp at e
          · rename_i k z e
            injection e with e; subst e
            split at e1
            · rename_i hz
              injection e1 with e1; subst e1
              have : 0 ≤ z ∧ z ≤ (cap : Int) := by omega
              simp [this]
            · simp at e1
          · simp at e1
        exact .inr ⟨v, rfl, fun c => (bound_some (P := P) e3 hh w c).1, (bound_some (P := P) e1 hh w .index).2⟩
  have L : (ul = none ∧ l = 0) ∨ ∃ v, ul = some v ∧ (∀ c : BoundsCode, (Instr.sliceBound v h c).run P w = .ok l w) ∧ l ≤ h := by
    cases lo with
    | none =>
      cases ul with
      | none => simp [bound] at e2; exact .inl ⟨rfl, e2.symm⟩
      | some v => exact hl.elim
    | some x =>
      cases ul with
      | none => exact hl.elim
      | some v => exact .inr ⟨v, rfl, fun c => (bound_some (P := P) e2 hl w c).1, (bound_some (P := P) e2 hl w .index).2⟩
  rcases H with ⟨rfl, rfl⟩ | ⟨v, rfl, hv, hle⟩ <;> rcases L with ⟨rfl, rfl⟩ | ⟨u, rfl, hu, hle'⟩
  · exact ⟨by simp [Instr.sliceBounds], Nat.zero_le _, Nat.le_refl _⟩
  · exact ⟨by simp [Instr.sliceBounds, hu], hle', Nat.le_refl _⟩
  · exact ⟨by simp [Instr.sliceBounds, hv], Nat.zero_le _, hle⟩
  · exact ⟨by simp [Instr.sliceBounds, hv, hu], hle', hle⟩
end
section
variable {P : Program} {B : Base} {w : World} {inj : Loc → Nat} {σ : Loc → Option O} {cnt : Nat → Nat}
theorem bound_le {o : Option T} {d m n : Nat} (h : bound o d m = some n) (hd : d ≤ m) : n ≤ m := by
  unfold bound at h
  split at h
  · injection h with h; omega
  · split at h
    · injection h with h; omega
    · simp at h
  · simp at h
/-- A row of one's own under a new key. -/
def Rekeyed (B : Base) (w : World) (inj : Loc → Nat) (σ : Loc → Option O) (cnt : Nat → Nat) : Prop := ∀ (l : Loc) (e : TypeId) (sz : Nat) (xs : List T) (k : Nat) (b n c : Nat), σ l = some (.arr e sz xs) → k ≤ xs.length → n = xs.length → b = inj l → n ≤ c → (∃ cells, w.heap[inj l]? = some (.cells cells e (0, 0)) ∧ cells.size = c * sz) →
    Stp B w inj σ cnt ⟨.own (l.1, cnt l.1), [(l, none), ((l.1, cnt l.1), some (.arr e sz (xs.take k)))], [l.1], [l]⟩ (.slice (some ⟨b, 0, none⟩) k c) w
theorem slice_ok {S : St} (h : SR B w inj S.σ S.cnt) (hrk : Rekeyed B w inj S.σ S.cnt) {site : Nat} {t : TypeId} {x : T} {d : Dl} {u : Value} {lo hi : Option T} {ul uh : Option Value} (hx : Rep (sctx B w inj S.σ S.cnt) x u) (hl : RepOpt (sctx B w inj S.σ S.cnt) lo ul) (hh : RepOpt (sctx B w inj S.σ S.cnt) hi uh)
    (hd : evSlice P S site t x lo hi = some d) : ∃ v, (Instr.sliceAt t u ul uh none).run P w = .ok v w ∧ Stp B w inj S.σ S.cnt d v w := by
  unfold evSlice at hd
  split at hd
  · rename_i b hu
    obtain rfl := rep_s hx
    split at hd
    · rename_i h' e1
      split at hd
      · rename_i l e2
        unfold pv at hd
        injection hd with hd; subst hd
        obtain ⟨hb, _, _⟩ := bounds_ok (P := P) (C := sctx B w inj S.σ S.cnt) false hl hh e1 e2 (Nat.le_refl _) w
        refine ⟨.string (b.extract l h'), ?_, Stp.pure h (x := .s (.string (b.extract l h'))) (.s rfl) _⟩
        simp [Instr.sliceAt, Instr.slice, run_und hu, hb]
      · simp at hd
    · simp at hd
  · rename_i sz xs e hu
    split at hd
    · rename_i n hs
      split at hd
      · rename_i hsz
        split at hd
        · rename_i h' e1
          split at hd
          · rename_i l e2
            unfold pv at hd
            injection hd with hd; subst hd
            obtain ⟨A, c, rfl, hlc, hm⟩ := hx.sl_row
            obtain ⟨hb, hlh, hhn⟩ := bounds_ok (P := P) (C := sctx B w inj S.σ S.cnt) true hl hh e1 e2 hlc w
            have hlen : ((xs.take h').drop l).length = h' - l := by rw [List.length_drop, List.length_take]; omega
            refine ⟨.slice (if c = l then A else A.map (·.add (l * n))) (h' - l) (c - l), by simp [Instr.sliceAt, Instr.slice, run_und hu, hb, run_sz hs], Stp.pure h (x := .sl sz ((xs.take h').drop l)) ?_ _⟩
            rw [← hlen]
            refine Rep.sl_mk (by rw [hlen]; omega) ?_
            by_cases he : h' = l
            · left
              apply List.eq_nil_of_length_eq_zero
              rw [hlen]; omega
            · have hne : xs ≠ [] := by rintro rfl; simp at hhn; omega
              rcases hm with hm | ⟨ad, rfl, hsp, hok, hrow⟩
              · exact absurd hm hne
              · right
                have hszn : sz = n := by
                  simp only [szok, Bool.or_eq_true, decide_eq_true_eq] at hsz
                  rcases hsz with h | h
                  · exact h
                  · exact absurd (List.isEmpty_iff.1 h) hne
                subst hszn
                have hcl : c ≠ l := by omega
                refine ⟨⟨ad.block, ad.off + l * sz, none⟩, by simp [hcl, add_at hsp], rfl, hok, ?_⟩
                refine ((hrow.take h').drop l).mono (Ctx.le.refl _) (fun i v hv => ?_)
                simp only [Nat.add_assoc] at hv ⊢
                exact hv
          · simp at hd
        · simp at hd
      · simp at hd
    · simp at hd
  · rename_i l e hu
    split at hd
    · rename_i z e' sz' xs' hs hl'
      split at hd
      · rename_i h' e1
        split at hd
        · rename_i k e2
          split at hd
          · rename_i hk
            subst hk
            injection hd with hd; subst hd
            cases hx
            rename_i hp
            obtain ⟨h1, b, n, c, rfl, hnc, hb⟩ := hp
            obtain ⟨g1, g2, g3⟩ := hb e' sz' xs' hl'
            rw [← g1] at e1
            obtain ⟨hbd, _, hhn⟩ := bounds_ok (P := P) (C := sctx B w inj S.σ S.cnt) true hl hh e1 e2 hnc w
            refine ⟨.slice (some ⟨b, 0, none⟩) h' c, ?_, hrk l e' sz' xs' h' b n c hl' (by omega) g1 g2 hnc g3⟩
            simp [Instr.sliceAt, Instr.slice, run_und hu, hbd, run_sz hs, Addr.add]
          · simp at hd
        · simp at hd
      · simp at hd
    · simp at hd
  · rename_i e hu
    split at hd
    · rename_i z hs
      split at hd
      · rename_i h' e1
        split at hd
        · rename_i k e2
          unfold pv at hd
          injection hd with hd; subst hd
          obtain rfl := rep_s hx
          obtain ⟨hbd, hkh, hhn⟩ := bounds_ok (P := P) (C := sctx B w inj S.σ S.cnt) true hl hh e1 e2 (Nat.le_refl _) w
          refine ⟨.slice none 0 0, ?_, Stp.pure h (x := .s (.slice none 0 0)) (.s rfl) _⟩
          have h0 : h' = 0 := by omega
          have k0 : k = 0 := by omega
          subst h0; subst k0
          simp [Instr.sliceAt, Instr.slice, run_und hu, hbd, run_sz hs]
        · simp at hd
      · simp at hd
    · simp at hd
  · simp at hd
end
section
variable {P : Program} {C : Ctx}
theorem run_zero {t : TypeId} {cs : List T} (h : zeroOf P t = some cs) (w : World) : ∃ z : Value, (zeroValue t).run P w = .ok z w ∧ cs = z.cells.toList.map ofV ∧ (∀ u ∈ z.cells.toList, plainI u = true) ∧ szOf P t = some z.cells.size ∧
    ∃ d, P.underlying t = some d ∧ ((∃ zs, z = .agg zs) ↔ aggOf P t = some true) ∧ (∀ zs, z ≠ .tuple zs) := by
  unfold zeroOf at h
  split at h
  · rename_i i hi
    split at h
    · rename_i z hz
      split at h
      · rename_i hc
        injection h with h; subst h
        simp only [Bool.and_eq_true, decide_eq_true_eq, List.all_eq_true] at hc
        obtain ⟨⟨h1, h2⟩, h3⟩ := hc
        refine ⟨z, by simp [zeroValue, run_info hi, hz], rfl, h1, by simp [szOf, hi, h2], ?_⟩
        unfold aggOf
        cases hu : P.underlying t with
        | none => rw [hu] at h3; simp [zeroFits] at h3
        | some d =>
          rw [hu] at h3
          refine ⟨d, rfl, ?_, ?_⟩
          · cases d <;> cases z <;> simp_all [zeroFits]
          · rintro zs rfl
            cases d <;> simp_all [zeroFits]
      · simp at h
    · simp at h
  · simp at h
theorem rep_plains {us : List Value} (h : ∀ u ∈ us, plainI u = true) : RepA C (us.map ofV) us := by
  refine ⟨by simp, fun j x u hx hu => ?_⟩
  rw [List.getElem?_map, hu] at hx
  simp at hx; subst hx
  exact rep_ofV (h u (List.mem_of_getElem? hu))
theorem plain_one {u : Value} (h : plainI u = true) : one u := by cases u <;> simp [plainI, plainV] at h <;> rfl
/-- The zero value of a type, as a tree. -/
theorem zero_rep {t : TypeId} {cs : List T} {x : T} (h : zeroOf P t = some cs) (hx : ofCells P t cs = some x) (w : World) : ∃ z, (zeroValue t).run P w = .ok z w ∧ Rep C x z := by
  obtain ⟨z, h1, rfl, h3, h4, d, hd, hag, htu⟩ := run_zero h w
  refine ⟨z, h1, ?_⟩
  unfold ofCells at hx
  split at hx
  · rename_i n ha hs
    obtain ⟨zs, rfl⟩ := hag.2 ha
    split at hx
    · rename_i hn
      injection hx with hx; subst hx
      rw [h4] at hs
      injection hs with hs
      have e : (List.map ofV (Value.agg zs).cells.toList).take n = List.map ofV zs.toList := by
        rw [← hs]
        apply List.take_of_length_le
        simp [Value.cells]
      rw [e]
      have hr := rep_plains (C := C) h3
      have hh : Value.agg zs = Value.agg zs.toList.toArray := by simp
      rw [hh]
      exact .agg hr.1 hr.2 (fun u hu => plain_one (h3 u hu))
    · simp at hx
  · rename_i n ha hs
    split at hx
    · have hne : ∀ zs, z ≠ .agg zs := fun zs e => by have := hag.1 ⟨zs, e⟩; rw [ha] at this; simp at this
      have e : z.cells = #[z] := by cases z <;> first | rfl | exact absurd rfl (hne _)
      rw [e] at hx h3
      simp at hx h3
      subst hx
      exact rep_ofV h3
    · simp at hx
  · simp at hx
theorem run_assert {t : TypeId} {d : TypeDesc} (hu : P.underlying t = some d) (hni : ∀ ms, d ≠ .interface ms) (xt : TypeId) (w : World) (tt : TypeId) (v : Value) :
    (∀ ok, tt = t → (Instr.typeAssert (.iface tt v) xt t ok).run P w = .ok (if ok then .tuple #[v, .bool true] else v) w) ∧
    (∀ z, (zeroValue t).run P w = .ok z w → (tt ≠ t → (Instr.typeAssert (.iface tt v) xt t true).run P w = .ok (.tuple #[z, .bool false]) w) ∧ (Instr.typeAssert .nilIface xt t true).run P w = .ok (.tuple #[z, .bool false]) w) := by
  refine ⟨fun ok e => ?_, fun z hz => ⟨fun e => ?_, ?_⟩⟩
  · cases d with
    | interface ms => exact absurd rfl (hni ms)
    | _ => simp [Instr.typeAssert, run_und hu, e]
  · cases d with
    | interface ms => exact absurd rfl (hni ms)
    | _ => simp [Instr.typeAssert, run_und hu, e, hz]
  · cases d with
    | interface ms => exact absurd rfl (hni ms)
    | _ => simp [Instr.typeAssert, run_und hu, hz]
/-- typeAssert -/
theorem assert_ok {xt t : TypeId} {ok : Bool} {x y : T} {u : Value} (hx : Rep C x u) (hd : evAssert P xt t ok x = some y) (w : World) : ∃ v, (Instr.typeAssert u xt t ok).run P w = .ok v w ∧ Rep C y v := by
  have tw : ∀ {z : T} {v : Value} (b : Bool), Rep C z v → Rep C (.tup [z, tb b]) (.tuple #[v, .bool b]) := by
    intro z v b hz
    have := (RepA.one (rep_b (C := C) b)).cons hz
    exact .tup (vs := [v, .bool b]) this.1 this.2
  unfold evAssert at hd
  split at hd
  · rename_i hif
    obtain ⟨hif, hat⟩ := hif
    obtain ⟨d, hu, hni⟩ : ∃ d, P.underlying t = some d ∧ ∀ ms, d ≠ .interface ms := by
      unfold ifaceT at hif
      cases hu : P.underlying t with
      | none => rw [hu] at hif; simp at hif
      | some d =>
        refine ⟨d, rfl, ?_⟩
        rintro ms rfl
        rw [hu] at hif
        simp at hif
    have hz : ∀ z, zeroT P t = some z → ∃ z1, (zeroValue t).run P w = .ok z1 w ∧ Rep C z z1 := by
      intro z hz
      unfold zeroT at hz
      split at hz
      · rename_i cs hz0
        exact zero_rep hz0 hz w
      · simp at hz
    split at hd
    · rename_i tt z
      cases hx
      case ifn =>
        rw [if_neg (Ne.symm hat)] at hd
        split at hd
        · rename_i hok
          subst hok
          split at hd
          · rename_i zz hzz
            injection hd with hd; subst hd
            obtain ⟨z1, hz1, hr1⟩ := hz _ hzz
            exact ⟨_, ((run_assert hu hni xt w t z1).2 z1 hz1).2, tw false hr1⟩
          · simp at hd
        · simp at hd
      rename_i uz h0t hru
      have hra := run_assert hu hni xt w tt uz
      split at hd
      · rename_i htt
        injection hd with hd; subst hd
        refine ⟨_, hra.1 ok htt, ?_⟩
        cases ok with
        | true => exact tw true hru.of_ro
        | false => exact hru.of_ro
      · rename_i htt
        split at hd
        · rename_i hok
          subst hok
          split at hd
          · rename_i zz hzz
            injection hd with hd; subst hd
            obtain ⟨z1, hz1, hr1⟩ := hz _ hzz
            exact ⟨_, (hra.2 z1 hz1).1 htt, tw false hr1⟩
          · simp at hd
        · simp at hd
    · simp at hd
  · simp at hd
end
end Go.Proofs.YtfknpnkdedckhaaGreatDoorT

/- The interpreter over trees: operators of two. -/
namespace Go.Proofs.YtfknpnkdedckhaaGreatDoorT
open Go Go.RowKit
set_option linter.unusedVariables false

section
variable {P : Program} {C : Ctx}
theorem repA_one {C : Ctx} {x : T} {us : List Value} (h : RepA C [x] us) : ∃ u, us = [u] ∧ Rep C x u := by
  have hl := h.1
  match us, hl with
  | [u], _ => exact ⟨u, rfl, h.head⟩
/-- What '==' on a type asks: cells of a struct, or the one cell. -/
def EqRuns (P : Program) (D : Nat) (t : TypeId) (us vs : List Value) (b : Bool) (w : World) : Prop :=
  (aggOf P t = some true ∧ (Op.equalIn D t (.agg us.toArray) (.agg vs.toArray)).run P w = .ok b w) ∨
  (aggOf P t = some false ∧ ∃ u v, us = [u] ∧ vs = [v] ∧ (Op.equalIn D t u v).run P w = .ok b w)
theorem eqT_ok : ∀ (d : Nat) (t : TypeId) (xs ys : List T) (b : Bool) (us vs : List Value), eqT P d t xs ys = some b → RepA C xs us → RepA C ys vs → ∀ D, d ≤ D → ∀ w, EqRuns P D t us vs b w
  | 0, _, _, _, _, _, _, h, _, _, _, _, _ => by simp [eqT] at h
  | d + 1, t, xs, ys, b, us, vs, h, hx, hy, D, hD, w => by
    obtain ⟨D, rfl⟩ : ∃ m, D = m + 1 := ⟨D - 1, by omega⟩
    simp only [eqT] at h
    split at h
    · rename_i hu
      split at h
      · obtain ⟨u, rfl, hru⟩ := repA_one hx
        obtain ⟨v, rfl, hrv⟩ := repA_one hy
        obtain rfl := rep_s hru
        obtain rfl := rep_s hrv
        injection h with h; subst h
        exact .inr ⟨by simp [aggOf, hu], _, _, rfl, rfl, run_equalIn_bool' w D t _ _ hu⟩
      · simp at h
    · rename_i k hu
      split at h
      · split at h
        · rename_i hk
          subst hk
          obtain ⟨u, rfl, hru⟩ := repA_one hx
          obtain ⟨v, rfl, hrv⟩ := repA_one hy
          obtain rfl := rep_s hru
          obtain rfl := rep_s hrv
          injection h with h; subst h
          exact .inr ⟨by simp [aggOf, hu], _, _, rfl, rfl, run_equalIn_int w D t _ k _ _ hu⟩
        · simp at h
      · simp at h
    · rename_i hu
      split at h
      · obtain ⟨u, rfl, hru⟩ := repA_one hx
        obtain ⟨v, rfl, hrv⟩ := repA_one hy
        obtain rfl := rep_s hru
        obtain rfl := rep_s hrv
        injection h with h; subst h
        exact .inr ⟨by simp [aggOf, hu], _, _, rfl, rfl, by rw [run_equalIn_string w D t _ _ hu, toList_eq]⟩
      · simp at h
    · rename_i fs hu
      split at h
      · simp at h
      · rename_i hst
        refine .inl ⟨by simp [aggOf, hu], ?_⟩
        have hfo : P.fieldsOf t = fs := by simp [Program.fieldsOf, hu]
        rw [run_equalIn_struct w D t _ _ (by rw [hfo]; exact hu) (by simpa using hst), hfo]
        generalize fs.toList = fl at h
        clear hu hfo
        induction fl generalizing b with
        | nil => simp at h; subst h; rfl
        | cons f r ih =>
          simp only [List.foldr_cons] at h
          split at h
          · rename_i n hn
            split at h
            · simp at h
            · rename_i hname
              split at h
              · rename_i a c ha hc
                injection h with h; subst h
                have hih := ih c hc
                have hq := eqT_ok d f.type _ _ a _ _ ha ((hx.drop f.offset).take n) ((hy.drop f.offset).take n) D (by omega) w
                have key : ∃ pa pb, (part f.type us.toArray f.offset).run P w = .ok pa w ∧ (part f.type vs.toArray f.offset).run P w = .ok pb w ∧ (Op.equalIn D f.type pa pb).run P w = .ok a w := by
                  rcases hq with ⟨hag, he⟩ | ⟨hag, u, v, hu', hv', he⟩
                  · have e1 : us.toArray.extract f.offset (f.offset + n) = ((us.drop f.offset).take n).toArray := by apply Array.ext'; simp [List.take_drop, Nat.add_comm]
                    have e2 : vs.toArray.extract f.offset (f.offset + n) = ((vs.drop f.offset).take n).toArray := by apply Array.ext'; simp [List.take_drop, Nat.add_comm]
                    refine ⟨_, _, ?_, ?_, he⟩
                    · simp only [part, Sem.run_bind, run_agg hag, Result.andThen_ok, if_true, run_sz hn, e1, Sem.run_pure]
                    · simp only [part, Sem.run_bind, run_agg hag, Result.andThen_ok, if_true, run_sz hn, e2, Sem.run_pure]
                  · have g : ∀ (l : List Value) (u : Value), (l.drop f.offset).take n = [u] → l[f.offset]? = some u := by
                      intro l u h
                      have h0 : ((l.drop f.offset).take n)[0]? = some u := by rw [h]; rfl
                      rw [List.getElem?_take] at h0
                      split at h0
                      · rw [List.getElem?_drop] at h0; simpa using h0
                      · simp at h0
                    refine ⟨u, v, ?_, ?_, he⟩
                    · simp only [part, Sem.run_bind, run_agg hag, Result.andThen_ok]
                      simp [g us u hu']
                    · simp only [part, Sem.run_bind, run_agg hag, Result.andThen_ok]
                      simp [g vs v hv']
                obtain ⟨pa, pb, k1, k2, k3⟩ := key
                simp only [Op.eqFields, ne_eq, hname, not_false_eq_true, if_true, Sem.run_bind, k1, k2, k3, Result.andThen_ok]
                cases a
                · simp
                · simpa using hih
              · simp at h
          · simp at h
    · simp at h

/-- The whole operation: the look at two nils ahead of '=='. -/
def binRun (P : Program) (op : BinOp) (t : TypeId) (x y : Operand) (a b : Value) (w : World) : Result Value := ((eqGuard op t x y a b).run P w).andThen fun _ w' => (binOp op t a b).run P w'
theorem guard_pass {op : BinOp} {t : TypeId} {x y : Operand} {a b : Value} (h1 : ¬ (a = .nilIface ∧ b = .nilIface)) (h2 : ¬ ((∃ xs, a = .agg xs) ∧ ∃ ys, b = .agg ys)) (w : World) : (eqGuard op t x y a b).run P w = .ok () w := by
  unfold eqGuard
  cases op <;> first
    | rfl
    | (simp only [Bool.not_true, Bool.false_eq_true, if_false]
       split <;> first
        | exact absurd ⟨rfl, rfl⟩ h1
        | exact absurd ⟨⟨_, rfl⟩, ⟨_, rfl⟩⟩ h2
        | rfl)
theorem guard_const {op : BinOp} {t : TypeId} {x y : Operand} (h : (constB x || constB y) = true) (w : World) : (eqGuard op t x y .nilIface .nilIface).run P w = .ok () w := by
  cases x <;> cases y <;> first
    | (simp [constB] at h; done)
    | (unfold eqGuard; cases op <;> rfl)
theorem eqOp_run {op : BinOp} {b : Bool} {y : T} (h : eqOp op b = some y) {t : TypeId} {u v : Value} {w : World} (hnn : ∀ k n, u ≠ .int k n) (hns : ∀ s, u ≠ .string s) (hnf : ∀ k n, u ≠ .float k n) (hnc : ∀ k a c, u ≠ .complex k a c) (he : (Op.equal t u v).run P w = .ok b w) :
    ∃ r, (binOp op t u v).run P w = .ok r w ∧ Rep C y r := by
  cases op <;> simp [eqOp] at h
  · subst h
    refine ⟨.bool b, ?_, rep_b b⟩
    cases u <;> first | exact absurd rfl (hnn _ _) | exact absurd rfl (hns _) | exact absurd rfl (hnf _ _) | exact absurd rfl (hnc _ _ _) | (simp only [binOp, Sem.run_bind, he, Result.andThen_ok, Sem.run_pure])
  · subst h
    refine ⟨.bool (!b), ?_, rep_b _⟩
    cases u <;> first | exact absurd rfl (hnn _ _) | exact absurd rfl (hns _) | exact absurd rfl (hnf _ _) | exact absurd rfl (hnc _ _ _) | (simp only [binOp, Sem.run_bind, he, Result.andThen_ok, Sem.run_pure])
end
section
variable {P : Program} {B : Base} {w : World} {inj : Loc → Nat} {σ : Loc → Option O} {cnt : Nat → Nat}
/-- The kinds of types that have a nil. -/
inductive NK where
  | p | i | f | s
def NK.of (P : Program) (t : TypeId) : NK → Prop
  | .p => ∃ e, P.underlying t = some (.pointer e)
  | .i => ∃ ms, P.underlying t = some (.interface ms)
  | .f => ∃ a b c, P.underlying t = some (.func a b c)
  | .s => ∃ e, P.underlying t = some (.slice e)
def NK.nil : NK → Value
  | .p => .pointer none
  | .i => .nilIface
  | .f => .nilFunc
  | .s => .slice none 0 0
def NK.non : NK → Value → Prop
  | .p, u => ∃ a, u = .pointer (some a)
  | .i, u => ∃ a b, u = .iface a b
  | .f, u => ∃ a b c, u = .func a b c
  | .s, u => ∃ a n c, u = .slice (some a) n c
theorem NK.uniq {t : TypeId} {k k' : NK} (h : k.of P t) (h' : k'.of P t) : k = k' := by
  cases k <;> cases k' <;> first
    | rfl
    | (exfalso; simp only [NK.of] at h h'
       first
        | (obtain ⟨_, _, _, h⟩ := h; obtain ⟨_, _, _, h'⟩ := h'; rw [h] at h'; simp at h'; done)
        | (obtain ⟨_, _, _, h⟩ := h; obtain ⟨_, h'⟩ := h'; rw [h] at h'; simp at h'; done)
        | (obtain ⟨_, h⟩ := h; obtain ⟨_, _, _, h'⟩ := h'; rw [h] at h'; simp at h'; done)
        | (obtain ⟨_, h⟩ := h; obtain ⟨_, h'⟩ := h'; rw [h] at h'; simp at h'; done))
theorem nilFits_val {C : Ctx} {t : TypeId} {x : T} {u : Value} (h : nilFits P t x = true) (hx : Rep C x u) : ∃ k : NK, k.of P t ∧ u = k.nil := by
  unfold nilFits at h
  split at h
  · rename_i e hu; exact ⟨.p, ⟨e, hu⟩, rep_s hx⟩
  · rename_i a b c hu; exact ⟨.f, ⟨a, b, c, hu⟩, rep_s hx⟩
  · rename_i e hu; exact ⟨.s, ⟨e, hu⟩, rep_s hx⟩
  · simp at h
theorem nonFits_val {t : TypeId} {x : T} {u : Value} (h : nonFits P t x = true) (hx : Rep (sctx B w inj σ cnt) x u) : ∃ k : NK, k.of P t ∧ k.non u := by
  unfold nonFits at h
  split at h
  · rename_i e l off hu; cases hx; rename_i hp; obtain ⟨_, b, rfl, _⟩ := hp; exact ⟨.p, ⟨e, hu⟩, _, rfl⟩
  · rename_i e cs hu; obtain ⟨us, ad, rfl, _⟩ := hx.ep_parts; exact ⟨.p, ⟨e, hu⟩, _, rfl⟩
  · rename_i e l sz i off hu; cases hx; rename_i hp; obtain ⟨_, b, rfl, _⟩ := hp; exact ⟨.p, ⟨e, hu⟩, _, rfl⟩
  · rename_i e l hu; cases hx; rename_i hp; obtain ⟨_, b, n, c, rfl, _⟩ := hp; exact ⟨.s, ⟨e, hu⟩, _, _, _, rfl⟩
  · rename_i a b c f fs cs hu; obtain ⟨vf, vc, rfl, _⟩ := hx.fn_parts; exact ⟨.f, ⟨a, b, c, hu⟩, _, _, _, rfl⟩
  · rename_i a b c x' y' z' hu; obtain rfl := rep_s hx; exact ⟨.f, ⟨a, b, c, hu⟩, _, _, _, rfl⟩
  · simp at h
theorem equal_nn {t : TypeId} {k : NK} (h : k.of P t) (w : World) : (Op.equal t k.nil k.nil).run P w = .ok true w := by
  show (Op.equalIn (9999 + 1) t _ _).run P w = _
  cases k <;> simp only [NK.of] at h
  · obtain ⟨e, hu⟩ := h; unfold Op.equalIn; simp [run_und hu, NK.nil]
  · obtain ⟨e, hu⟩ := h; unfold Op.equalIn; simp [run_und hu, NK.nil]
  · obtain ⟨a, b, c, hu⟩ := h; unfold Op.equalIn; simp [run_und hu, NK.nil]
  · obtain ⟨e, hu⟩ := h; unfold Op.equalIn; simp [run_und hu, NK.nil]
theorem equal_n1 {t : TypeId} {k : NK} (h : k.of P t) {u : Value} (hn : k.non u) (w : World) : (Op.equal t u k.nil).run P w = .ok false w ∧ (Op.equal t k.nil u).run P w = .ok false w := by
  show (Op.equalIn (9999 + 1) t _ _).run P w = _ ∧ (Op.equalIn (9999 + 1) t _ _).run P w = _
  cases k <;> simp only [NK.of, NK.non] at h hn
  · obtain ⟨e, hu⟩ := h; obtain ⟨a, rfl⟩ := hn; unfold Op.equalIn; simp [run_und hu, NK.nil]
  · obtain ⟨e, hu⟩ := h; obtain ⟨a, b, rfl⟩ := hn; unfold Op.equalIn; simp [run_und hu, NK.nil]
  · obtain ⟨a, b, c, hu⟩ := h; obtain ⟨a', b', c', rfl⟩ := hn; unfold Op.equalIn; simp [run_und hu, NK.nil]
  · obtain ⟨e, hu⟩ := h; obtain ⟨a, n, c, rfl⟩ := hn; unfold Op.equalIn; simp [run_und hu, NK.nil]
def numOr (u : Value) : Prop := (∀ k n, u ≠ .int k n) ∧ (∀ s, u ≠ .string s) ∧ (∀ k n, u ≠ .float k n) ∧ (∀ k a c, u ≠ .complex k a c)
theorem nil_num (k : NK) : numOr k.nil ∧ (∀ a, k.nil ≠ .agg a) := by cases k <;> simp [numOr, NK.nil]
theorem non_num {k : NK} {u : Value} (h : k.non u) : numOr u ∧ (∀ a, u ≠ .agg a) ∧ u ≠ .nilIface := by
  cases k <;> simp only [NK.non] at h
  · obtain ⟨a, rfl⟩ := h; simp [numOr]
  · obtain ⟨a, b, rfl⟩ := h; simp [numOr]
  · obtain ⟨a, b, c, rfl⟩ := h; simp [numOr]
  · obtain ⟨a, n, c, rfl⟩ := h; simp [numOr]
theorem ifc_val {C : Ctx} {a : TypeId} {x : T} {u : Value} (h : Rep C (.ifc a x) u) : (a = 0 ∧ u = .nilIface) ∨ (a ≠ 0 ∧ ∃ b v, u = .iface b v) := by
  cases h with
  | ifc h0 h => exact .inr ⟨h0, _, _, rfl⟩
  | ifn => exact .inl ⟨rfl, rfl⟩
/-- A binary operator. -/
theorem bin_ok {op : BinOp} {t : TypeId} {ox oy : Operand} {x y z : T} {u v : Value} (hx : Rep (sctx B w inj σ cnt) x u) (hy : Rep (sctx B w inj σ cnt) y v) (hd : evBin P op t ox oy x y = some z) :
    ∃ r, binRun P op t ox oy u v w = .ok r w ∧ Rep (sctx B w inj σ cnt) z r := by
  unfold evBin at hd
  unfold binRun
  split at hd
  · obtain rfl := rep_s hx
    obtain rfl := rep_s hy
    split at hd
    · rename_i hk
      subst hk
      rw [guard_pass (by simp) (by simp), Result.andThen_ok]
      exact cmpI_ok hd t w
    · simp at hd
  · obtain rfl := rep_s hx
    obtain rfl := rep_s hy
    rw [guard_pass (by simp) (by simp), Result.andThen_ok]
    exact cmpS_ok hd t w
  · obtain rfl := rep_s hx
    obtain rfl := rep_s hy
    split at hd
    · rename_i hu
      rw [guard_pass (by simp) (by simp), Result.andThen_ok]
      exact eqOp_run hd (by simp) (by simp) (by simp) (by simp) (run_equalIn_bool' w 9999 t _ _ hu)
    · simp at hd
  · obtain ⟨us, rfl, hl, h, h1⟩ := hx.agg_parts
    obtain ⟨vs, rfl, hl', h', h1'⟩ := hy.agg_parts
    split at hd
    · simp at hd
    · rename_i hg
      simp only [Bool.or_eq_true, not_or, Bool.not_eq_true, bne_eq_false_iff_eq] at hg
      obtain ⟨hg, hag0⟩ := hg
      split at hd
      · rename_i b hb
        rw [run_eqGuard_agg w op t ox oy _ _ hg, Result.andThen_ok]
        rcases eqT_ok (P := P) 20 t _ _ b us vs hb ⟨hl, h⟩ ⟨hl', h'⟩ Op.maxDepth (by decide) w with ⟨_, he⟩ | ⟨_, u', v', rfl, rfl, he⟩
        · exact eqOp_run hd (by simp) (by simp) (by simp) (by simp) he
        · rename_i hag
          rw [hag0] at hag
          simp at hag
      · simp at hd
  · rename_i ta xa tb' xb
    split at hd
    · rename_i ms hu
      have hk : NK.of P t .i := ⟨ms, hu⟩
      have one : ∀ (u : Value) (a : TypeId) (x : T), Rep (sctx B w inj σ cnt) (.ifc a x) u → (constB ox || constB oy) = true → ∃ r : Bool, r = decide (a = 0) ∧ (eqGuard op t ox oy u .nilIface).run P w = .ok () w ∧ (eqGuard op t ox oy .nilIface u).run P w = .ok () w ∧ (Op.equal t u .nilIface).run P w = .ok r w ∧ (Op.equal t .nilIface u).run P w = .ok r w ∧ numOr u := by
        intro u a x hu' hcc
        rcases ifc_val hu' with ⟨rfl, rfl⟩ | ⟨h0, b, v, rfl⟩
        · exact ⟨true, by simp, guard_const hcc w, guard_const hcc w, equal_nn hk w, equal_nn hk w, (nil_num .i).1⟩
        · have hn : NK.non .i (.iface b v) := ⟨b, v, rfl⟩
          exact ⟨false, by simp [h0], guard_pass (by simp) (by simp) w, guard_pass (by simp) (by simp) w, (equal_n1 hk hn w).1, (equal_n1 hk hn w).2, (non_num hn).1⟩
      split at hd
      · rename_i hc
        simp only [Bool.and_eq_true, decide_eq_true_eq] at hc
        obtain ⟨hc, rfl⟩ := hc
        have hv : v = .nilIface := by rcases ifc_val hy with ⟨_, h⟩ | ⟨h, _⟩; exact h; exact absurd rfl h
        subst hv
        obtain ⟨r, rfl, g1, g2, e1, e2, hno⟩ := one u ta xa hx (by simp [hc])
        rw [g1, Result.andThen_ok]
        exact eqOp_run hd hno.1 hno.2.1 hno.2.2.1 hno.2.2.2 e1
      · split at hd
        · rename_i hc
          simp only [Bool.and_eq_true, decide_eq_true_eq] at hc
          obtain ⟨hc, rfl⟩ := hc
          have hv : u = .nilIface := by rcases ifc_val hx with ⟨_, h⟩ | ⟨h, _⟩; exact h; exact absurd rfl h
          subst hv
          obtain ⟨r, rfl, g1, g2, e1, e2, hno⟩ := one v tb' xb hy (by simp [hc])
          rw [g2, Result.andThen_ok]
          exact eqOp_run hd (by simp) (by simp) (by simp) (by simp) e2
        · simp at hd
    · simp at hd
  · split at hd
    · rename_i hc
      simp only [Bool.and_eq_true] at hc
      obtain ⟨hny, hcc⟩ := hc
      obtain ⟨k, hk, rfl⟩ := nilFits_val hny hy
      split at hd
      · rename_i hnx
        obtain ⟨k', hk', rfl⟩ := nilFits_val hnx hx
        obtain rfl := NK.uniq hk hk'
        have e := nil_num k
        have hg : (eqGuard op t ox oy k.nil k.nil).run P w = .ok () w := by
          by_cases hnn : k.nil = .nilIface ∧ k.nil = .nilIface
          · rw [hnn.1]; exact guard_const hcc w
          · exact guard_pass hnn (by rintro ⟨⟨xs, e1⟩, _⟩; exact e.2 _ e1) w
        rw [hg, Result.andThen_ok]
        exact eqOp_run hd e.1.1 e.1.2.1 e.1.2.2.1 e.1.2.2.2 (equal_nn hk w)
      · split at hd
        · rename_i hnx
          obtain ⟨k', hk', hnon⟩ := nonFits_val hnx hx
          obtain rfl := NK.uniq hk hk'
          have e := non_num hnon
          rw [guard_pass (by rintro ⟨rfl, _⟩; exact e.2.2 rfl) (by rintro ⟨⟨xs, rfl⟩, _⟩; exact e.2.1 _ rfl), Result.andThen_ok]
          exact eqOp_run hd e.1.1 e.1.2.1 e.1.2.2.1 e.1.2.2.2 (equal_n1 hk hnon w).1
        · simp at hd
    · split at hd
      · rename_i hc
        simp only [Bool.and_eq_true] at hc
        obtain ⟨⟨hnx, hcc⟩, hny⟩ := hc
        obtain ⟨k, hk, rfl⟩ := nilFits_val hnx hx
        obtain ⟨k', hk', hnon⟩ := nonFits_val hny hy
        obtain rfl := NK.uniq hk hk'
        have e := nil_num k
        have e2 := non_num hnon
        rw [guard_pass (by rintro ⟨_, rfl⟩; exact e2.2.2 rfl) (by rintro ⟨⟨xs, e1⟩, _⟩; exact e.2 _ e1), Result.andThen_ok]
        exact eqOp_run hd e.1.1 e.1.2.1 e.1.2.2.1 e.1.2.2.2 (equal_n1 hk hnon w).2
      · simp at hd
end
end Go.Proofs.YtfknpnkdedckhaaGreatDoorT

/- The interpreter over trees: what makes memory, and what writes it. -/
namespace Go.Proofs.YtfknpnkdedckhaaGreatDoorT
open Go Go.RowKit
set_option linter.unusedVariables false

section
variable {P : Program} {B : Base} {w : World} {inj : Loc → Nat} {σ : Loc → Option O} {cnt : Nat → Nat}
/-! ### Frozen -/
theorem arr_parts (h : SR B w inj σ cnt) {l : Loc} {e : TypeId} {sz : Nat} {xs : List T} (hl : σ l = some (.arr e sz xs)) :
    0 < sz ∧ ∃ (cells : Array Value) (c : Nat), w.heap[inj l]? = some (.cells cells e (0, 0)) ∧ cells.size = c * sz ∧ xs.length ≤ c ∧ c ≤ maxLen ∧ RowOf (sctx B w inj σ cnt).ro sz xs (fun i => cells[i]?) := h.obj l _ hl
/-- What is read of frozen things: as before, and the blocks of the keys that were read. -/
def fctx (C : Ctx) (bs : Nat → Prop) : Ctx := { C.ro with ok := fun k => C.ok k ∨ bs k }
theorem fctx_le {C : Ctx} {bs bs' : Nat → Prop} (h : ∀ k, bs k → bs' k) : (fctx C bs).le (fctx C bs') := ⟨fun k hk => ⟨hk.imp id (h k), rfl⟩, fun _ _ h => h, fun _ _ _ h => h, fun _ _ _ _ _ h => h, fun _ _ h => h⟩
theorem ro_fctx {C : Ctx} (bs : Nat → Prop) : C.ro.le (fctx C bs) := ⟨fun k hk => ⟨.inl hk, rfl⟩, fun _ _ h => h, fun _ _ _ h => h, fun _ _ _ _ _ h => h, fun _ _ h => h⟩
def blks (inj : Loc → Nat) (r : List Loc) (k : Nat) : Prop := ∃ l ∈ r, inj l = k
/-- A row of one's own, read as a slice. -/
theorem own_sl (h : SR B w inj σ cnt) {l : Loc} {v : Value} (hv : Rep (sctx B w inj σ cnt) (.own l) v) {e : TypeId} {sz : Nat} {xs : List T} (hl : σ l = some (.arr e sz xs)) :
    ∃ c, v = .slice (some ⟨inj l, 0, none⟩) xs.length c ∧ xs.length ≤ c ∧ Rep (fctx (sctx B w inj σ cnt) (blks inj [l])) (.sl sz xs) v := by
  cases hv
  rename_i hp
  obtain ⟨h1, b, n, c, rfl, hnc, hb⟩ := hp
  obtain ⟨rfl, rfl, cells, hc1, hc2⟩ := hb _ _ _ hl
  obtain ⟨h0, cells', c', g1, g2, g3, g4, g5⟩ := arr_parts h hl
  rw [hc1] at g1
  injection g1 with g1; injection g1 with g1 _ _
  subst g1
  refine ⟨c, rfl, hnc, ?_⟩
  exact Rep.sl_mk (C := fctx (sctx B w inj σ cnt) (blks inj [l])) (sz := sz) (xs := xs) (A := some ⟨inj l, 0, none⟩) (c := c) hnc (.inr ⟨_, rfl, rfl, .inr ⟨l, List.mem_singleton.2 rfl, rfl⟩, g5.mono (ro_fctx (C := sctx B w inj σ cnt) _) (fun i u hu => by
    show w.cell? _ = _
    simp [World.cell?, hc1, hu])⟩)
theorem sl_ro {C : Ctx} {sz : Nat} {xs : List T} {v : Value} (h : Rep C (.sl sz xs) v) : Rep C.ro (.sl sz xs) v := by
  cases h with
  | sl hl hc h hs hm => exact .sl hl hc h hs hm
theorem ifc_ro {C : Ctx} {t : TypeId} {x : T} {v : Value} (h : Rep C (.ifc t x) v) : Rep C.ro (.ifc t x) v := by
  cases h with
  | ifc h0 h => exact .ifc h0 h
  | ifn => exact .ifn
theorem ep_ro {C : Ctx} {cs : List T} {v : Value} (h : Rep C (.ep cs) v) : Rep C.ro (.ep cs) v := by
  cases h with
  | ep hl h h1 hsp hok hm => exact .ep hl h h1 hsp hok hm
mutual
theorem frz_ok (h : SR B w inj σ cnt) : ∀ (t t' : T) (r : List Loc) (v : Value), frz σ t = some (t', r) → Rep (sctx B w inj σ cnt) t v → Rep (fctx (sctx B w inj σ cnt) (blks inj r)) t' v
  | .s u, t', r, v, hf, hr => by
    obtain rfl := rep_s hr
    have hp : plainV v = true := by cases hr; assumption
    unfold frz at hf
    split at hf
    · rename_i e
      injection e with e
      injection hf with hf; injection hf with h1 h2; subst h1; subst e
      exact Rep.sl_mk (Nat.le_refl _) (.inl rfl)
    · injection hf with hf; injection hf with h1 h2
      rename_i e
      injection e with e
      subst h1; subst e
      exact .s hp
    all_goals simp_all
  | .agg cs, t', r, v, hf, hr => by
    unfold frz at hf
    obtain ⟨vs, rfl, hl, hc, h1⟩ := hr.agg_parts
    split at hf
    · rename_i cs' r' he
      injection hf with hf; injection hf with e1 e2; subst e1; subst e2
      have := frzL_ok h cs cs' r' vs he ⟨hl, hc⟩
      exact .agg this.1 this.2 h1
    · simp at hf
  | .own l, t', r, v, hf, hr => by
    unfold frz at hf
    split at hf
    · rename_i e sz xs hl
      injection hf with hf; injection hf with e1 e2; subst e1; subst e2
      obtain ⟨c, rfl, hnc, hrep⟩ := own_sl h hr hl
      exact hrep
    · simp at hf
  | .sl sz xs, t', r, v, hf, hr => by
    simp [frz] at hf
    obtain ⟨rfl, rfl⟩ := hf
    exact (sl_ro hr).mono (ro_fctx _)
  | .ifc t x, t', r, v, hf, hr => by
    simp [frz] at hf
    obtain ⟨rfl, rfl⟩ := hf
    exact (ifc_ro hr).mono (ro_fctx _)
  | .ep cs, t', r, v, hf, hr => by
    simp [frz] at hf
    obtain ⟨rfl, rfl⟩ := hf
    exact (ep_ro hr).mono (ro_fctx _)
  | .tup _, t', r, v, hf, hr => by simp [frz] at hf
  | .ptr _ _, t', r, v, hf, hr => by simp [frz] at hf
  | .eptr _ _ _ _, t', r, v, hf, hr => by simp [frz] at hf
  | .fn _ _ _, t', r, v, hf, hr => by simp [frz] at hf
  | .it _, t', r, v, hf, hr => by simp [frz] at hf
  | .cown _ _ _, t', r, v, hf, hr => by simp [frz] at hf
  | .cbox _ _, t', r, v, hf, hr => by simp [frz] at hf
  | .dead, t', r, v, hf, hr => by simp [frz] at hf
theorem frzL_ok (h : SR B w inj σ cnt) : ∀ (cs cs' : List T) (r : List Loc) (us : List Value), frzL σ cs = some (cs', r) → RepA (sctx B w inj σ cnt) cs us → RepA (fctx (sctx B w inj σ cnt) (blks inj r)) cs' us
  | [], cs', r, us, hf, hr => by
    simp [frzL] at hf
    obtain ⟨rfl, rfl⟩ := hf
    have : us = [] := List.eq_nil_of_length_eq_zero hr.1.symm
    subst this
    exact RepA.nil _
  | x :: cs, cs', r, us, hf, hr => by
    unfold frzL at hf
    split at hf
    · rename_i x' a r' b he1 he2
      injection hf with hf; injection hf with e1 e2; subst e1; subst e2
      match us, hr with
      | u :: us, hr =>
        have h1 := frz_ok h x x' a u he1 hr.head
        have h2 := frzL_ok h cs r' b us he2 hr.tail
        exact (h2.mono (fctx_le (fun k ⟨l, hl, e⟩ => ⟨l, List.mem_append_right _ hl, e⟩))).cons (h1.mono (fctx_le (fun k ⟨l, hl, e⟩ => ⟨l, List.mem_append_left _ hl, e⟩)))
      | [], hr => exact absurd hr.1 (by simp)
    · simp at hf
end
theorem updL_append (σ : Loc → Option O) : ∀ (a b : List (Loc × Option O)), updL σ (a ++ b) = updL (updL σ a) b
  | [], b => rfl
  | e :: a, b => updL_append _ a b
theorem updL_kill (l : Loc) : ∀ (r : List Loc) (σ : Loc → Option O), updL σ (killL r) l = if l ∈ r then none else σ l
  | [], σ => by simp [killL, updL]
  | x :: r, σ => by
    have := updL_kill l r (fun l => if l = x then none else σ l)
    simp only [killL, List.map_cons, updL] at this ⊢
    rw [this]
    by_cases h1 : l ∈ r <;> by_cases h2 : l = x <;> simp [h1, h2]
theorem kill_some {r : List Loc} {l : Loc} {o : O} (h : updL σ (killL r) l = some o) : l ∉ r ∧ σ l = some o := by
  rw [updL_kill] at h
  split at h
  · simp at h
  · rename_i hn; exact ⟨hn, h⟩
theorem kill_le (h : SR B w inj σ cnt) (r : List Loc) : (sctx B w inj σ cnt).le (sctx B w inj (updL σ (killL r)) cnt) :=
  next_le (Fr.refl _ _) (fun _ => Nat.le_refl _) (fun l o' hl => .inl ⟨l, o', (kill_some hl).2, rfl⟩) (fun l o' _ hl => ⟨o', (kill_some hl).2, rfl, O.like_refl _, fun _ _ _ _ cells e hc => ⟨cells, hc, rfl⟩⟩)
theorem SR.kill (h : SR B w inj σ cnt) (r : List Loc) : SR B w inj (updL σ (killL r)) cnt :=
  h.next (Fr.refl _ _) (fun _ => Nat.le_refl _) (fun l o' hl => .inl ⟨l, o', (kill_some hl).2, rfl⟩) (fun l o' hl => h.lt l o' (kill_some hl).2)
    (fun l l' o o' h1 h2 he => h.uniq l l' o o' (kill_some h1).2 (kill_some h2).2 he) (fun l o' hl => h.fresh l o' (kill_some hl).2)
    (fun l o' hl => (h.obj l o' (kill_some hl).2).mono (kill_le h r) rfl)
/-- What was frozen may be read for good, once its keys are given up. -/
theorem fctx_kill (h : SR B w inj σ cnt) {r : List Loc} (hr : ∀ l ∈ r, σ l ≠ none) : (fctx (sctx B w inj σ cnt) (blks inj r)).le (sctx B w inj (updL σ (killL r)) cnt).ro := by
  refine ⟨?_, fun _ _ h => h.elim, fun _ _ _ h => h.elim, fun _ _ _ _ _ h => h.elim, fun _ _ h => h.elim⟩
  rintro k (hk | ⟨l, hl, rfl⟩)
  · exact (kill_le h r).ok k hk
  · cases ho : σ l with
    | none => exact absurd ho (hr l hl)
    | some o =>
      refine ⟨⟨?_, h.lt l o ho, ?_⟩, rfl⟩
      · rcases h.mine l o ho with h1 | h1
        · exact .inr (.inl h1)
        · exact .inr (.inr h1)
      · rintro ⟨l', o', ho', he⟩
        obtain ⟨hn, hs⟩ := kill_some ho'
        have := h.uniq l' l o' o hs ho he
        subst this
        exact hn hl
mutual
theorem frz_keys : ∀ (t t' : T) (r : List Loc), frz σ t = some (t', r) → ∀ l ∈ r, σ l ≠ none
  | .s u, t', r, hf => by
    unfold frz at hf
    split at hf <;> first | (injection hf with hf; injection hf with h1 h2; subst h2; simp; done) | simp_all
  | .agg cs, t', r, hf => by
    unfold frz at hf
    split at hf
    · rename_i cs' r' he
      injection hf with hf; injection hf with e1 e2; subst e2
      exact frzL_keys cs cs' r' he
    · simp at hf
  | .own l, t', r, hf => by
    unfold frz at hf
    split at hf
    · rename_i hl
      injection hf with hf; injection hf with e1 e2; subst e2
      intro l' hl'
      rw [List.mem_singleton.1 hl', hl]; simp
    · simp at hf
  | .sl sz xs, t', r, hf => by simp [frz] at hf; obtain ⟨rfl, rfl⟩ := hf; simp
  | .ifc t x, t', r, hf => by simp [frz] at hf; obtain ⟨rfl, rfl⟩ := hf; simp
  | .ep cs, t', r, hf => by simp [frz] at hf; obtain ⟨rfl, rfl⟩ := hf; simp
  | .tup _, t', r, hf => by simp [frz] at hf
  | .ptr _ _, t', r, hf => by simp [frz] at hf
  | .eptr _ _ _ _, t', r, hf => by simp [frz] at hf
  | .fn _ _ _, t', r, hf => by simp [frz] at hf
  | .it _, t', r, hf => by simp [frz] at hf
  | .cown _ _ _, t', r, hf => by simp [frz] at hf
  | .cbox _ _, t', r, hf => by simp [frz] at hf
  | .dead, t', r, hf => by simp [frz] at hf
theorem frzL_keys : ∀ (cs cs' : List T) (r : List Loc), frzL σ cs = some (cs', r) → ∀ l ∈ r, σ l ≠ none
  | [], cs', r, hf => by simp [frzL] at hf; obtain ⟨rfl, rfl⟩ := hf; simp
  | x :: cs, cs', r, hf => by
    unfold frzL at hf
    split at hf
    · rename_i x' a r' b he1 he2
      injection hf with hf; injection hf with e1 e2; subst e2
      intro l hl
      rcases List.mem_append.1 hl with hl | hl
      · exact frz_keys x x' a he1 l hl
      · exact frzL_keys cs r' b he2 l hl
    · simp at hf
end
theorem frzC_ok {P : Program} (h : SR B w inj σ cnt) {ty : TypeId} {t t' : T} {r : List Loc} {v : Value} (hf : frzC P ty σ t = some (t', r)) (hr : Rep (sctx B w inj σ cnt) t v) : Rep (fctx (sctx B w inj σ cnt) (blks inj r)) t' v := by
  unfold frzC at hf
  split at hf
  · rename_i y r' he
    injection hf with hf; injection hf with e1 e2; subst e1; subst e2
    exact canT_rep (frz_ok h t y r' v he hr)
  · simp at hf
theorem frzC_keys {P : Program} {ty : TypeId} {t t' : T} {r : List Loc} (hf : frzC P ty σ t = some (t', r)) : ∀ l ∈ r, σ l ≠ none := by
  unfold frzC at hf
  split at hf
  · rename_i y r' he
    injection hf with hf; injection hf with e1 e2; subst e2
    exact frz_keys t y r' he
  · simp at hf
/-- A step behind some keys' being given up. -/
theorem Stp.killed (h : SR B w inj σ cnt) {r : List Loc} {x : T} {u : List (Loc × Option O)} {b : List Nat} {rd rd' : List Loc} {v : Value} {w' : World} (hs : Stp B w inj (updL σ (killL r)) cnt ⟨x, u, b, rd⟩ v w') : Stp B w inj σ cnt ⟨x, killL r ++ u, b, rd'⟩ v w' := by
  obtain ⟨inj', h1, h2, h3⟩ := hs
  refine ⟨inj', ?_, (kill_le h r).trans ?_, ?_⟩ <;> simp only [updL_append]
  · exact h1
  · exact h2
  · exact h3
/-- A new variable. -/
theorem Stp.newbox (h : SR B w inj σ cnt) (site : Nat) (t : TypeId) {cs : List T} {us : List Value} (hr : RepA (sctx B w inj σ cnt) cs us) (h1 : ∀ u ∈ us, one u) :
    Stp B w inj σ cnt ⟨.ptr (site, cnt site) 0, [((site, cnt site), some (.box t cs))], [site], []⟩ (.pointer (some ⟨w.heap.size, 0, none⟩)) (w.alloc (.cells us.toArray t)) := by
  refine Stp.new h site (.box t cs) (.cells us.toArray t) _ _ [] (fun C le hb => ⟨us, hb, hr.mono le, h1⟩) ?_
  intro inj' σ' cnt' hi hs hc hb
  exact .ptr ⟨hc, _, rfl, fun ty' cs' _ => hi.symm⟩
/-- alloc -/
theorem alloc_ok (h : SR B w inj σ cnt) (site : Nat) {t : TypeId} {cs : List T} (hz : zeroOf P t = some cs) :
    ∃ v w', (Instr.alloc t true (.tuple #[])).run P w = .ok v w' ∧ Stp B w inj σ cnt ⟨.ptr (site, cnt site) 0, [((site, cnt site), some (.box t cs))], [site], []⟩ v w' := by
  obtain ⟨z, hz1, rfl, hp, _, _⟩ := run_zero hz w
  refine ⟨_, _, ?_, Stp.newbox h site t (rep_plains hp) (fun u hu => plain_one (hp u hu))⟩
  simp only [Instr.alloc, Sem.run_bind, hz1, Result.andThen_ok, newVar, newRow, run_newObj, Sem.run_pure, Array.toArray_toList]
  rfl
/-- box -/
theorem box_ok (h : SR B w inj σ cnt) (site : Nat) (t : TypeId) {x : T} {u : Value} (hx : Rep (sctx B w inj σ cnt) x u) (hk : x.ok1 = true) :
    ∃ v w', (Instr.box t u).run P w = .ok v w' ∧ Stp B w inj σ cnt ⟨.ptr (site, cnt site) 0, [((site, cnt site), some (.box t x.cells))], [site], []⟩ v w' := by
  obtain ⟨hra, h1⟩ := hx.cells (sctx_good _ _ _ _ _) hk
  refine ⟨_, _, ?_, Stp.newbox h site t hra h1⟩
  simp only [Instr.box, Sem.run_bind, newVar, newRow, run_newObj, Sem.run_pure, Result.andThen_ok, Array.toArray_toList]
  rfl
/-- An object that is there, turned. -/
theorem Stp.set (h : SR B w inj σ cnt) {l : Loc} {o o' : O} (hl : σ l = some o) (hk : o.like o') {w' : World} (hw : Fr (fun k => k = inj l) w w')
    (hsh : ∀ cells e, w.heap[inj l]? = some (.cells cells e (0, 0)) → ∃ cells', w'.heap[inj l]? = some (.cells cells' e (0, 0)) ∧ cells'.size = cells.size)
    (hob : ∀ C : Ctx, (sctx B w inj σ cnt).le C → C.w = w' → RepO C (inj l) o') {x : T} {v : Value} (hx : ∀ C : Ctx, (sctx B w inj σ cnt).le C → Rep C x v) (rd : List Loc) :
    Stp B w inj σ cnt ⟨x, [(l, some o')], [], rd⟩ v w' := by
  have hσ : ∀ l', updL σ [(l, some o')] l' = if l' = l then some o' else σ l' := fun _ => rfl
  have hlook : ∀ l' q, updL σ [(l, some o')] l' = some q → (l' = l ∧ q = o') ∨ (l' ≠ l ∧ σ l' = some q) := by
    intro l' q hq
    rw [hσ] at hq
    split at hq
    · rename_i e; injection hq with hq; exact .inl ⟨e, hq.symm⟩
    · rename_i e; exact .inr ⟨e, hq⟩
  have hlive : ∀ l' q, updL σ [(l, some o')] l' = some q → ∃ q', σ l' = some q' ∧ q'.like q := by
    intro l' q hq
    rcases hlook l' q hq with ⟨rfl, rfl⟩ | ⟨hne, hs⟩
    · exact ⟨o, hl, hk⟩
    · exact ⟨q, hs, O.like_refl _⟩
  have hfr : Fr (owned σ inj) w w' := hw.mono (by rintro i rfl; exact ⟨l, o, hl, rfl⟩)
  have hc : ∀ s, cnt s ≤ (if ([] : List Nat).contains s then cnt s + 1 else cnt s) := by intro s; simp
  have hnew : ∀ l' q, updL σ [(l, some o')] l' = some q → owned σ inj (inj l') ∨ w.heap.size ≤ inj l' := by
    intro l' q hq
    obtain ⟨q', hq', _⟩ := hlive l' q hq
    exact .inl ⟨l', q', hq', rfl⟩
  have le := next_le (B := B) (inj' := inj) (σ' := updL σ [(l, some o')]) hfr hc hnew (by
    intro l' q _ hq
    obtain ⟨q', hq', hlk⟩ := hlive l' q hq
    refine ⟨q', hq', rfl, hlk, fun _ _ _ _ cells e hcell => ?_⟩
    by_cases he : inj l' = inj l
    · rw [he] at hcell ⊢; exact hsh cells e hcell
    · exact ⟨cells, by rw [hw.block _ (h.lt l' q' hq') he]; exact hcell, rfl⟩)
  refine ⟨inj, h.next hfr hc hnew ?_ ?_ ?_ ?_, le, hx _ le⟩
  · intro l' q hq
    obtain ⟨q', hq', _⟩ := hlive l' q hq
    exact Nat.lt_of_lt_of_le (h.lt l' q' hq') hw.size
  · intro a b o1 o2 h1 h2 he
    obtain ⟨q1, hq1, _⟩ := hlive a o1 h1
    obtain ⟨q2, hq2, _⟩ := hlive b o2 h2
    exact h.uniq a b q1 q2 hq1 hq2 he
  · intro l' q hq
    obtain ⟨q', hq', _⟩ := hlive l' q hq
    exact Nat.lt_of_lt_of_le (h.fresh l' q' hq') (hc _)
  · intro l' q hq
    rcases hlook l' q hq with ⟨rfl, rfl⟩ | ⟨hne, hs⟩
    · exact hob _ le rfl
    · refine (h.obj l' q hs).mono le (hw.block _ (h.lt l' q hs) (fun he => hne (h.uniq l' l q o hs hl he)))
end
end Go.Proofs.YtfknpnkdedckhaaGreatDoorT

/- The interpreter over trees: stores, iterators, structs and slices that are built, append. -/
namespace Go.Proofs.YtfknpnkdedckhaaGreatDoorT
open Go Go.RowKit
set_option linter.unusedVariables false

section
variable {P : Program} {B : Base} {w : World} {inj : Loc → Nat} {σ : Loc → Option O} {cnt : Nat → Nat}
theorem Fr.setRow (w : World) (g : Nat) (cs : Array Value) : Fr (fun k => k = g) w (w.setRow g cs) :=
  ⟨rfl, rfl, rfl, by simp, fun k _ hk => setRow_other w g k cs hk⟩
theorem repA_splice {C : Ctx} {cs ns : List T} {us ms : List Value} (h : RepA C cs us) (k : RepA C ns ms) (off : Nat) : RepA C (splice cs off ns) (us.take off ++ ms ++ us.drop (off + ms.length)) := by
  unfold splice
  rw [← k.1]
  exact ((h.take off).append k).append (h.drop _)
theorem run_storeV {t : TypeId} {n : Nat} (hs : szOf P t = some n) {g off : Nat} {ty : TypeId} {cur : Array Value} (hg : w.heap[g]? = some (.cells cur ty (0, 0))) {v : Value} (hv : v.cells.size = n) (hl : off + n ≤ cur.size) (h1 : ∀ u ∈ v.cells.toList, one u) :
    (storeVar t ⟨g, off, none⟩ v).run P w = .ok () (w.setRow g (cur.toList.take off ++ v.cells.toList ++ cur.toList.drop (off + v.cells.toList.length)).toArray) := by
  have h := run_storeCells_at (P := P) g off ty v.cells.toList 0 cur w hg (by simp only [Nat.add_zero, Array.length_toList]; omega) h1
  simp only [Nat.add_zero] at h
  simp only [storeVar, Sem.run_bind, run_sz hs, Result.andThen_ok, hv, ne_eq, not_true_eq_false, if_false]
  exact h
theorem row_splice {C : Ctx} {sz : Nat} {xs : List T} {cells cells' : Array Value} {i : Nat} {x' : T} {u' : Value} (hrow : RowOf C sz xs (fun k => cells[k]?)) (hx' : Rep C x' u') (hs : u'.cells.size = sz)
    (hsame : ∀ k, (k < i * sz ∨ (i + 1) * sz ≤ k) → cells'[k]? = cells[k]?) (hnew : ∀ (k : Nat) (cv : Value), u'.cells[k]? = some cv → cells'[i * sz + k]? = some cv) : RowOf C sz (xs.set i x') (fun k => cells'[k]?) := by
  obtain ⟨us, h1, h2, h3⟩ := hrow
  refine ⟨us.set i u', h1.set i hx', fun u hu => ?_, fun j k u cv hu hc => ?_⟩
  · rcases List.mem_or_eq_of_mem_set hu with hu | rfl
    · exact h2 u hu
    · exact hs
  · rw [List.getElem?_set] at hu
    split at hu
    · rename_i e
      subst e
      split at hu
      · injection hu with hu; subst hu; exact hnew k cv hc
      · simp at hu
    · rename_i hne
      have hk : k < sz := by
        have := h2 u (List.mem_of_getElem? hu)
        have := (Array.getElem?_eq_some_iff.1 hc).1
        omega
      show cells'[j * sz + k]? = some cv
      rw [show cells'[j * sz + k]? = cells[j * sz + k]? from hsame _ (by
        rcases Nat.lt_or_gt_of_ne hne with hlt | hgt
        · right
          have := Nat.mul_le_mul_right sz (show i + 1 ≤ j from hlt)
          omega
        · left
          have := Nat.mul_le_mul_right sz (show j + 1 ≤ i from hgt)
          rw [Nat.add_mul] at this
          omega)]
      exact h3 j k u cv hu hc
theorem splice_get (l ns : List Value) (off k : Nat) (ho : off + ns.length ≤ l.length) : (l.take off ++ ns ++ l.drop (off + ns.length))[k]? = if k < off then l[k]? else if k < off + ns.length then ns[k - off]? else l[k]? := by
  rw [List.append_assoc, List.getElem?_append, List.length_take, Nat.min_eq_left (by omega)]
  split
  · rw [List.getElem?_take, if_pos (by assumption)]
  · rw [List.getElem?_append]
    split
    · rw [if_pos (by omega)]
    · rw [if_neg (by omega), List.getElem?_drop]
      congr 1
      omega
/-- store -/
theorem store_ok {S : St} (h : SR B w inj S.σ S.cnt) {t : TypeId} {a x : T} {ua u : Value} {d : Dl} (ha : Rep (sctx B w inj S.σ S.cnt) a ua) (hx : Rep (sctx B w inj S.σ S.cnt) x u) (hd : evStore P S t x a = some d) :
    ∃ w', (Instr.storeAt t ua u).run P w = .ok () w' ∧ Stp B w inj S.σ S.cnt d undef w' := by
  unfold evStore at hd
  split at hd
  · rename_i l off
    split at hd
    · rename_i ty cs n hl hs
      split at hd
      · rename_i hc
        simp only [Bool.and_eq_true, decide_eq_true_eq] at hc
        obtain ⟨⟨hk, hn⟩, ho⟩ := hc
        injection hd with hd; subst hd
        cases ha
        rename_i hp
        obtain ⟨_, b, rfl, hb⟩ := hp
        obtain rfl := hb ty cs hl
        obtain ⟨us, hg, hr, h1⟩ := box_parts h hl
        obtain ⟨hra, h1a⟩ := hx.cells (sctx_good _ _ _ _ _) hk
        have hsz : u.cells.size = n := by rw [← hn, hra.1]; simp
        have hst := run_storeV (P := P) hs hg hsz (by rw [List.size_toArray, ← hr.1]; exact ho) h1a (off := off)
        refine ⟨_, hst, ?_⟩
        have hnew := setRow_heap w (inj l) us.toArray (us.take off ++ u.cells.toList ++ us.drop (off + u.cells.toList.length)).toArray ty (0, 0) hg
        refine Stp.set h hl (by trivial) (Fr.setRow w (inj l) _) ?_ ?_ (fun C le => .dead) [l]
        · intro cells e hcell
          rw [hg] at hcell
          injection hcell with hcell; injection hcell with e1 e2 _
          subst e1; subst e2
          refine ⟨_, hnew, ?_⟩
          simp
          have := hr.1
          omega
        · intro C le hw
          refine ⟨_, by rw [hw]; exact hnew, repA_splice (hr.mono le) (hra.mono le) off, fun v hv => ?_⟩
          rcases List.mem_append.1 hv with hv | hv
          · rcases List.mem_append.1 hv with hv | hv
            · exact h1 v (List.mem_of_mem_take hv)
            · exact h1a v hv
          · exact h1 v (List.mem_of_mem_drop hv)
      · simp at hd
    · simp at hd
  · rename_i l sz' i off
    split at hd
    · rename_i e sz xs n y r hl hs hf
      split at hd
      · rename_i x0 hx0
        split at hd
        · rename_i hc
          simp only [Bool.and_eq_true, decide_eq_true_eq, Bool.not_eq_true', List.contains_eq_mem, decide_eq_false_iff_not] at hc
          obtain ⟨⟨⟨⟨⟨hk, hk0⟩, rfl⟩, hn⟩, ho⟩, hlr⟩ := hc
          have hkeys := frzC_keys hf
          have hy : Rep (sctx B w inj (updL S.σ (killL r)) S.cnt).ro y u := (frzC_ok h hf hx).mono (fctx_kill h hkeys)
          have hK := h.kill r
          have hlK : updL S.σ (killL r) l = some (.arr e sz' xs) := by rw [updL_kill, if_neg hlr]; exact hl
          have haK := ha.mono (kill_le h r)
          cases haK
          rename_i hp
          obtain ⟨_, b, rfl, hb⟩ := hp
          obtain rfl := hb _ _ _ hlK
          obtain ⟨h0, cells, c, hg, hcs, hlc, hcm, hrow⟩ := arr_parts hK hlK
          obtain ⟨u0, hru0, hus0, huc0⟩ := hrow.get hx0
          obtain ⟨hra0, h10⟩ := hru0.cells (Ctx.ro_good _) hk0
          obtain ⟨hra, h1a⟩ := hy.cells (Ctx.ro_good _) hk
          have hsz : u.cells.size = n := by rw [← hn, hra.1]; simp
          have hx0l : x0.cells.length = sz' := by rw [hra0.1, Array.length_toList]; exact hus0
          have hilt : i < xs.length := (List.getElem?_eq_some_iff.1 hx0).1
          have hbound : i * sz' + sz' ≤ cells.size := by
            rw [hcs]
            have := Nat.mul_le_mul_right sz' (show i + 1 ≤ c by omega)
            rw [Nat.add_mul] at this
            omega
          have hst := run_storeV (P := P) (v := u) hs hg hsz (off := i * sz' + off) (by omega) h1a
          have hnew := setRow_heap w (inj l) cells (cells.toList.take (i * sz' + off) ++ u.cells.toList ++ cells.toList.drop (i * sz' + off + u.cells.toList.length)).toArray e (0, 0) hg
          have hget : ∀ k, (cells.toList.take (i * sz' + off) ++ u.cells.toList ++ cells.toList.drop (i * sz' + off + u.cells.toList.length)).toArray[k]? = if k < i * sz' + off then cells[k]? else if k < i * sz' + off + n then u.cells[k - (i * sz' + off)]? else cells[k]? := by
            intro k
            rw [List.getElem?_toArray, splice_get _ _ _ _ (by simp only [Array.length_toList]; omega)]
            simp only [Array.getElem?_toList, Array.length_toList, hsz]
          have hsize : (cells.toList.take (i * sz' + off) ++ u.cells.toList ++ cells.toList.drop (i * sz' + off + u.cells.toList.length)).toArray.size = cells.size := by
            simp
            omega
          generalize hcells' : (cells.toList.take (i * sz' + off) ++ u.cells.toList ++ cells.toList.drop (i * sz' + off + u.cells.toList.length)).toArray = cells' at hst hnew hget hsize
          have fin : ∀ (x' : T) (u' : Value), Rep (sctx B w inj (updL S.σ (killL r)) S.cnt).ro x' u' → u'.cells.size = sz' → (∀ (k : Nat) (cv : Value), u'.cells[k]? = some cv → cells'[i * sz' + k]? = some cv) →
              Stp B w inj S.σ S.cnt ⟨.dead, killL r ++ [(l, some (.arr e sz' (xs.set i x')))], [], l :: r⟩ undef (w.setRow (inj l) cells') := by
            intro x' u' hx' hs' hcv'
            refine Stp.killed (rd := []) h (Stp.set hK hlK (show (O.arr e sz' xs).like (.arr e sz' (xs.set i x')) from ⟨rfl, rfl, by simp⟩) (Fr.setRow w (inj l) _) ?_ ?_ (fun C le => .dead) [])
            · intro cells1 e1 hcell
              rw [hg] at hcell
              injection hcell with hcell; injection hcell with e1 e2 _
              subst e1; subst e2
              exact ⟨_, hnew, hsize⟩
            · intro C le hw
              refine ⟨h0, cells', c, by rw [hw]; exact hnew, by rw [hsize]; exact hcs, by simpa using hlc, hcm, ?_⟩
              refine (row_splice hrow hx' hs' (fun k hk' => ?_) hcv').mono le.roro (fun _ _ h => h)
              rw [hget]
              rw [Nat.add_mul] at hk'
              split
              · rfl
              · rw [if_neg (by omega)]
          refine ⟨_, hst, ?_⟩
          split at hd
          · rename_i cs
            injection hd with hd; subst hd
            obtain ⟨vs, rfl, hvl, hvr, hv1⟩ := hru0.agg_parts
            have hvl2 : vs.length = sz' := by simpa [Value.cells] using hus0
            refine fin (.agg (splice cs off y.cells)) (.agg (vs.take off ++ u.cells.toList ++ vs.drop (off + u.cells.toList.length)).toArray) ?_ ?_ ?_
            · have hr := repA_splice (C := (sctx B w inj (updL S.σ (killL r)) S.cnt).ro) ⟨hvl, hvr⟩ hra off
              refine .agg hr.1 hr.2 (fun v hv => ?_)
              rcases List.mem_append.1 hv with hv | hv
              · rcases List.mem_append.1 hv with hv | hv
                · exact hv1 v (List.mem_of_mem_take hv)
                · exact h1a v hv
              · exact hv1 v (List.mem_of_mem_drop hv)
            · have hcl : cs.length = sz' := hx0l
              have ho' : off + n ≤ cs.length := ho
              show (vs.take off ++ u.cells.toList ++ vs.drop (off + u.cells.toList.length)).toArray.size = sz'
              simp only [List.size_toArray, List.length_append, List.length_take, List.length_drop, Array.length_toList, hsz]
              omega
            · intro k cv hk'
              have hcl : cs.length = sz' := hx0l
              have ho' : off + n ≤ cs.length := ho
              have hk' : (vs.take off ++ u.cells.toList ++ vs.drop (off + u.cells.toList.length)).toArray[k]? = some cv := hk'
              rw [List.getElem?_toArray] at hk'
              rw [splice_get _ _ _ _ (by simp only [Array.length_toList]; omega)] at hk'
              simp only [Array.length_toList, hsz, Array.getElem?_toList] at hk'
              rw [hget]
              split at hk'
              · rw [if_pos (by omega)]; exact huc0 k cv (show vs.toArray[k]? = some cv by rw [List.getElem?_toArray]; exact hk')
              · split at hk'
                · rw [if_neg (by omega), if_pos (by omega), show i * sz' + k - (i * sz' + off) = k - off by omega]; exact hk'
                · rw [if_neg (by omega), if_neg (by omega)]; exact huc0 k cv (show vs.toArray[k]? = some cv by rw [List.getElem?_toArray]; exact hk')
          · rename_i hna
            split at hd
            · simp at hd
            · rename_i hnb
              injection hd with hd; subst hd
              have hx1 : x0.cells = [x0] := by cases x0 <;> first | rfl | exact absurd rfl (hna _)
              have hsz1 : sz' = 1 := by rw [← hx0l, hx1]; rfl
              have hy1 : y.cells = [y] := by cases y <;> first | rfl | exact absurd rfl (hnb _)
              have hn1 : n = 1 := by rw [← hn, hy1]; rfl
              have ho1 : off + n ≤ 1 := by rw [hx1] at ho; exact ho
              refine fin y u hy (by rw [hsz, hn1, hsz1]) (fun k cv hk' => ?_)
              have hk1 : k < 1 := by
                have := (Array.getElem?_eq_some_iff.1 hk').1
                omega
              rw [hget, if_neg (by omega), if_pos (by omega), show i * sz' + k - (i * sz' + off) = k by omega]
              exact hk'
        · simp at hd
      · simp at hd
    · simp at hd
  · simp at hd
/-- range over a string -/
theorem range_ok (h : SR B w inj σ cnt) (site : Nat) {t : TypeId} {b : ByteArray} (hu : P.underlying t = some .string) :
    ∃ v w', (Instr.range t (.string b)).run P w = .ok v w' ∧ Stp B w inj σ cnt ⟨.it (site, cnt site), [((site, cnt site), some (.iter b 0))], [site], []⟩ v w' := by
  refine ⟨.pointer (some ⟨w.heap.size, 0, none⟩), w.alloc (.stringIter b 0), ?_, Stp.new h site (.iter b 0) (.stringIter b 0) _ _ [] (fun C le hb => hb) ?_⟩
  · simp only [Instr.range, Sem.run_bind, run_und hu, Result.andThen_ok, Sem.run_pure, run_newObj]
    rfl
  · intro inj' σ' cnt' hi hs hc hb
    exact .it ⟨hc, fun b' pos' _ => by rw [hi]⟩
theorem Fr.setObj (w : World) (g : Nat) (o : Obj) : Fr (fun k => k = g) w { w with heap := w.heap.setIfInBounds g o } :=
  ⟨rfl, rfl, rfl, by simp, fun k _ hk => by simp [Array.getElem?_setIfInBounds_ne (Ne.symm hk)]⟩
/-- the next rune -/
theorem next_ok (h : SR B w inj σ cnt) {l : Loc} {v : Value} {b : ByteArray} {pos : Nat} (hl : σ l = some (.iter b pos)) (hv : Rep (sctx B w inj σ cnt) (.it l) v) (ty : TypeId) :
    ∃ r w', (Instr.next v true ty).run P w = .ok r w' ∧ Stp B w inj σ cnt (if pos < b.size then
          ⟨.tup [tb true, ti pos, .s (.int .i32 (Utf8.decode b pos).1)], [(l, some (.iter b (pos + (Utf8.decode b pos).2)))], [], [l]⟩
        else ⟨.tup [tb false], [], [], [l]⟩) r w' := by
  cases hv
  rename_i hp
  obtain rfl := hp.2 b pos hl
  have hob : w.heap[inj l]? = some (.stringIter b pos) := h.obj l _ hl
  have hget : (getObj (inj l)).run P w = .ok (.stringIter b pos) w := by simp [getObj, Sem.run, hob]
  by_cases hlt : pos < b.size
  · rw [if_pos hlt]
    have hset : (setObj (inj l) (.stringIter b (pos + (Utf8.decode b pos).2))).run P w = .ok () { w with heap := w.heap.setIfInBounds (inj l) (.stringIter b (pos + (Utf8.decode b pos).2)) } := by simp [setObj, Sem.run, hob]
    refine ⟨.tuple #[.bool true, goInt pos, .int .i32 (Utf8.decode b pos).1], { w with heap := w.heap.setIfInBounds (inj l) (.stringIter b (pos + (Utf8.decode b pos).2)) }, ?_, ?_⟩
    · simp only [Instr.next, Sem.run_bind, hget, Result.andThen_ok, hlt, if_true, hset, Sem.run_pure]
    · have hlen := (Array.getElem?_eq_some_iff.1 hob).1
      refine Stp.set h hl (by trivial) (Fr.setObj w (inj l) _) ?_ ?_ ?_ [l]
      · intro cells e hc; rw [hob] at hc; simp at hc
      · intro C le hw; show C.w.heap[inj l]? = _; rw [hw]; simp [hlen]
      · intro C le
        exact .tup (vs := [_, _, _]) rfl (((RepA.one (rep_i .i32 _)).cons (rep_i .i64 _)).cons (rep_b true)).2
  · rw [if_neg hlt]
    refine ⟨.tuple #[.bool false], w, ?_, ?_⟩
    · simp only [Instr.next, Sem.run_bind, hget, Result.andThen_ok, hlt, if_false, Sem.run_pure]
    · exact Stp.pure h (.tup (vs := [_]) rfl (RepA.one (rep_b false)).2) _
end
end Go.Proofs.YtfknpnkdedckhaaGreatDoorT

/- The interpreter over trees: structs and slices that are built; append. -/
namespace Go.Proofs.YtfknpnkdedckhaaGreatDoorT
open Go Go.RowKit
set_option linter.unusedVariables false

theorem fold_get (off : Nat) : ∀ (vs : List Value) (k : Nat) (cells : Array Value) (i : Nat), off + k + vs.length ≤ cells.size →
    ((vs.zipIdx k).foldl (fun cs (x : Value × Nat) => cs.setIfInBounds (off + x.2) x.1) cells)[i]? = (if off + k ≤ i ∧ i < off + k + vs.length then vs[i - (off + k)]? else cells[i]?)
  | [], k, cells, i, _ => by
    rw [if_neg (by simp)]
    rfl
  | v :: vs, k, cells, i, h => by
    simp only [List.zipIdx_cons, List.foldl_cons]
    simp only [List.length_cons] at h ⊢
    rw [fold_get off vs (k + 1) _ i (by simp; omega)]
    by_cases h1 : off + (k + 1) ≤ i ∧ i < off + (k + 1) + vs.length
    · rw [if_pos h1, if_pos (by omega)]
      rw [show i - (off + k) = (i - (off + (k + 1))) + 1 by omega, List.getElem?_cons_succ]
    · rw [if_neg h1]
      by_cases h2 : i = off + k
      · subst h2
        rw [if_pos (by omega)]
        simp only [Nat.sub_self, List.getElem?_cons_zero]
        rw [Array.getElem?_setIfInBounds_self_of_lt (by omega)]
      · rw [if_neg (by omega), Array.getElem?_setIfInBounds_ne (by omega)]
theorem fold_size (off : Nat) : ∀ (vs : List Value) (k : Nat) (cells : Array Value), ((vs.zipIdx k).foldl (fun cs (x : Value × Nat) => cs.setIfInBounds (off + x.2) x.1) cells).size = cells.size
  | [], k, cells => rfl
  | v :: vs, k, cells => by
    simp only [List.zipIdx_cons, List.foldl_cons]
    rw [fold_size off vs (k + 1)]
    simp
theorem fold_arr (off : Nat) (vs cells : Array Value) : vs.zipIdx.foldl (fun cs (x : Value × Nat) => cs.setIfInBounds (off + x.2) x.1) cells = (vs.toList.zipIdx 0).foldl (fun cs (x : Value × Nat) => cs.setIfInBounds (off + x.2) x.1) cells := by
  rw [← Array.foldl_toList, Array.toList_zipIdx]
theorem fold_splice (off : Nat) (vs : Array Value) (us : List Value) (h : off + vs.size ≤ us.length) : vs.zipIdx.foldl (fun cs (x : Value × Nat) => cs.setIfInBounds (off + x.2) x.1) us.toArray = (us.take off ++ vs.toList ++ us.drop (off + vs.toList.length)).toArray := by
  rw [fold_arr]
  apply Array.ext_getElem?
  intro i
  rw [fold_get off vs.toList 0 us.toArray i (by simp; omega)]
  simp only [Nat.add_zero, List.getElem?_toArray]
  rw [splice_get _ _ _ _ (by simp; omega)]
  by_cases h1 : i < off
  · rw [if_neg (by omega), if_pos h1]
  · rw [if_neg h1]
    by_cases h2 : i < off + vs.toList.length
    · rw [if_pos (by omega), if_pos h2]
    · rw [if_neg (by omega), if_neg h2]

section
variable {P : Program} {C : Ctx}
/-- Values laid beside parts. -/
def PartsA (C : Ctx) (ps : List (Nat × T)) (vs : List (Nat × Value)) : Prop := ps.map (·.1) = vs.map (·.1) ∧ RepA C (ps.map (·.2)) (vs.map (·.2))
theorem PartsA.cons_inv {ps : List (Nat × T)} {i : Nat} {x : T} {vs : List (Nat × Value)} (h : PartsA C ((i, x) :: ps) vs) : ∃ u r, vs = (i, u) :: r ∧ Rep C x u ∧ PartsA C ps r := by
  match vs, h with
  | [], h => exact absurd h.1 (by simp)
  | (j, u) :: r, h =>
    obtain ⟨h1, h2⟩ := h
    simp only [List.map_cons, List.cons.injEq] at h1
    obtain ⟨rfl, h1⟩ := h1
    exact ⟨u, r, rfl, h2.head, h1, h2.tail⟩
theorem places_get : ∀ (fs : List Field) (places : List (Nat × Nat)), fs.mapM (fun f => (P.info? f.type).map fun i => (f.offset, i.size)) = some places → ∀ (i : Nat) (f : Field) (n : Nat), fs[i]? = some f → szOf P f.type = some n → places[i]? = some (f.offset, n)
  | [], places, h, i, f, n, hf, hn => by simp at hf
  | g :: fs, places, h, i, f, n, hf, hn => by
    simp only [List.mapM_cons, Option.bind_eq_bind, Option.pure_def] at h
    cases hi : P.info? g.type with
    | none => simp [hi] at h
    | some ti =>
      cases hr : fs.mapM (fun f => (P.info? f.type).map fun i => (f.offset, i.size)) with
      | none => simp [hi, hr] at h
      | some rest =>
        simp [hi, hr] at h
        subst h
        cases i with
        | zero => simp at hf; subst hf; simp [szOf, hi] at hn; simp [hn]
        | succ i => simp at hf ⊢; exact places_get fs rest hr i f n hf hn
theorem places_some : ∀ (fs : List Field), (fs.all fun f => (P.info? f.type).isSome) = true → ∃ places, fs.mapM (fun f => (P.info? f.type).map fun i => (f.offset, i.size)) = some places
  | [], _ => ⟨[], by simp⟩
  | g :: fs, h => by
    simp only [List.all_cons, Bool.and_eq_true] at h
    obtain ⟨places, hp⟩ := places_some fs h.2
    obtain ⟨i, hi⟩ := Option.isSome_iff_exists.1 h.1
    exact ⟨(g.offset, i.size) :: places, by simp [hi, hp]⟩
theorem fill_ok (hg : C.Good) {t : TypeId} {fs : Array Field} {places : List (Nat × Nat)} (hu : P.underlying t = some (.struct fs)) (hp : fs.toList.mapM (fun f => (P.info? f.type).map fun i => (f.offset, i.size)) = some places) :
    ∀ (ps : List (Nat × T)) (vs : List (Nat × Value)) (cs cs' : List T) (us : List Value), fillT P t ps cs = some cs' → PartsA C ps vs → RepA C cs us → (∀ u ∈ us, one u) →
      ∃ us', Instr.fill (places.toArray[·]?) us.toArray vs = some us'.toArray ∧ RepA C cs' us' ∧ ∀ u ∈ us', one u
  | [], vs, cs, cs', us, h, hpa, hr, h1 => by
    simp [fillT] at h
    subst h
    have : vs = [] := by have := hpa.1; simpa using this.symm
    subst this
    exact ⟨us, rfl, hr, h1⟩
  | (i, x) :: ps, vs, cs, cs', us, h, hpa, hr, h1 => by
    obtain ⟨u, r, rfl, hx, hpa'⟩ := hpa.cons_inv
    simp only [fillT] at h
    split at h
    · rename_i o n ft hf
      split at h
      · rename_i hc
        simp only [Bool.and_eq_true, decide_eq_true_eq] at hc
        obtain ⟨⟨hk, hn⟩, ho⟩ := hc
        obtain ⟨fs', f, hu', hfi, rfl, rfl, hs, hn0⟩ := fieldOf_parts hf
        rw [hu] at hu'
        injection hu' with hu'; injection hu' with hu'
        subst hu'
        obtain ⟨hra, h1a⟩ := hx.cells hg hk
        have hsz : u.cells.size = n := by rw [← hn, hra.1]; simp
        have hpl : places[i]? = some (f.offset, n) := places_get _ _ hp i f n (by simpa using hfi) hs
        have hl : f.offset + u.cells.size ≤ us.length := by rw [← hr.1, hsz]; exact ho
        have hone : ∀ v ∈ us.take f.offset ++ u.cells.toList ++ us.drop (f.offset + u.cells.toList.length), one v := by
          intro v hv
          rcases List.mem_append.1 hv with hv | hv
          · rcases List.mem_append.1 hv with hv | hv
            · exact h1 v (List.mem_of_mem_take hv)
            · exact h1a v hv
          · exact h1 v (List.mem_of_mem_drop hv)
        obtain ⟨us', hfill, hr', h1'⟩ := fill_ok hg hu hp ps r _ cs' _ h hpa' (repA_splice hr hra f.offset) hone
        refine ⟨us', ?_, hr', h1'⟩
        simp only [Instr.fill, List.getElem?_toArray, hpl, hsz]
        rw [if_neg (by simp; omega), fold_splice f.offset u.cells us hl]
        simpa using hfill
      · simp at h
    · simp at h
/-- build -/
theorem build_ok (hg : C.Good) {t : TypeId} {ps : List (Nat × T)} {vs : Array (Nat × Value)} {z cs : List T} (hpl : placesOk P t = true) (hz : zeroOf P t = some z) (hf : fillT P t ps z = some cs) (hpa : PartsA C ps vs.toList) (w : World) :
    ∃ v, (Instr.build t vs).run P w = .ok v w ∧ Rep C (.agg cs) v := by
  unfold placesOk at hpl
  split at hpl
  · rename_i fs hu
    obtain ⟨places, hp⟩ := places_some _ hpl
    have hz' := hz
    unfold zeroOf at hz'
    cases hi : P.info? t with
    | none => rw [hi] at hz'; simp at hz'
    | some it =>
      rw [hi] at hz'
      simp only at hz'
      cases hzz : it.zero with
      | none => rw [hzz] at hz'; simp at hz'
      | some zv =>
        rw [hzz] at hz'
        simp only at hz'
        split at hz'
        · rename_i hc
          injection hz' with hz'; subst hz'
          simp only [Bool.and_eq_true, List.all_eq_true] at hc
          have hpls := hc.1.1
          obtain ⟨us', hfill, hr', h1'⟩ := fill_ok hg hu hp ps vs.toList _ cs _ hf hpa (rep_plains hpls) (fun u hu => plain_one (hpls u hu))
          refine ⟨.agg us'.toArray, ?_, .agg hr'.1 hr'.2 h1'⟩
          apply run_build
          simp only [Program.built, hi, hu, hzz, hp]
          simpa using hfill
        · simp at hz'
  · simp at hpl
end
end Go.Proofs.YtfknpnkdedckhaaGreatDoorT

/- The interpreter over trees: append; interface values; the length; the least and the greatest. -/
namespace Go.Proofs.YtfknpnkdedckhaaGreatDoorT
open Go Go.RowKit
set_option linter.unusedVariables false

section
variable {P : Program} {B : Base} {w : World} {inj : Loc → Nat} {σ : Loc → Option O} {cnt : Nat → Nat}
/-- Two rows, one behind the other. -/
theorem row_append {C : Ctx} {sz n : Nat} {xs ys : List T} {f g h : Nat → Option Value} (hx : RowOf C sz xs f) (hn : xs.length = n) (hy : RowOf C sz ys g)
    (h1 : ∀ k, k < n * sz → h k = f k) (h2 : ∀ k, h (n * sz + k) = g k ∨ ys.length * sz ≤ k) : RowOf C sz (xs ++ ys) h := by
  obtain ⟨us, a1, a2, a3⟩ := hx
  obtain ⟨vs, b1, b2, b3⟩ := hy
  refine ⟨us ++ vs, a1.append b1, fun u hu => (List.mem_append.1 hu).elim (a2 u) (b2 u), fun j i u cv hu hc => ?_⟩
  have hul : us.length = n := by rw [← a1.1, hn]
  rw [List.getElem?_append] at hu
  split at hu
  · rename_i hj
    have hs := a2 u (List.mem_of_getElem? hu)
    have hi : i < sz := by rw [← hs]; exact (Array.getElem?_eq_some_iff.1 hc).1
    have hlt : j * sz + i < n * sz := by
      have := Nat.mul_le_mul_right sz (show j + 1 ≤ n by omega)
      rw [Nat.add_mul] at this
      omega
    rw [h1 _ hlt]
    exact a3 j i u cv hu hc
  · rename_i hj
    have hs := b2 u (List.mem_of_getElem? hu)
    have hi : i < sz := by rw [← hs]; exact (Array.getElem?_eq_some_iff.1 hc).1
    have hjl : j - us.length < vs.length := (List.getElem?_eq_some_iff.1 hu).1
    have hlt : (j - us.length) * sz + i < ys.length * sz := by
      have := Nat.mul_le_mul_right sz (show (j - us.length) + 1 ≤ ys.length by rw [b1.1]; omega)
      rw [Nat.add_mul] at this
      omega
    have he : j * sz + i = n * sz + ((j - us.length) * sz + i) := by
      rw [← Nat.add_assoc, ← Nat.add_mul]
      congr 2
      omega
    rw [he]
    rcases h2 ((j - us.length) * sz + i) with h2 | h2
    · rw [h2]; exact b3 _ i u cv hu hc
    · omega
/-- All cells of a row are there. -/
theorem row_all {C : Ctx} {sz : Nat} {ys : List T} {g : Nat → Option Value} (hg : C.Good) (h0 : 0 < sz) (h : RowOf C sz ys g) (hk : ys.all T.ok1 = true) (k : Nat) (hlt : k < ys.length * sz) : ∃ v, g k = some v ∧ one v := by
  have hj : k / sz < ys.length := (Nat.div_lt_iff_lt_mul h0).2 hlt
  obtain ⟨u, hr, hs, hc⟩ := h.get (List.getElem?_eq_getElem hj)
  have hi : k % sz < u.cells.size := by rw [hs]; exact Nat.mod_lt _ h0
  have hcell := hc (k % sz) _ (Array.getElem?_eq_getElem hi)
  rw [Nat.mul_comm, Nat.div_add_mod] at hcell
  refine ⟨_, hcell, (hr.cells hg ?_).2 _ ?_⟩
  · exact List.all_eq_true.1 hk _ (List.getElem_mem hj)
  · simp
/-- The elements appended, where they lie. -/
theorem src_ok (h : SR B w inj σ cnt) {sz : Nat} {x : T} {u : Value} {ys : List T} {r : List Loc} (hx : Rep (sctx B w inj σ cnt) x u) (hs : srcOf σ sz x = some (ys, r)) :
    ∃ A c, u = .slice A ys.length c ∧ (ys = [] ∨ ∃ ad : Addr, A = some ad ∧ ad.spot = none ∧ RowOf (sctx B w inj σ cnt).ro sz ys (fun i => w.cell? ⟨ad.block, ad.off + i, none⟩)) := by
  unfold srcOf at hs
  split at hs
  · rename_i sz' xs
    split at hs
    · rename_i hz
      injection hs with hs; injection hs with e1 e2; subst e1; subst e2
      obtain ⟨A, c, rfl, hc, hm⟩ := hx.sl_row
      refine ⟨A, c, rfl, ?_⟩
      rcases hm with hm | ⟨ad, e, hsp, hok, hrow⟩
      · exact .inl hm
      · simp only [szok, Bool.or_eq_true, decide_eq_true_eq, List.isEmpty_iff] at hz
        rcases hz with rfl | hz
        · exact .inr ⟨ad, e, hsp, hrow⟩
        · exact .inl hz
    · simp at hs
  · rename_i l
    split at hs
    · rename_i e sz' ys' hl
      split at hs
      · rename_i hc
        obtain rfl := hc
        injection hs with hs; injection hs with e1 e2; subst e1; subst e2
        cases hx
        rename_i hp
        obtain ⟨h1, b, n, c, rfl, hnc, hb⟩ := hp
        obtain ⟨rfl, rfl, cells, hc1, hc2⟩ := hb _ _ _ hl
        obtain ⟨h0, cells', c', g1, g2, g3, g4, g5⟩ := arr_parts h hl
        rw [hc1] at g1
        injection g1 with g1; injection g1 with g1 _ _
        subst g1
        refine ⟨_, c, rfl, .inr ⟨_, rfl, rfl, g5.mono (Ctx.le.refl _) (fun i u hu => ?_)⟩⟩
        simp [World.cell?, hc1, hu]
      · simp at hs
    · simp at hs
  · injection hs with hs; injection hs with e1 e2; subst e1; subst e2
    obtain rfl := rep_s hx
    exact ⟨none, 0, rfl, .inl rfl⟩
  · simp at hs
/-- append looks at the second type for its kind alone. -/
theorem append_types {t t1 ty e e1 : TypeId} (ht : P.underlying t = some (.slice e)) (h1 : P.underlying t1 = some (.slice e1)) (A A' : Option Addr) (n c n' c' : Nat) (w : World) :
    (Builtin.append_ #[t, t1] ty #[.slice A n c, .slice A' n' c']).run P w = (Builtin.append_ #[t, t] ty #[.slice A n c, .slice A' n' c']).run P w := by
  simp [Builtin.append_, run_underlying ht, run_underlying h1]
theorem append_none {t ty e : TypeId} {sz : Nat} (ht : P.underlying t = some (.slice e)) (hs : szOf P e = some sz) (A A' : Option Addr) (n c c' : Nat) (hn : n ≤ c) (w : World) :
    (Builtin.append_ #[t, t] ty #[.slice A n c, .slice A' 0 c']).run P w = .ok (.slice A n c) w := by
  unfold szOf at hs
  cases hi : P.info? e with
  | none => rw [hi] at hs; simp at hs
  | some i =>
    cases A <;> cases A' <;> simp [Builtin.append_, run_underlying ht, sizeOf, typeInfo, hi, Builtin.lenOf, Builtin.firstCells, hn, storeCells, loadCells, loadCellsFrom]
theorem elemOf_parts {t e : TypeId} (h : elemOf P t = some e) : P.underlying t = some (.slice e) := by
  unfold elemOf at h
  split at h
  · rename_i e' hu; injection h with h; subst h; exact hu
  · simp at h
/-- One's own row gone over to a new key: in its block, or in a new one. -/
theorem Stp.regrow (h : SR B w inj σ cnt) {l : Loc} {e : TypeId} {sz : Nat} {xs zs : List T} (hl : σ l = some (.arr e sz xs)) {w' : World} {blk c' : Nat} {cells : Array Value}
    (hw : Fr (fun k => k = inj l) w w') (hb : blk = inj l ∨ blk = w.heap.size) (h0 : 0 < sz) (hcell : w'.heap[blk]? = some (.cells cells e (0, 0))) (hcs : cells.size = c' * sz) (hm : zs.length ≤ c') (hmx : c' ≤ maxLen)
    (hrow : RowOf (sctx B w inj σ cnt).ro sz zs (fun i => cells[i]?)) (rd : List Loc) :
    Stp B w inj σ cnt ⟨.own (l.1, cnt l.1), [(l, none), ((l.1, cnt l.1), some (.arr e sz zs))], [l.1], rd⟩ (.slice (some ⟨blk, 0, none⟩) zs.length c') w' := by
  have hlt : l.2 < cnt l.1 := h.fresh l _ hl
  have hσ : ∀ k, updL σ [(l, none), ((l.1, cnt l.1), some (.arr e sz zs))] k = if k = (l.1, cnt l.1) then some (.arr e sz zs) else if k = l then none else σ k := fun _ => rfl
  have hlook : ∀ k q, updL σ [(l, none), ((l.1, cnt l.1), some (.arr e sz zs))] k = some q → (k = (l.1, cnt l.1) ∧ q = .arr e sz zs) ∨ (k ≠ (l.1, cnt l.1) ∧ k ≠ l ∧ σ k = some q) := by
    intro k q hq
    rw [hσ] at hq
    split at hq
    · rename_i ek; injection hq with hq; exact .inl ⟨ek, hq.symm⟩
    · rename_i ek
      split at hq
      · simp at hq
      · rename_i ek'; exact .inr ⟨ek, ek', hq⟩
  have hblk : blk < w'.heap.size := (Array.getElem?_eq_some_iff.1 hcell).1
  have hne : ∀ k q, k ≠ l → σ k = some q → inj k ≠ blk := by
    intro k q hkl hk he
    rcases hb with hb | hb
    · exact hkl (h.uniq k l q _ hk hl (by rw [he, hb]))
    · have := h.lt k q hk; omega
  have hfr : Fr (owned σ inj) w w' := hw.mono (by rintro i rfl; exact ⟨l, _, hl, rfl⟩)
  have hc : ∀ s, cnt s ≤ (if [l.1].contains s then cnt s + 1 else cnt s) := by intro s; split <;> omega
  have hnew : ∀ k q, updL σ [(l, none), ((l.1, cnt l.1), some (.arr e sz zs))] k = some q → owned σ inj ((fun k => if k = (l.1, cnt l.1) then blk else inj k) k) ∨ w.heap.size ≤ (fun k => if k = (l.1, cnt l.1) then blk else inj k) k := by
    intro k q hq
    rcases hlook k q hq with ⟨rfl, rfl⟩ | ⟨hk1, hk2, hs⟩
    · simp only [if_true]
      rcases hb with hb | hb
      · exact .inl ⟨l, _, hl, hb.symm⟩
      · exact .inr (by omega)
    · simp only [hk1, if_false]; exact .inl ⟨k, q, hs, rfl⟩
  have hblock : ∀ k q, k ≠ l → σ k = some q → w'.heap[inj k]? = w.heap[inj k]? := fun k q hkl hk => hw.block _ (h.lt k q hk) (fun he => hkl (h.uniq k l q _ hk hl he))
  have le := next_le (B := B) (inj' := fun k => if k = (l.1, cnt l.1) then blk else inj k) (σ' := updL σ [(l, none), ((l.1, cnt l.1), some (.arr e sz zs))]) hfr hc hnew (by
    intro k q hklt hq
    rcases hlook k q hq with ⟨rfl, rfl⟩ | ⟨hk1, hk2, hs⟩
    · simp at hklt
    · refine ⟨q, hs, by simp [hk1], O.like_refl _, fun _ _ _ _ cells1 e1 hcell1 => ⟨cells1, ?_, rfl⟩⟩
      rw [hblock k q hk2 hs]; exact hcell1)
  refine ⟨_, h.next hfr hc hnew ?_ ?_ ?_ ?_, le, ?_⟩
  · intro k q hq
    rcases hlook k q hq with ⟨rfl, rfl⟩ | ⟨hk1, hk2, hs⟩
    · simpa using hblk
    · simp only [hk1, if_false]; exact Nat.lt_of_lt_of_le (h.lt k q hs) hw.size
  · intro a b o1 o2 h1 h2 he
    rcases hlook a o1 h1 with ⟨rfl, rfl⟩ | ⟨ha1, ha2, hs⟩ <;> rcases hlook b o2 h2 with ⟨rfl, rfl⟩ | ⟨hb1, hb2, hs'⟩
    · rfl
    · simp only [if_true, hb1, if_false] at he; exact absurd he.symm (hne b o2 hb2 hs')
    · simp only [if_true, ha1, if_false] at he; exact absurd he (hne a o1 ha2 hs)
    · simp only [ha1, hb1, if_false] at he; exact h.uniq a b o1 o2 hs hs' he
  · intro k q hq
    rcases hlook k q hq with ⟨rfl, rfl⟩ | ⟨hk1, hk2, hs⟩
    · simp
    · exact Nat.lt_of_lt_of_le (h.fresh k q hs) (hc _)
  · intro k q hq
    rcases hlook k q hq with ⟨rfl, rfl⟩ | ⟨hk1, hk2, hs⟩
    · simp only [if_true]
      exact ⟨h0, cells, c', hcell, hcs, hm, hmx, hrow.mono le.roro (fun _ _ hh => hh)⟩
    · simp only [hk1, if_false]; exact (h.obj k q hs).mono le (hblock k q hk2 hs)
  · refine .own ⟨by simp, blk, _, c', rfl, hm, fun e1 sz1 xs1 hx1 => ?_⟩
    have := hσ (l.1, cnt l.1)
    rw [if_pos rfl] at this
    rw [this] at hx1
    injection hx1 with hx1; injection hx1 with g1 g2 g3
    subst g1; subst g2; subst g3
    exact ⟨rfl, by simp, cells, by simpa using hcell, hcs⟩
theorem rekey (h : SR B w inj σ cnt) : Rekeyed B w inj σ cnt := by
  intro l e sz xs k b n c hl hk hn hb hnc hcells
  subst hn; subst hb
  obtain ⟨cells, hc1, hc2⟩ := hcells
  obtain ⟨h0, cells', c', g1, g2, g3, g4, g5⟩ := arr_parts h hl
  rw [hc1] at g1
  injection g1 with g1; injection g1 with g1 _ _
  subst g1
  have hcc : c = c' := Nat.eq_of_mul_eq_mul_right h0 (by rw [← hc2, ← g2])
  subst hcc
  have hlen : (xs.take k).length = k := by rw [List.length_take]; omega
  have := Stp.regrow (zs := xs.take k) h hl (Fr.refl _ w) (.inl rfl) h0 hc1 hc2 (by rw [hlen]; omega) g4 (g5.take k) [l]
  rw [hlen] at this
  exact this
theorem maxLen_big : (140737488355328 : Nat) ≤ maxLen := by decide
/-- append -/
theorem append_ok {S : St} (h : SR B w inj S.σ S.cnt) {site : Nat} {t ty : TypeId} {tys : Option TypeId} {s x : T} {us ux : Value} {d : Dl} (hs : Rep (sctx B w inj S.σ S.cnt) s us) (hx : Rep (sctx B w inj S.σ S.cnt) x ux) (hd : evAppend P S site t tys s x = some d) :
    ∃ t1, tys = some t1 ∧ ∃ v w', (Builtin.append_ #[t, t1] ty #[us, ux]).run P w = .ok v w' ∧ Stp B w inj S.σ S.cnt d v w' := by
  unfold evAppend at hd
  split at hd
  · rename_i e t1 het
    refine ⟨t1, rfl, ?_⟩
    split at hd
    · rename_i e1 sz by_ z he1 hsz hby hz
      split at hd
      · simp at hd
      · rename_i hnz
        have h0 : 0 < sz := by omega
        have hb0 : 0 < by_ := by omega
        have ht := elemOf_parts het
        split at hd
        · rename_i ys r hsrc
          split at hd
          · rename_i hok
            obtain ⟨A, cx, rfl, hrow⟩ := src_ok h hx hsrc
            obtain ⟨zv, hzr, rfl, hzp, hzs, _⟩ := run_zero hz w
            have hzi : ∃ i, P.info? e = some i ∧ i.zero = some zv ∧ i.size = sz ∧ i.bytes = by_ := by
              unfold szOf at hsz; unfold bytesOf at hby
              cases hi : P.info? e with
              | none => rw [hi] at hsz; simp at hsz
              | some i =>
                rw [hi] at hsz hby
                simp only [Option.map_some, Option.some.injEq] at hsz hby
                refine ⟨i, rfl, ?_, hsz, hby⟩
                cases hz0 : i.zero with
                | none => simp [zeroValue, run_info hi, hz0] at hzr
                | some z' => simp [zeroValue, run_info hi, hz0] at hzr; rw [hzr]
            obtain ⟨i, hi, hz0, his, hib⟩ := hzi
            have hzsz : zv.cells.size = sz := by rw [hsz] at hzs; injection hzs with hzs; exact hzs.symm
            -- the elements' cells
            have news : ys ≠ [] → ∃ (ad : Addr) (nw : List Value), A = some ad ∧ nw.length = ys.length * sz ∧ (∀ j u, nw[j]? = some u → w.cell? (ad.add j) = some u) ∧ (∀ u ∈ nw, u.oneCell' = true) ∧ RowOf (sctx B w inj S.σ S.cnt).ro sz ys (fun i => nw[i]?) := by
              intro hne
              rcases hrow with hrow | ⟨ad, rfl, hsp, hrow⟩
              · exact absurd hrow hne
              · have hall := row_all (Ctx.ro_good _) h0 hrow hok
                refine ⟨ad, (List.range (ys.length * sz)).map (fun k => (w.cell? ⟨ad.block, ad.off + k, none⟩).getD undef), rfl, by simp, ?_, ?_, ?_⟩
                · intro j u hj
                  rw [List.getElem?_map] at hj
                  cases hr : (List.range (ys.length * sz))[j]? with
                  | none => rw [hr] at hj; simp at hj
                  | some k =>
                    rw [hr] at hj
                    have hk := List.getElem?_eq_some_iff.1 hr
                    obtain ⟨hk1, hk2⟩ := hk
                    simp at hk1 hk2
                    subst hk2
                    obtain ⟨v, hv, _⟩ := hall j hk1
                    simp only [Option.map_some, hv, Option.getD_some, Option.some.injEq] at hj
                    rw [add_at hsp, hv, hj]
                · intro u hu
                  obtain ⟨k, hk, rfl⟩ := List.mem_map.1 hu
                  obtain ⟨v, hv, h1⟩ := hall k (List.mem_range.1 hk)
                  simp only [hv, Option.getD_some]
                  exact h1
                · obtain ⟨us', a1, a2, a3⟩ := hrow
                  refine ⟨us', a1, a2, fun j i u cv hu hc => ?_⟩
                  have hj : j < us'.length := (List.getElem?_eq_some_iff.1 hu).1
                  have hil : i < sz := by rw [← a2 u (List.mem_of_getElem? hu)]; exact (Array.getElem?_eq_some_iff.1 hc).1
                  have hlt : j * sz + i < ys.length * sz := by
                    have := Nat.mul_le_mul_right sz (show j + 1 ≤ ys.length by rw [a1.1]; omega)
                    rw [Nat.add_mul] at this
                    omega
                  have := a3 j i u cv hu hc
                  simp only [List.getElem?_map, List.getElem?_range hlt, Option.map_some]
                  simp only at this
                  rw [this]
                  rfl
            split at hd
            · obtain rfl := rep_s hs
              split at hd
              · rename_i hbytes
                split at hd
                · injection hd with hd; subst hd
                  exact ⟨_, w, (append_types ht (elemOf_parts he1) _ _ _ _ _ _ w).trans (append_none ht hsz _ _ _ _ _ (Nat.le_refl _) w), Stp.pure h hs _⟩
                · rename_i hne
                  injection hd with hd; subst hd
                  have hyl : ys ≠ [] := fun he => hne he
                  obtain ⟨ad, nw, rfl, hnl, hnc, hn1, hnrow⟩ := news hyl
                  have hpos : 0 < ys.length := List.length_pos_iff.2 hyl
                  have hle : ys.length ≤ maxLen := by
                    have := Nat.le_mul_of_pos_right ys.length hb0
                    have := maxLen_big
                    omega
                  obtain ⟨v', w', hrun, hown, hgr, hnil, hblk⟩ := run_append_own_at (P := P) w 0 t ty e i zv sz by_ ht hi hz0 his hib hzsz h0 (.slice none 0 0) 0 [] (World.ownsRow_nil w 0 e sz) ad ys.length cx nw hnl hnc hn1 (by omega) (by simpa using hbytes) (Nat.zero_le _)
                  rcases hown.2 with ⟨rfl, hn0⟩ | ⟨g, cap, cur, rfl, _, hg, hnc', hcm, hcs, htk⟩
                  · omega
                  · have hgb : g = w.heap.size := by simpa [Value.ownBlock] using hblk
                    subst hgb
                    simp only [Nat.zero_add, List.nil_append] at hrun hnc' htk hg ⊢
                    refine ⟨_, w', (append_types ht (elemOf_parts he1) _ _ _ _ _ _ w).trans hrun, Stp.newAt h site _ _ _ _ _ ⟨hgr.os, hgr.tape, hgr.output, hgr.size, fun k hk _ => hgr.block k hk (by simp [Value.ownBlock])⟩ hg ?_ ?_⟩
                    · intro C le hb
                      refine ⟨h0, cur, cap, hb, hcs, hnc', hcm, hnrow.mono le.roro (fun i v hv => ?_)⟩
                      rw [← htk, List.getElem?_take] at hv
                      split at hv
                      · simpa using hv
                      · simp at hv
                    · intro inj' σ' cnt' h1 h2 h3
                      refine .own ⟨h3, _, _, cap, rfl, hnc', fun e1 sz1 xs1 hx1 => ?_⟩
                      rw [h2] at hx1
                      injection hx1 with hx1; injection hx1 with g1 g2 g3
                      subst g1; subst g2; subst g3
                      exact ⟨rfl, h1.symm, cur, by rw [h1]; exact hg, hcs⟩
              · simp at hd
            · rename_i l
              split at hd
              · rename_i e' sz' xs hl
                split at hd
                · rename_i hcnd
                  obtain ⟨rfl, rfl, hbytes⟩ := hcnd
                  injection hd with hd; subst hd
                  cases hs
                  rename_i hp
                  obtain ⟨hp1, b, n, c, rfl, hnc, hb⟩ := hp
                  obtain ⟨hn0', rfl, cells, hc1, hc2⟩ := hb _ _ _ hl
                  have hnx : n ≤ xs.length := by omega
                  rw [← hn0'] at hbytes
                  rw [show xs ++ ys = xs.take n ++ ys by rw [hn0', List.take_length]]
                  obtain ⟨_, cells', cap, g1, g2, g3, g4, g5⟩ := arr_parts h hl
                  rw [hc1] at g1
                  injection g1 with g1; injection g1 with g1 _ _
                  subst g1
                  have hcc : c = cap := Nat.eq_of_mul_eq_mul_right h0 (by rw [← hc2, ← g2])
                  subst hcc
                  have hxl : (xs.take n).length = n := by rw [List.length_take]; omega
                  have hlen : (xs.take n ++ ys).length = n + ys.length := by simp [hxl]
                  by_cases hyl : ys = []
                  · subst hyl
                    refine ⟨_, w, (append_types ht (elemOf_parts he1) _ _ _ _ _ _ w).trans (append_none ht hsz _ _ _ _ _ hnc w), ?_⟩
                    have := Stp.regrow (zs := xs.take n ++ []) h hl (Fr.refl _ w) (.inl rfl) h0 hc1 hc2 (by rw [hlen]; simpa using hnc) g4 ((by simpa using (g5.take n))) (l :: r)
                    rw [hlen] at this
                    exact this
                  · obtain ⟨ad, nw, rfl, hnl, hnw, hn1, hnrow⟩ := news hyl
                    have hle : n + ys.length ≤ maxLen := by
                      have := Nat.le_mul_of_pos_right (n + ys.length) hb0
                      have := maxLen_big
                      omega
                    have hown0 : w.ownsRow 0 e' sz' (.slice (some ⟨inj l, 0, none⟩) n c) n (cells.toList.take (n * sz')) := by
                      refine ⟨?_, .inr ⟨inj l, c, cells, rfl, Nat.zero_le _, hc1, hnc, g4, hc2, rfl⟩⟩
                      rw [List.length_take, Array.length_toList, hc2]
                      exact Nat.min_eq_left (Nat.mul_le_mul_right _ hnc)
                    obtain ⟨v', w', hrun, hown, hgr, hnil, hblk⟩ := run_append_own_at (P := P) w 0 t ty e' i zv sz' by_ ht hi hz0 his hib hzsz h0 _ n _ hown0 ad ys.length cx nw hnl hnw hn1 hle hbytes (Nat.zero_le _)
                    refine ⟨v', w', (append_types ht (elemOf_parts he1) _ _ _ _ _ _ w).trans hrun, ?_⟩
                    rcases hown.2 with ⟨rfl, hn0⟩ | ⟨g, cap, cur, rfl, _, hg, hnc', hcm, hcs, htk⟩
                    · exact absurd (hnil.1 rfl).1 (by simp)
                    · have := Stp.regrow (zs := xs.take n ++ ys) h hl (w' := w') (blk := g) (c' := cap) (cells := cur) ⟨hgr.os, hgr.tape, hgr.output, hgr.size, fun k hk hne => hgr.block k hk (by simpa [Value.ownBlock] using hne)⟩
                        (by simpa [Value.ownBlock] using hblk) h0 hg hcs (by rw [hlen]; exact hnc') hcm ?_ (l :: r)
                      · rw [hlen] at this
                        exact this
                      · have hk : ∀ k, k < (n + ys.length) * sz' → cur[k]? = (cells.toList.take (n * sz') ++ nw)[k]? := by
                          intro k hk
                          rw [← htk, List.getElem?_take, if_pos hk, Array.getElem?_toList]
                        have hcl : (cells.toList.take (n * sz')).length = n * sz' := hown0.1
                        refine row_append (g5.take n) hxl hnrow (fun k hk' => ?_) (fun k => ?_)
                        · have : k < (n + ys.length) * sz' := by rw [Nat.add_mul]; omega
                          show cur[k]? = cells[k]?
                          rw [hk k this, List.getElem?_append_left (by rw [hcl]; exact hk'), List.getElem?_take, if_pos hk', Array.getElem?_toList]
                        · by_cases hkl : k < ys.length * sz'
                          · left
                            show cur[n * sz' + k]? = nw[k]?
                            rw [hk _ (by rw [Nat.add_mul]; omega), List.getElem?_append_right (by rw [hcl]; omega), hcl, Nat.add_sub_cancel_left]
                          · right; omega
                · simp at hd
              · simp at hd
            · simp at hd
          · simp at hd
        · simp at hd
    · simp at hd
  · simp at hd
end
end Go.Proofs.YtfknpnkdedckhaaGreatDoorT
