/- The interpreter over trees: its words. (No program in sight: sound for any program of the model; the proof stands in the texts behind.) -/
import Derived.WalkKit
import Derived.RowKit
import Derived.KernelRfl
namespace Go.Proofs.YthcaodlfnlhfbaaDoorT
open Go
set_option linter.unusedVariables false

/-- A key of the store: where it was made (a number of the code's place), and which one of those made there. -/
abbrev Loc := Nat × Nat

/-- Values as trees. s: plain, no address in it; sl: a slice that is only read (the cells of an element, the elements); own, ptr, eptr, it: what is the call's own; ep: a pointer to cells that are only read; cown, cbox: owned things by value, at a call's border. -/
inductive T where
  | s (v : Value)
  | agg (cs : List T)
  | tup (cs : List T)
  | ifc (t : TypeId) (x : T)
  | sl (sz : Nat) (xs : List T)
  | own (l : Loc)
  | ptr (l : Loc) (off : Nat)
  | ep (cs : List T)
  | eptr (l : Loc) (sz i off : Nat)
  | fn (f : Fn) (fs cs : List T)
  | it (l : Loc)
  | cown (e : TypeId) (sz : Nat) (xs : List T)
  | cbox (ty : TypeId) (cs : List T)
  | dead
  deriving Inhabited

/-- What is the call's own in memory. -/
inductive O where
  | box (ty : TypeId) (cs : List T)
  | arr (e : TypeId) (sz : Nat) (xs : List T)
  | iter (b : ByteArray) (pos : Nat)
  deriving Inhabited

structure St where
  τ : Nat → T
  σ : Loc → Option O
  cnt : Nat → Nat
  nt : Nat

/-- What an operation does. -/
structure Dl where
  v : T
  upd : List (Loc × Option O)
  bump : List Nat
  rd : List Loc
  deriving Inhabited

def T.cells : T → List T
  | .agg cs => cs
  | x => [x]
/-- A value that may stand in a cell or be stored: no tuple, nothing unknown, no iterator. -/
def T.ok1 : T → Bool
  | .dead | .tup _ | .cown .. | .cbox .. | .it _ => false
  | _ => true
def plainV : Value → Bool
  | .bool _ | .int .. | .float .. | .string _ | .pointer none | .slice none 0 0 | .map none | .chan none | .nilFunc => true
  | .func _ a b => a.isEmpty && b.isEmpty
  | _ => false
/-- nil of an interface: type 0. -/
def nilI : T := .ifc 0 .dead
def plainI : Value → Bool
  | .nilIface => true
  | v => plainV v
def ofV : Value → T
  | .nilIface => nilI
  | v => .s v
def szok (sz n : Nat) (xs : List T) : Bool := decide (sz = n) || xs.isEmpty

/-! ### Types -/
section
variable (P : Program)
def aggOf (t : TypeId) : Option Bool := match P.underlying t with
  | some (.struct _) | some (.array _ _) => some true
  | some _ => some false
  | none => none
def szOf (t : TypeId) : Option Nat := (P.info? t).map (·.size)
def bytesOf (t : TypeId) : Option Nat := (P.info? t).map (·.bytes)
def zeroFits (d : Option TypeDesc) (z : Value) : Bool := match d, z with
  | some (.struct _), .agg _ | some (.array _ _), .agg _ => true
  | some (.struct _), _ | some (.array _ _), _ => false
  | some _, .agg _ => false
  | some _, .tuple _ => false
  | some _, _ => true
  | none, _ => false
def zeroOf (t : TypeId) : Option (List T) := match P.info? t with
  | some i => match i.zero with
    | some z => if z.cells.toList.all plainI && decide (z.cells.size = i.size) && zeroFits (P.underlying t) z then some (z.cells.toList.map ofV) else none
    | none => none
  | none => none
/-- A field's place, its cells and its type. -/
def fieldOf (t : TypeId) (i : Nat) : Option (Nat × Nat × TypeId) := match P.underlying t with
  | some (.struct fs) => match fs[i]? with
    | some f => match szOf P f.type with
      | some n => if n = 0 then none else some (f.offset, n, f.type)
      | none => none
    | none => none
  | _ => none
def elemOf (t : TypeId) : Option TypeId := match P.underlying t with
  | some (.slice e) => some e
  | _ => none
/-- A value of a type out of cells. -/
def ofCells (t : TypeId) (cs : List T) : Option T := match aggOf P t, szOf P t with
  | some true, some n => if n ≤ cs.length then some (.agg (cs.take n)) else none
  | some false, some n => if n = 1 then cs.head? else none
  | _, _ => none
end
/-- An empty slice bears its element's size. -/
def canC (P : Program) (t : TypeId) : T → T
  | .sl sz xs => if sz = 0 then (match P.underlying t, xs with
    | some (.slice e), [] => (match szOf P e with | some n => .sl n [] | none => .sl sz xs)
    | _, _ => .sl sz xs) else .sl sz xs
  | x => x
def leafT (P : Program) : Nat → TypeId → List TypeId
  | 0, t => [t]
  | d + 1, t => match P.underlying t with
    | some (.struct fs) => fs.toList.flatMap fun f => leafT P d f.type
    | some (.array n e) => (List.replicate n (leafT P d e)).flatten
    | _ => [t]
def canL (P : Program) : List TypeId → List T → List T
  | t :: ts, c :: cs => canC P t c :: canL P ts cs
  | _, cs => cs
def canT (P : Program) (t : TypeId) : T → T
  | .agg cs => .agg (canL P (leafT P 6 t) cs)
  | x => canC P t x
def canA (P : Program) (f : FuncId) (args : List T) : List T := match P.funcs[f]? with
  | some fn => if fn.params.size = args.length then List.zipWith (canT P) fn.params.toList args else args
  | none => args
def splice (cs : List T) (off : Nat) (new : List T) : List T := cs.take off ++ new ++ cs.drop (off + new.length)

/-! ### Turned for a call: frozen (read only), closed (handed over), opened -/
section
variable (σ : Loc → Option O)
mutual
def frz : T → Option (T × List Loc)
  | .s (.slice none 0 0) => some (.sl 0 [], [])
  | .s v => some (.s v, [])
  | .agg cs => match frzL cs with | some (cs', r) => some (.agg cs', r) | none => none
  | .own l => match σ l with
    | some (.arr _ sz xs) => some (.sl sz xs, [l])
    | _ => none
  | .sl sz xs => some (.sl sz xs, [])
  | .ifc t x => some (.ifc t x, [])
  | .ep cs => some (.ep cs, [])
  | _ => none
def frzL : List T → Option (List T × List Loc)
  | [] => some ([], [])
  | x :: r => match frz x, frzL r with
    | some (x', a), some (r', b) => some (x' :: r', a ++ b)
    | _, _ => none
end
mutual
def clsT (rec : List T → Option (List T × List Loc)) : T → Option (T × List Loc)
  | .s v => some (.s v, [])
  | .agg cs => match clsTL rec cs with | some (cs', r) => some (.agg cs', r) | none => none
  | .tup cs => match clsTL rec cs with | some (cs', r) => some (.tup cs', r) | none => none
  | .fn f fs cs => match clsTL rec fs, clsTL rec cs with | some (fs', a), some (cs', b) => some (.fn f fs' cs', a ++ b) | _, _ => none
  | .own l => match σ l with
    | some (.arr e sz xs) => some (.cown e sz xs, [l])
    | _ => none
  | .ptr l off => if off = 0 then match σ l with
    | some (.box ty cs) => match rec cs with | some (cs', r) => some (.cbox ty cs', l :: r) | none => none
    | _ => none
    else none
  | .sl sz xs => some (.sl sz xs, [])
  | .ifc t x => some (.ifc t x, [])
  | .ep cs => some (.ep cs, [])
  | _ => none
def clsTL (rec : List T → Option (List T × List Loc)) : List T → Option (List T × List Loc)
  | [] => some ([], [])
  | x :: r => match clsT rec x, clsTL rec r with
    | some (x', a), some (r', b) => some (x' :: r', a ++ b)
    | _, _ => none
end
def clsL : Nat → List T → Option (List T × List Loc)
  | 0 => clsTL σ fun _ => none
  | d + 1 => clsTL σ (clsL d)
def cls (t : T) : Option (T × List Loc) := clsT σ (clsL σ 4) t
end
section
variable (key : Nat → Loc)
mutual
def opn : Nat → T → T × Nat × List (Loc × O)
  | i, .cown e sz xs => (.own (key i), i + 1, [(key i, .arr e sz xs)])
  | i, .cbox ty cs => match opnL (i + 1) cs with | (cs', j, u) => (.ptr (key i) 0, j, (key i, .box ty cs') :: u)
  | i, .agg cs => match opnL i cs with | (cs', j, u) => (.agg cs', j, u)
  | i, .tup cs => match opnL i cs with | (cs', j, u) => (.tup cs', j, u)
  | i, .fn f fs cs => match opnL i fs with | (fs', j, u) => match opnL j cs with | (cs', k, u') => (.fn f fs' cs', k, u ++ u')
  | i, x => (x, i, [])
def opnL : Nat → List T → List T × Nat × List (Loc × O)
  | i, [] => ([], i, [])
  | i, x :: r => match opn i x with | (x', j, u) => match opnL j r with | (r', k, u') => (x' :: r', k, u ++ u')
end
end

def killL (r : List Loc) : List (Loc × Option O) := r.map fun l => (l, none)

/-! ### Operations -/
def pv (x : T) : Option Dl := some ⟨x, [], [], []⟩
def opd (S : St) : Operand → T
  | .tmp t => S.τ t
  | .const v => if plainI v then ofV v else .dead
  | .func f => .s (.func (.func f) #[] #[])
  | .global _ => .dead
def tb (b : Bool) : T := .s (.bool b)
def ti (n : Int) : T := .s (.int .i64 n)

section
variable (P : Program)
def evLoad (S : St) (t : TypeId) : T → Option Dl
  | .ptr l off => match S.σ l with
    | some (.box _ cs) => match ofCells P t (cs.drop off) with | some x => some ⟨x, [], [], [l]⟩ | none => none
    | _ => none
  | .ep cs => match ofCells P t cs with | some x => pv x | none => none
  | .eptr l sz i off => match S.σ l with
    | some (.arr _ sz' xs) => match xs[i]? with
      | some x => if x.ok1 && decide (sz' = sz) then (match ofCells P t (x.cells.drop off) with | some y => some ⟨y, [], [], [l]⟩ | none => none) else none
      | none => none
    | _ => none
  | _ => none
/-- Frozen, as a value of a type. -/
def frzC (t : TypeId) (σ : Loc → Option O) (x : T) : Option (T × List Loc) := match frz σ x with
  | some (y, r) => some (canT P t y, r)
  | none => none
def evStore (S : St) (t : TypeId) (v : T) : T → Option Dl
  | .ptr l off => match S.σ l, szOf P t with
    | some (.box ty cs), some n => if v.ok1 && decide (v.cells.length = n) && decide (off + n ≤ cs.length) then some ⟨.dead, [(l, some (.box ty (splice cs off v.cells)))], [], [l]⟩ else none
    | _, _ => none
  | .eptr l sz' i off => match S.σ l, szOf P t, frzC P t S.σ v with
    | some (.arr e sz xs), some n, some (w, r) => match xs[i]? with
      | some x => if w.ok1 && x.ok1 && decide (sz' = sz) && decide (w.cells.length = n) && decide (off + n ≤ x.cells.length) && !r.contains l then
          (match x with
          | .agg cs => some ⟨.dead, killL r ++ [(l, some (.arr e sz (xs.set i (.agg (splice cs off w.cells)))))], [], l :: r⟩
          | _ => match w with
            | .agg _ => none
            | _ => some ⟨.dead, killL r ++ [(l, some (.arr e sz (xs.set i w)))], [], l :: r⟩) else none
      | none => none
    | _, _, _ => none
  | _ => none
def evFieldAddr (t : TypeId) (i : Nat) (x : T) : Option T := match fieldOf P t i with
  | some (o, n, _) => match x with
    | .ptr l off => some (.ptr l (off + o))
    | .ep cs => some (.ep (cs.drop o))
    | .eptr l sz j off => some (.eptr l sz j (off + o))
    | _ => none
  | none => none
def evField (t : TypeId) (i : Nat) (x : T) : Option T := match fieldOf P t i with
  | some (o, n, ft) => match x with
    | .agg cs => ofCells P ft (cs.drop o)
    | _ => none
  | none => none
def evIndexAddr (S : St) (t : TypeId) (x i : T) : Option Dl := match elemOf P t, i with
  | some e, .s (.int _ n) => match szOf P e with
    | some sz => match x with
      | .sl sz' xs => if szok sz' sz xs then (if 0 ≤ n ∧ n < xs.length then (match xs[n.toNat]? with | some y => if y.ok1 then pv (.ep y.cells) else none | none => none) else none) else none
      | .own l => (match S.σ l with
        | some (.arr _ _ xs) => if 0 ≤ n ∧ n < xs.length then some ⟨.eptr l sz n.toNat 0, [], [], [l]⟩ else none
        | _ => none)
      | _ => none
    | none => none
  | _, _ => none
def byteAt (b : ByteArray) (i : Nat) : Int := ((b.data.toList.getD i 0).toNat : Int)
def evIndex (t : TypeId) (x i : T) : Option T := match x, i with
  | .s (.string b), .s (.int _ n) => match P.underlying t with
    | some .string => if 0 ≤ n ∧ n < b.size then some (.s (.int .u8 (byteAt b n.toNat))) else none
    | _ => none
  | .agg cs, .s (.int _ n) => match P.underlying t with
    | some (.array len e) => match szOf P e with
      | some sz => if 0 ≤ n ∧ n < len then ofCells P e (cs.drop (n.toNat * sz)) else none
      | none => none
    | _ => none
  | _, _ => none
/-- '==' of cells of a type of whole numbers, bools, strings and structs of these. -/
def eqT : Nat → TypeId → List T → List T → Option Bool
  | 0, _, _, _ => none
  | d + 1, t, xs, ys => match P.underlying t with
    | some .bool => match xs, ys with | [.s (.bool a)], [.s (.bool b)] => some (a == b) | _, _ => none
    | some (.int _) => match xs, ys with | [.s (.int k a)], [.s (.int k' b)] => if k = k' then some (a == b) else none | _, _ => none
    | some .string => match xs, ys with | [.s (.string a)], [.s (.string b)] => some (decide (a = b)) | _, _ => none
    | some (.struct fs) => if P.stoodInHeld t then none else
        fs.toList.foldr (fun f acc => match szOf P f.type with
          | some n => if f.name = "_" then none else match eqT d f.type ((xs.drop f.offset).take n) ((ys.drop f.offset).take n), acc with
            | some a, some b => some (a && b)
            | _, _ => none
          | none => none) (some true)
    | _ => none
def cmpI (op : BinOp) (k : IntKind) (a b : Int) : Option T := match op with
  | .add => some (.s (.int k (k.wrap (a + b))))
  | .sub => some (.s (.int k (k.wrap (a - b))))
  | .mul => some (.s (.int k (k.wrap (a * b))))
  | .quo => if b = 0 then none else some (.s (.int k (k.wrap (a.tdiv b))))
  | .rem => if b = 0 then none else some (.s (.int k (a.tmod b)))
  | .eql => some (tb (decide (a = b)))
  | .neq => some (tb (!decide (a = b)))
  | .lss => some (tb (decide (a < b)))
  | .leq => some (tb (decide (a ≤ b)))
  | .gtr => some (tb (decide (b < a)))
  | .geq => some (tb (decide (b ≤ a)))
  | _ => none
def cmpS (op : BinOp) (a b : ByteArray) : Option T := match op with
  | .add => if ((a.size + b.size : Nat) : Int) ≤ 9223372036854775807 then some (.s (.string (a ++ b))) else none
  | .eql => some (tb (decide (a = b)))
  | .neq => some (tb (!decide (a = b)))
  | .lss => some (tb (Op.bytesLess a.toList b.toList))
  | .leq => some (tb (Op.bytesLess a.toList b.toList || decide (a = b)))
  | .gtr => some (tb (!(Op.bytesLess a.toList b.toList || decide (a = b))))
  | .geq => some (tb (!Op.bytesLess a.toList b.toList))
  | _ => none
/-- Is a value the nil of its type? -/
def nilT : T → Option Bool
  | .s (.pointer none) | .s .nilFunc | .s (.slice none 0 0) => some true
  | .ptr _ _ | .ep _ | .eptr _ _ _ _ | .own _ | .fn _ _ _ => some false
  | .s (.func _ _ _) => some false
  | _ => none
def eqOp (op : BinOp) (b : Bool) : Option T := match op with
  | .eql => some (tb b)
  | .neq => some (tb (!b))
  | _ => none
def constB : Operand → Bool
  | .const _ => true
  | _ => false
/-- The type and the nil fit ('== nil'). -/
def nilFits (t : TypeId) (x : T) : Bool := match P.underlying t, x with
  | some (.pointer _), .s (.pointer none) | some (.func ..), .s .nilFunc | some (.slice _), .s (.slice none 0 0) => true
  | _, _ => false
def nonFits (t : TypeId) (x : T) : Bool := match P.underlying t, x with
  | some (.pointer _), .ptr _ _ | some (.pointer _), .ep _ | some (.pointer _), .eptr _ _ _ _ => true
  | some (.slice _), .own _ => true
  | some (.func ..), .fn _ _ _ | some (.func ..), .s (.func _ _ _) => true
  | _, _ => false
def evBin (op : BinOp) (t : TypeId) (ox oy : Operand) (x y : T) : Option T := match x, y with
  | .s (.int k a), .s (.int k' b) => if k = k' then cmpI op k a b else none
  | .s (.string a), .s (.string b) => cmpS op a b
  | .s (.bool a), .s (.bool b) => match P.underlying t with | some .bool => eqOp op (a == b) | _ => none
  | .agg xs, .agg ys => if P.eqGuardType P.depth t || aggOf P t != some true then none else match eqT P 20 t xs ys with | some b => eqOp op b | none => none
  | .ifc a _, .ifc b _ => match P.underlying t with
    | some (.interface _) => if constB oy && decide (b = 0) then eqOp op (decide (a = 0)) else if constB ox && decide (a = 0) then eqOp op (decide (b = 0)) else none
    | _ => none
  | x, y => if nilFits P t y && (constB ox || constB oy) then (if nilFits P t x then eqOp op true else if nonFits P t x then eqOp op false else none)
      else if nilFits P t x && (constB ox || constB oy) && nonFits P t y then eqOp op false else none
def evUn (op : UnOp) : T → Option T
  | .s (.int k a) => match op with | .neg => some (.s (.int k (k.wrap (0 - a)))) | _ => none
  | .s (.bool b) => match op with | .not => some (tb (!b)) | _ => none
  | _ => none
def evConv (src dst : TypeId) (x : T) : Option T := match P.underlying src, P.underlying dst, x with
  | some _, some (.int k), .s (.int _ n) => some (.s (.int k (k.wrap n)))
  | some _, some .string, .s (.string b) => some (.s (.string b))
  | some _, some .string, .s (.int _ n) => some (.s (.string (Utf8.encode n)))
  | _, _, _ => none
def bound (o : Option T) (dflt mx : Nat) : Option Nat := match o with
  | none => some dflt
  | some (.s (.int _ n)) => if 0 ≤ n ∧ n ≤ mx then some n.toNat else none
  | _ => none
def evSlice (S : St) (site : Nat) (t : TypeId) (x : T) (lo hi : Option T) : Option Dl := match x, P.underlying t with
  | .s (.string b), some .string => match bound hi b.size b.size with
    | some h => match bound lo 0 h with | some l => pv (.s (.string (b.extract l h))) | none => none
    | none => none
  | .sl sz xs, some (.slice e) => match szOf P e with
    | some n => if szok sz n xs then (match bound hi xs.length xs.length with
      | some h => match bound lo 0 h with | some l => pv (.sl sz ((xs.take h).drop l)) | none => none
      | none => none) else none
    | none => none
  | .own l, some (.slice e) => match szOf P e, S.σ l with
    | some _, some (.arr e' sz xs) => match bound hi xs.length xs.length with
      | some h => match bound lo 0 h with
        | some k => if k = 0 then some ⟨.own (l.1, S.cnt l.1), [(l, none), ((l.1, S.cnt l.1), some (.arr e' sz (xs.take h)))], [l.1], [l]⟩ else none
        | none => none
      | none => none
    | _, _ => none
  | .s (.slice none 0 0), some (.slice e) => match szOf P e with
    | some _ => match bound hi 0 0 with
      | some h => match bound lo 0 h with | some _ => pv (.s (.slice none 0 0)) | none => none
      | none => none
    | none => none
  | _, _ => none
def ifaceT (t : TypeId) : Option Bool := match P.underlying t with
  | some (.interface _) => some true
  | some _ => some false
  | none => none
def zeroT (t : TypeId) : Option T := match zeroOf P t with
  | some cs => ofCells P t cs
  | none => none
def evAssert (xt at_ : TypeId) (ok : Bool) (x : T) : Option T := if ifaceT P at_ = some false ∧ at_ ≠ 0 then
    (match x with
    | .ifc t y => if t = at_ then some (if ok then .tup [y, tb true] else y)
        else if ok then match zeroT P at_ with | some z => some (.tup [z, tb false]) | none => none else none
    | _ => none)
  else none
/-- Do all fields' types have a row? -/
def placesOk (t : TypeId) : Bool := match P.underlying t with
  | some (.struct fs) => fs.toList.all fun f => (P.info? f.type).isSome
  | _ => false
/-- Parts laid into cells. -/
def fillT (t : TypeId) : List (Nat × T) → List T → Option (List T)
  | [], cs => some cs
  | (i, x) :: r, cs => match fieldOf P t i with
    | some (o, n, _) => if x.ok1 && decide (x.cells.length = n) && decide (o + n ≤ cs.length) then fillT t r (splice cs o x.cells) else none
    | none => none
def setAll (n : Nat) : List (Nat × T) → List T → Option (List T)
  | [], xs => some xs
  | (i, x) :: r, xs => if x.ok1 && decide (x.cells.length = n) && decide (i < xs.length) then setAll n r (xs.set i x) else none
/-- The elements of what is appended. -/
def srcOf (σ : Loc → Option O) (sz : Nat) : T → Option (List T × List Loc)
  | .sl sz' ys => if szok sz' sz ys then some (ys, []) else none
  | .own l => match σ l with
    | some (.arr _ sz' ys) => if sz' = sz then some (ys, [l]) else none
    | _ => none
  | .s (.slice none 0 0) => some ([], [])
  | _ => none
def evAppend (S : St) (site : Nat) (t : TypeId) (tys : Option TypeId) (s x : T) : Option Dl := match elemOf P t, tys with
  | some e, some t1 => match elemOf P t1, szOf P e, bytesOf P e, zeroOf P e with
    | some _, some sz, some by_, some z => if sz = 0 ∨ by_ = 0 then none else match srcOf S.σ sz x with
      | some (ys, r) => if ys.all T.ok1 then (match s with
        | .s (.slice none 0 0) => if ys.length * by_ ≤ 140737488355328 then
            (match ys with
            | [] => some ⟨.s (.slice none 0 0), [], [], r⟩
            | _ => some ⟨.own (site, S.cnt site), [((site, S.cnt site), some (.arr e sz ys))], [site], r⟩) else none
        | .own l => match S.σ l with
          | some (.arr e' sz' xs) => if e' = e ∧ sz' = sz ∧ (xs.length + ys.length) * by_ ≤ 140737488355328 then
              some ⟨.own (l.1, S.cnt l.1), [(l, none), ((l.1, S.cnt l.1), some (.arr e sz (xs ++ ys)))], [l.1], l :: r⟩ else none
          | _ => none
        | _ => none) else none
      | none => none
    | _, _, _, _ => none
  | _, _ => none
def lenT (σ : Loc → Option O) : T → Option (Int × List Loc)
  | .s (.string b) => some (b.size, [])
  | .sl _ xs => some (xs.length, [])
  | .own l => match σ l with | some (.arr _ _ xs) => some (xs.length, [l]) | _ => none
  | .s (.slice none 0 0) => some (0, [])
  | _ => none
def evLen (σ : Loc → Option O) (t : Option TypeId) (x : T) : Option Dl := match t with
  | some t => match P.underlying t with
    | some .string => match x with | .s (.string b) => pv (ti b.size) | _ => none
    | some (.slice _) => match x with | .s (.string _) => none | x => match lenT σ x with | some (n, r) => some ⟨ti n, [], [], r⟩ | none => none
    | some (.array n _) => pv (ti n)
    | _ => none
  | none => none
def evMinMax (mx : Bool) : List T → Option T
  | [.s (.int k a), .s (.int _ b)] => some (.s (.int k (if mx then (if a < b then b else a) else (if b < a then b else a))))
  | _ => none

/-! ### A call -/
/-- An argument, as the one called sees it: what is moved, what is read. -/
def argC (σ : Loc → Option O) (mv : Bool) : T → Option (T × List Loc × List Loc)
  | .ptr l off => match cls σ (.ptr l off) with | some (t, m) => some (t, m, []) | none => none
  | .fn f fs cs => match cls σ (.fn f fs cs) with | some (t, m) => some (t, m, []) | none => none
  | .own l => if mv then (match cls σ (.own l) with | some (t, m) => some (t, m, []) | none => none)
      else match frz σ (.own l) with | some (t, r) => some (t, [], r) | none => none
  | x => match frz σ x with | some (t, r) => some (t, [], r) | none => none
def argCL (σ : Loc → Option O) (mv : Bool) : List T → Option (List T × List Loc × List Loc)
  | [] => some ([], [], [])
  | x :: r => match argC σ mv x, argCL σ mv r with
    | some (x', m, a), some (r', m', a') => some (x' :: r', m ++ m', a ++ a')
    | _, _ => none
def nodupL : List Loc → Bool
  | [] => true
  | l :: r => !r.contains l && nodupL r
/-- What comes back of an argument that was moved: the objects at their old keys, what lies in them at new ones. -/
def backC (key : Nat → Loc) (i : Nat) : List T → List T → Option (Nat × List (Loc × O))
  | [], [] => some (i, [])
  | .ptr l _ :: r, .cbox ty cs :: r' => match opnL key i cs with | (cs', j, u) => match backC key j r r' with
    | some (k, u') => some (k, (l, .box ty cs') :: u ++ u')
    | none => none
  | .ptr _ _ :: _, _ :: _ => none
  | _ :: r, _ :: r' => backC key i r r'
  | _, _ => none
def backT (key : Nat → Loc) (mv : Bool) (i : Nat) : T → T → Option (Nat × List (Loc × O))
  | .ptr l _, .cbox ty cs => match opnL key i cs with | (cs', j, u) => some (j, (l, .box ty cs') :: u)
  | .own l, .cown e sz xs => if mv then some (i, [(l, .arr e sz xs)]) else none
  | .fn _ _ cs, .fn _ _ cs' => backC key i cs cs'
  | _, _ => some (i, [])
def backL (key : Nat → Loc) (mv : Bool) (i : Nat) : List T → List T → Option (Nat × List (Loc × O))
  | [], [] => some (i, [])
  | x :: r, y :: s => match backT key mv i x y with
    | some (j, u) => match backL key mv j r s with | some (k, u') => some (k, u ++ u') | none => none
    | none => none
  | _, _ => none
def likeB : O → O → Bool
  | .box .., .box .. => true
  | .arr e sz xs, .arr e' sz' xs' => decide (e = e') && decide (sz = sz') && decide (xs.length = xs'.length)
  | .iter .., .iter .. => true
  | _, _ => false
mutual
def noRo : T → Bool
  | .s _ => true
  | .agg cs => noRoL cs
  | .tup cs => noRoL cs
  | _ => false
def noRoL : List T → Bool
  | [] => true
  | x :: r => noRo x && noRoL r
end
def ckey (site : Nat) (cnt : Nat → Nat) (j : Nat) : Loc := (site + 1 + j, cnt (site + 1 + j))
def evCall (S : St) (call : FuncId → List T → Option (T × List T)) (mv : FuncId → Bool) (site : Nat) (f : FuncId) (args : List T) : Option Dl :=
  match argCL S.σ (mv f) args with
  | some (cargs, m, r) => if nodupL m && r.all (fun l => !m.contains l) then
      match call f cargs with
      | some (res, outs) => match backL (ckey site S.cnt) (mv f) 0 args outs with
        | some (j, u) => match opn (ckey site S.cnt) j res with
          | (res', k, u') =>
            let keep := r.isEmpty || (noRo res && m.isEmpty && u.isEmpty)
            if decide (k ≤ 62) && u.all (fun e => match S.σ e.1 with | some o => likeB o e.2 | none => true) then
              some ⟨res', killL (m ++ if keep then [] else r) ++ (u ++ u').map (fun e => (e.1, some e.2)), (List.range k).map (site + 1 + ·), m ++ r ++ u.map (·.1)⟩
            else none
        | none => none
      | none => none
    else none
  | none => none
end

/-- A method of a type's own, with a receiver that is a value. -/
def methodOf (P : Program) (t : TypeId) (name : String) : Option FuncId := match P.info? t with
  | some i => match i.methods.find? (·.name == name) with
    | some m => if m.path.toList.isEmpty then (match m.func, P.underlying t with
      | some (g, false), some (.pointer _) => none
      | some (g, false), some _ => some g
      | _, _ => none) else none
    | none => none
  | none => none
/-- The site of operation i of region id. -/
def siteOf (id i : Nat) : Nat := 1000 + (id * 256 + i) * 64
def optAll {α β : Type} (f : α → Option β) : List α → Option (List β)
  | [] => some []
  | x :: r => match f x, optAll f r with | some y, some s => some (y :: s) | _, _ => none

def evOp (P : Program) (call : FuncId → List T → Option (T × List T)) (mv : FuncId → Bool) (site : Nat) (S : St) (o : Oper) : Option Dl :=
  match o.op with
  | .move x | .assign x => pv (opd S x)
  | .pick c a b => match opd S c with
    | .s (.bool t) => match opd S a, opd S b with
      | .s (.bool p), .s (.bool q) => pv (tb (bif t then p else q))
      | p, q => pv (if t then p else q)
    | _ => none
  | .alloc t => match zeroOf P t with | some cs => some ⟨.ptr (site, S.cnt site) 0, [((site, S.cnt site), some (.box t cs))], [site], []⟩ | none => none
  | .box t x => if (opd S x).ok1 then some ⟨.ptr (site, S.cnt site) 0, [((site, S.cnt site), some (.box t (opd S x).cells))], [site], []⟩ else none
  | .build t ps => if placesOk P t then match zeroOf P t with
      | some z => match fillT P t (ps.toList.map fun p => (p.1, opd S p.2)) z with | some cs => pv (.agg cs) | none => none
      | none => none
    else none
  | .buildSlice t len ps => match elemOf P t with
    | some e => match szOf P e, zeroOf P e with
      | some sz, some z => if sz = 0 ∨ len = 0 ∨ 16777216 < len * sz then none else match ofCells P e z with
        | some ze => match frzL S.σ (ps.toList.map fun p => opd S p.2) with
          | some (ys, r) => match setAll sz ((ps.toList.map (·.1)).zip (ys.map (canT P e))) (List.replicate len ze) with
            | some xs => some ⟨.own (site, S.cnt site), killL r ++ [((site, S.cnt site), some (.arr e sz xs))], [site], r⟩
            | none => none
          | none => none
        | none => none
      | _, _ => none
    | none => none
  | .load t a => evLoad P S t (opd S a)
  | .store t a x => evStore P S t (opd S x) (opd S a)
  | .nilCheck x => match opd S x with
    | .ptr l off => pv (.ptr l off)
    | .ep cs => pv (.ep cs)
    | .eptr l sz i off => pv (.eptr l sz i off)
    | .ifc t y => if t = 0 then none else pv (.ifc t y)
    | .fn (.func f) fs cs => pv (.fn (.func f) fs cs)
    | .s (.func (.func f) a b) => pv (.s (.func (.func f) a b))
    | _ => none
  | .binOp op t x y _ => match evBin P op t x y (opd S x) (opd S y) with | some v => pv v | none => none
  | .unOp op _ x => match evUn op (opd S x) with | some v => pv v | none => none
  | .convert a b x => match evConv P a b (opd S x) with | some v => pv v | none => none
  | .makeInterface t x => match P.underlying t with
    | some (.interface _) | none => none
    | some _ => match frzC P t S.σ (opd S x) with
      | some (y, r) => if y.ok1 && decide (t ≠ 0) then some ⟨.ifc t y, killL r, [], r⟩ else none
      | none => none
  | .makeFunc f fs cs => if (fs.toList ++ cs.toList).all (fun x => (opd S x).ok1) then pv (.fn f (fs.toList.map (opd S)) (cs.toList.map (opd S))) else none
  | .slice t x lo hi none => evSlice P S site t (opd S x) (lo.map (opd S)) (hi.map (opd S))
  | .fieldAddr t x i => match evFieldAddr P t i (opd S x) with | some v => pv v | none => none
  | .field t x i => match evField P t i (opd S x) with | some v => pv v | none => none
  | .indexAddr t x i => evIndexAddr P S t (opd S x) (opd S i)
  | .index t x i => match evIndex P t (opd S x) (opd S i) with | some v => pv v | none => none
  | .range t x => match P.underlying t, opd S x with
    | some .string, .s (.string b) => some ⟨.it (site, S.cnt site), [((site, S.cnt site), some (.iter b 0))], [site], []⟩
    | _, _ => none
  | .next x true => match opd S x with
    | .it l => match S.σ l with
      | some (.iter b pos) => if pos < b.size then
          some ⟨.tup [tb true, ti pos, .s (.int .i32 (Utf8.decode b pos).1)], [(l, some (.iter b (pos + (Utf8.decode b pos).2)))], [], [l]⟩
        else some ⟨.tup [tb false], [], [], [l]⟩
      | _ => none
    | _ => none
  | .typeAssert x xt t ok => match evAssert P xt t ok (opd S x) with | some v => pv v | none => none
  | .extract x i => match opd S x with
    | .tup cs => match cs[i]? with | some v => pv v | none => none
    | _ => none
  | .call c => match c.callee with
    | .builtin .len => match c.args.toList with
      | [x] => evLen P S.σ (c.argTypes[0]?) (opd S x)
      | _ => none
    | .builtin .append => match c.args.toList with
      | [s, x] => match c.argTypes[0]? with | some t => evAppend P S site t (c.argTypes[1]?) (opd S s) (opd S x) | none => none
      | _ => none
    | .builtin .min => match evMinMax false (c.args.toList.map (opd S)) with | some v => pv v | none => none
    | .builtin .max => match evMinMax true (c.args.toList.map (opd S)) with | some v => pv v | none => none
    | .value f => match opd S f with
      | .s (.func (.func g) a b) => if a.isEmpty && b.isEmpty then evCall S call mv site g (c.args.toList.map (opd S)) else none
      | .fn (.func g) fs cs => evCall S call mv site g (fs ++ c.args.toList.map (opd S) ++ cs)
      | _ => none
    | .invoke f name => match opd S f with
      | .ifc t x => if t = 0 then none else match methodOf P t name with
        | some g => evCall S call mv site g (x :: c.args.toList.map (opd S))
        | none => none
      | _ => none
    | _ => none
  | _ => none

def putT (τ : Nat → T) (i : Nat) (t : T) : Nat → T := fun j => if j = i then t else τ j
def updL (σ : Loc → Option O) : List (Loc × Option O) → Loc → Option O
  | [] => σ
  | e :: r => updL (fun l => if l = e.1 then e.2 else σ l) r
def St.ap (S : St) (dst : Option Nat) (d : Dl) : St :=
  { S with τ := match dst with | some i => if i < S.nt then putT S.τ i d.v else S.τ | none => S.τ, σ := updL S.σ d.upd, cnt := fun s => if d.bump.contains s then S.cnt s + 1 else S.cnt s }
def guardT (ops : Array Oper) (S : St) (o : Oper) : Option Bool := match o.guard with
  | none => some true
  | some (j, want) => match ops[j]? with
    | some p => match p.dst with
      | some t => match S.τ t with | .s (.bool b) => some (b == want) | .tup [] => some false | _ => none
      | none => none
    | none => none

/-- The operations of a region, in the text's order. -/
def evOps (P : Program) (call : Nat → FuncId → List T → Option (T × List T)) (mv : FuncId → Bool) (id : Nat) (ops : Array Oper) : Nat → List Oper → St → Option St
  | _, [], S => some S
  | i, o :: r, S => match guardT ops S o with
    | some true => match evOp P (call (siteOf id i)) mv (siteOf id i) S o with
      | some d => evOps P call mv id ops (i + 1) r (S.ap o.dst d)
      | none => none
    | some false => evOps P call mv id ops (i + 1) r (S.ap o.dst ⟨.tup [], [], [], []⟩)
    | none => none
def apartL (a b : List Loc) : Bool := a.all fun l => !b.contains l
/-- Two operations may come up in either order. -/
def indep (d e : Dl) : Bool := apartL (d.upd.map (·.1)) (e.rd ++ e.upd.map (·.1)) && apartL (e.upd.map (·.1)) d.rd && d.bump.all (fun s => !e.bump.contains s)
/-- For each operation of a region the bits of those that come up before it. -/
def bitsRow (bs : List Nat) (es : List Edge) : Nat := es.foldl (fun acc e => if Region.binds .any e then acc ||| (1 <<< e.on) ||| bs.getD e.on 0 else acc) 0
def bitsGo : List Oper → List Nat → List Nat
  | [], bs => bs
  | o :: r, bs => bitsGo r (bs ++ [bitsRow bs o.after.toList])
def bitsOf (ops : Array Oper) : List Nat := bitsGo ops.toList []
/-- An operation's slots: those it looks at, that it fills. -/
def guardSlot (ops : Array Oper) (o : Oper) : List Tmp := match o.guard with
  | some (g, _) => match ops[g]? with
    | some p => p.dst.toList
    | none => []
  | none => []
def tmpsOf : List Operand → List Tmp
  | [] => []
  | .tmp t :: r => t :: tmpsOf r
  | _ :: r => tmpsOf r
def slotsOf (ops : Array Oper) (o : Oper) : List Tmp := tmpsOf o.op.operands.toList ++ guardSlot ops o ++ o.dst.toList
def inOrder (bits : List Nat) (i j : Nat) : Bool := (bits.getD i 0).testBit j || (bits.getD j 0).testBit i
/-- What one operation fills another one looks at or fills only if they are in order; edges go back. -/
def okD (bits : List Nat) (ops : Array Oper) : Bool :=
  (List.range ops.size).all fun i => match ops[i]? with
    | some o => o.after.toList.all (fun e => !Region.binds .any e || decide (e.on < i)) && (match o.op with | .select _ _ => false | _ => true) &&
        (match o.dst with
        | some t => (List.range ops.size).all fun j => decide (j = i) || inOrder bits i j || (match ops[j]? with | some p => !(slotsOf ops p).contains t | none => true)
        | none => true)
    | none => false
/-- The same, of a region that draws its order: what an operation does may not touch what another one does that need not come up before it. -/
def evOpsD (P : Program) (call : Nat → FuncId → List T → Option (T × List T)) (mv : FuncId → Bool) (id : Nat) (bits : List Nat) (ops : Array Oper) : Nat → List (Nat × Dl) → List Oper → St → Option St
  | _, _, [], S => some S
  | i, log, o :: r, S => match guardT ops S o with
    | some true => match evOp P (call (siteOf id i)) mv (siteOf id i) S o with
      | some d => if log.all (fun e => (bits.getD i 0).testBit e.1 || indep e.2 d) then evOpsD P call mv id bits ops (i + 1) ((i, d) :: log) r (S.ap o.dst d) else none
      | none => none
    | some false => evOpsD P call mv id bits ops (i + 1) ((i, ⟨.tup [], [], [], []⟩) :: log) r (S.ap o.dst ⟨.tup [], [], [], []⟩)
    | none => none

/-- A result out of the frame. -/
def evRes (P : Program) (S : St) : ResultVar → Option T
  | .tmp t => some (S.τ t)
  | .cell a t => match evLoad P S t (S.τ a) with | some d => some d.v | none => none
def outT (σ : Loc → Option O) : T → Option (T × List Loc)
  | .ptr l off => cls σ (.ptr l off)
  | .fn f fs cs => cls σ (.fn f fs cs)
  | .own l => match cls σ (.own l) with | some r => some r | none => some (.dead, [])
  | _ => some (.dead, [])
def outTL (σ : Loc → Option O) : List T → Option (List T × List Loc)
  | [] => some ([], [])
  | x :: r => match outT σ x, outTL σ r with
    | some (x', a), some (r', b) => some (x' :: r', a ++ b)
    | _, _ => none
def resT : List T → T
  | [x] => x
  | xs => .tup xs
def key0 (i : Nat) : Loc := (i, 0)
end Go.Proofs.YthcaodlfnlhfbaaDoorT
