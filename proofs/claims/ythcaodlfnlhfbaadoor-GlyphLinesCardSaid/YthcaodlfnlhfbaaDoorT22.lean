/- The interpreter over trees: what is to be shown of an operation, and of a region, so that what stands behind it holds. -/
import Derived.Test.YthcaodlfnlhfbaaDoorT21
namespace Go.Proofs.YthcaodlfnlhfbaaDoorT
open Go Go.RowKit
set_option linter.unusedVariables false

/-- Values of a kind, with what is open in them. -/
inductive Enc (β : Type) : Type 1 where
  | done (r : β)
  | ex (α : Type) (k : α → Enc β)
def Enc.some {β : Type} : Enc β → (β → Prop) → Prop
  | .done r, k => k r
  | .ex α f, k => ∃ x : α, (f x).some k
theorem Enc.some_elim {β : Type} : ∀ {e : Enc β} {k : β → Prop}, e.some k → ∃ r, k r
  | .done r, k, h => ⟨r, h⟩
  | .ex α f, k, ⟨x, h⟩ => Enc.some_elim h
def alts {β : Type} : List (Enc β) → (β → Prop) → Prop
  | [], _ => False
  | [e], k => e.some k
  | e :: r, k => e.some k ∨ alts r k
theorem alts_elim {β : Type} : ∀ {l : List (Enc β)} {k : β → Prop}, alts l k → ∃ r, k r
  | [], k, h => h.elim
  | [e], k, h => Enc.some_elim h
  | e :: x :: r, k, h => h.elim Enc.some_elim alts_elim
/-- What is told of a function: the shapes of results and elements by place; the slots that live on at a cut. -/
structure Ann where
  call : Nat → List T → List (Enc (T × List T))
  elem : Nat → List (Enc T)
  inv : Nat → List (TypeId × List (Enc T))
  cut : Nat → Option (List Nat)
def chk (b : Bool) (K : Prop) : Prop := cond b K False
theorem chk_iff {b : Bool} {K : Prop} : chk b K ↔ b = true ∧ K := by cases b <;> simp [chk]
/-- A call that is known: the function comes to this result. -/
def Runs (P : Program) (f : FuncId) (args : List T) (r : T × List T) : Prop := Enters P f ∧ Contract P f args r.1 r.2

section
variable (P : Program)
def opt {α : Type} (o : Option α) (k : α → Prop) : Prop := match o with
  | some x => k x
  | none => False
theorem opt_elim {α : Type} {o : Option α} {k : α → Prop} (h : opt o k) : ∃ x, o = some x ∧ k x := by
  cases o with
  | none => exact h.elim
  | some x => exact ⟨x, rfl, h⟩
/-- A call, from where its result is known. -/
def evCallW (S : St) (mv : Bool) (site : Nat) (args : List T) (m r : List Loc) (R : T × List T) : Option Dl := match backL (ckey site S.cnt) mv 0 args R.2 with
  | some (j, u) => match opn (ckey site S.cnt) j R.1 with
    | (res', k, u') =>
      let keep := r.isEmpty || (noRo R.1 && m.isEmpty && u.isEmpty)
      if decide (k ≤ 62) && u.all (fun e => match S.σ e.1 with | some o => likeB o e.2 | none => true) then
        some ⟨res', killL (m ++ if keep then [] else r) ++ (u ++ u').map (fun e => (e.1, some e.2)), (List.range k).map (site + 1 + ·), m ++ r ++ u.map (·.1)⟩
      else none
  | none => none
def vcCall (ann : Ann) (mv : FuncId → Bool) (site : Nat) (S : St) (g : FuncId) (args : List T) (k : Dl → Prop) : Prop := match argCL S.σ (mv g) args with
  | some (cargs, m, r) => chk (nodupL m && r.all (fun l => !m.contains l)) (alts (ann.call site (canA P g cargs)) fun R => Runs P g (canA P g cargs) R ∧ opt (evCallW S (mv g) site args m r R) k)
  | none => False
def vcBound (o : Option T) (dflt mx : Nat) (k : Nat → Prop) : Prop := match o with
  | none => k dflt
  | some (.s (.int _ n)) => (0 ≤ n ∧ n ≤ mx) ∧ k n.toNat
  | _ => False
/-- A load of an element that is known. -/
def evLoadX (t : TypeId) (l : Loc) (off : Nat) (x : T) : Option Dl := if x.ok1 then (match ofCells P t (x.cells.drop off) with | some y => some ⟨y, [], [], [l]⟩ | none => none) else none
def evStoreX (n : Nat) (l : Loc) (e : TypeId) (sz i off : Nat) (xs : List T) (w : T) (r : List Loc) (x : T) : Option Dl :=
  if w.ok1 && x.ok1 && decide (w.cells.length = n) && decide (off + n ≤ x.cells.length) && !r.contains l then
    (match x with
    | .agg cs => some ⟨.dead, killL r ++ [(l, some (.arr e sz (xs.set i (.agg (splice cs off w.cells)))))], [], l :: r⟩
    | _ => match w with
      | .agg _ => none
      | _ => some ⟨.dead, killL r ++ [(l, some (.arr e sz (xs.set i w)))], [], l :: r⟩) else none
def vcAppend (S : St) (site : Nat) (t : TypeId) (tys : Option TypeId) (s x : T) (k : Dl → Prop) : Prop := match elemOf P t, tys with
  | some e, some t1 => match elemOf P t1, szOf P e, bytesOf P e, zeroOf P e with
    | some _, some sz, some by_, some _ => chk (!decide (sz = 0 ∨ by_ = 0)) (match srcOf S.σ sz x with
      | some (ys, r) => chk (ys.all T.ok1) (match s with
        | .s (.slice none 0 0) => chk (Nat.ble (ys.length * by_) 140737488355328) (cond ys.isEmpty (k ⟨.s (.slice none 0 0), [], [], r⟩) (k ⟨.own (site, S.cnt site), [((site, S.cnt site), some (.arr e sz ys))], [site], r⟩))
        | .own l => match S.σ l with
          | some (.arr e' sz' xs) => chk (decide (e' = e) && decide (sz' = sz)) (chk (Nat.ble ((xs.length + ys.length) * by_) 140737488355328)
              (k ⟨.own (l.1, S.cnt l.1), [(l, none), ((l.1, S.cnt l.1), some (.arr e sz (xs ++ ys)))], [l.1], l :: r⟩))
          | _ => False
        | _ => False)
      | none => False)
    | _, _, _, _ => False
  | _, _ => False
def vcInv (ann : Ann) (mv : FuncId → Bool) (site : Nat) (S : St) (name : String) (t : TypeId) (x : T) (args : List T) (k : Dl → Prop) : List (TypeId × List (Enc T)) → Prop
  | [] => False
  | (t0, es) :: r => cond (Nat.beq t t0) (chk (!decide (t0 = 0)) (opt (methodOf P t0 name) fun g => alts es fun y => x = y ∧ vcCall P ann mv site S g (y :: args) k)) (vcInv ann mv site S name t x args k r)
/-- What is to be shown of an operation. -/
def vcOp (ann : Ann) (mv : FuncId → Bool) (site : Nat) (S : St) (o : Oper) (k : Dl → Prop) : Prop :=
  match o.op with
  | .binOp op t x y _ => match op, opd S x, opd S y with
    | .add, .s (.string a), .s (.string b) => (((a.size + b.size : Nat) : Int) ≤ 9223372036854775807) ∧ (k ⟨.s (.string (a ++ b)), [], [], []⟩)
    | _, _, _ => opt (evBin P op t x y (opd S x) (opd S y)) fun v => k ⟨v, [], [], []⟩
  | .index t x i => match opd S x, opd S i, P.underlying t with
    | .s (.string b), .s (.int _ n), some .string => (0 ≤ n ∧ n < b.size) ∧ k ⟨.s (.int .u8 (byteAt b n.toNat)), [], [], []⟩
    | _, _, _ => opt (evIndex P t (opd S x) (opd S i)) fun v => k ⟨v, [], [], []⟩
  | .indexAddr t x i => match elemOf P t, opd S i, opd S x with
    | some e, .s (.int _ n), .sl sz' xs => opt (szOf P e) fun sz => chk (decide (sz' = sz)) (alts (ann.elem site) fun y => (0 ≤ n ∧ xs[n.toNat]? = some y) ∧ chk y.ok1 (k ⟨.ep y.cells, [], [], []⟩))
    | some e, .s (.int _ n), .own l => opt (szOf P e) fun sz => match S.σ l with
      | some (.arr _ _ xs) => (0 ≤ n ∧ n < xs.length) ∧ k ⟨.eptr l sz n.toNat 0, [], [], [l]⟩
      | _ => False
    | _, _, _ => False
  | .load t a => match opd S a with
    | .eptr l sz i off => match S.σ l with
      | some (.arr _ sz' xs) => chk (decide (sz' = sz)) (alts (ann.elem site) fun y => xs[i]? = some y ∧ opt (evLoadX P t l off y) k)
      | _ => False
    | x => opt (evLoad P S t x) k
  | .store t a x => match opd S a with
    | .eptr l sz' i off => match S.σ l, szOf P t, frzC P t S.σ (opd S x) with
      | some (.arr e sz xs), some n, some (w, r) => chk (decide (sz' = sz)) (alts (ann.elem site) fun y => xs[i]? = some y ∧ opt (evStoreX n l e sz i off xs w r y) k)
      | _, _, _ => False
    | a => opt (evStore P S t (opd S x) a) k
  | .slice t x lo hi none => match opd S x, P.underlying t with
    | .s (.string b), some .string => vcBound (hi.map (opd S)) b.size b.size fun h => vcBound (lo.map (opd S)) 0 h fun l => k ⟨.s (.string (b.extract l h)), [], [], []⟩
    | .sl sz xs, some (.slice e) => opt (szOf P e) fun n => chk (szok sz n xs) (vcBound (hi.map (opd S)) xs.length xs.length fun h => vcBound (lo.map (opd S)) 0 h fun l => k ⟨.sl sz ((xs.take h).drop l), [], [], []⟩)
    | .own l, some (.slice e) => match szOf P e, S.σ l with
      | some _, some (.arr e' sz xs) => vcBound (hi.map (opd S)) xs.length xs.length fun h => vcBound (lo.map (opd S)) 0 h fun j => chk (decide (j = 0)) (k ⟨.own (l.1, S.cnt l.1), [(l, none), ((l.1, S.cnt l.1), some (.arr e' sz (xs.take h)))], [l.1], [l]⟩)
      | _, _ => False
    | x, _ => opt (evSlice P S site t x (lo.map (opd S)) (hi.map (opd S))) k
  | .typeAssert x xt t ok => match opd S x with
    | .ifc t' y => chk (decide (ifaceT P t = some false ∧ t ≠ 0)) (cond (Nat.beq t' t) (alts (ann.elem site) fun z => y = z ∧ k ⟨if ok then .tup [z, tb true] else z, [], [], []⟩)
        (chk ok (opt (zeroT P t) fun z => k ⟨.tup [z, tb false], [], [], []⟩)))
    | _ => False
  | .next x true => match opd S x with
    | .it l => match S.σ l with
      | some (.iter b pos) => cond (Nat.ble (pos + 1) b.size) (k ⟨.tup [tb true, ti pos, .s (.int .i32 (Utf8.decode b pos).1)], [(l, some (.iter b (pos + (Utf8.decode b pos).2)))], [], [l]⟩) (k ⟨.tup [tb false], [], [], [l]⟩)
      | _ => False
    | _ => False
  | .call c => match c.callee with
    | .builtin .append => match c.args.toList with
      | [s, x] => opt (c.argTypes[0]?) fun t => vcAppend P S site t (c.argTypes[1]?) (opd S s) (opd S x) k
      | _ => False
    | .value f => match opd S f with
      | .s (.func (.func g) a b) => chk (a.isEmpty && b.isEmpty) (vcCall P ann mv site S g (c.args.toList.map (opd S)) k)
      | .fn (.func g) fs cs => vcCall P ann mv site S g (fs ++ c.args.toList.map (opd S) ++ cs) k
      | _ => False
    | .invoke f name => match opd S f with
      | .ifc t x => vcInv P ann mv site S name t x (c.args.toList.map (opd S)) k (ann.inv site)
      | _ => False
    | _ => opt (evOp P (fun _ _ => none) mv site S o) k
  | _ => opt (evOp P (fun _ _ => none) mv site S o) k
end
section
variable {P : Program}
/-- Values of kinds that only compute. -/
theorem known_none : Known P (fun _ _ => none) := fun _ _ _ _ h => by simp at h
theorem contract_can {g : FuncId} {args : List T} {res : T} {outs : List T} (h : Contract P g (canA P g args) res outs) : Contract P g args res outs := by
  have key : ∀ (w : World) (ok : Nat → Prop) (vals : List Value) (bs : List Nat), RepXL w ok args vals bs → RepXL w ok (canA P g args) vals bs := by
    intro w ok vals bs hx
    unfold canA
    split
    · rename_i fn hf
      split
      · rename_i hl
        have : ∀ (ts : List TypeId) (xs : List T) (vs : List Value) (b : List Nat), ts.length = xs.length → RepXL w ok xs vs b → RepXL w ok (List.zipWith (canT P) ts xs) vs b := by
          intro ts
          induction ts with
          | nil => intro xs vs b hl h; cases xs with | nil => exact h | cons => simp at hl
          | cons t ts ih =>
            intro xs vs b hl h
            cases xs with
            | nil => simp at hl
            | cons x xs =>
              obtain ⟨v, vs', b1, b2, rfl, rfl, h1, h2⟩ := h
              exact ⟨v, vs', b1, b2, rfl, rfl, canT_X h1, ih xs vs' b2 (by simpa using hl) h2⟩
        exact this _ _ _ _ (by simpa using hl) hx
      · exact hx
    · exact hx
  exact fun w ok vals bs hx => h w ok vals bs (key w ok vals bs hx)
/-- A told call. -/
noncomputable def told (g : FuncId) (cargs : List T) (R : T × List T) : FuncId → List T → Option (T × List T) := fun g' c => open Classical in if g' = g ∧ c = cargs then some R else none
theorem told_known {g : FuncId} {cargs : List T} {R : T × List T} (h : Runs P g (canA P g cargs) R) : Known P (told g cargs R) := by
  intro g' c res outs he
  unfold told at he
  split at he
  · rename_i hc
    obtain ⟨rfl, rfl⟩ := hc
    injection he with he
    subst he
    exact ⟨h.1, contract_can h.2⟩
  · simp at he
theorem told_self (g : FuncId) (cargs : List T) (R : T × List T) : told g cargs R g cargs = some R := by simp [told]
/-- That an operation does something with a known call. -/
def Does (P : Program) (mv : FuncId → Bool) (site : Nat) (S : St) (o : Oper) (k : Dl → Prop) : Prop := ∃ call, Known P call ∧ ∃ d, evOp P call mv site S o = some d ∧ k d
theorem call_does {ann : Ann} {mv : FuncId → Bool} {site : Nat} {S : St} {g : FuncId} {args : List T} {k : Dl → Prop} (h : vcCall P ann mv site S g args k) : ∃ call, Known P call ∧ ∃ d, evCall S call mv site g args = some d ∧ k d := by
  unfold vcCall at h
  split at h
  · rename_i cargs m r ha
    obtain ⟨h1, h⟩ := chk_iff.1 h
    obtain ⟨R, hr, h⟩ := alts_elim h
    obtain ⟨d, hd, hk⟩ := opt_elim h
    refine ⟨told g cargs R, told_known hr, d, ?_, hk⟩
    obtain ⟨res, outs⟩ := R
    simp only [evCall, ha, h1, if_true, told_self]
    exact hd
  · exact h.elim
theorem bound_vc {o : Option T} {d m : Nat} {k : Nat → Prop} (h : vcBound o d m k) : ∃ n, bound o d m = some n ∧ k n := by
  unfold vcBound at h
  split at h
  · exact ⟨d, rfl, h⟩
  · obtain ⟨h1, h2⟩ := h
    exact ⟨_, by simp [bound, h1], h2⟩
  · exact h.elim
theorem append_vc {S : St} {site : Nat} {t : TypeId} {tys : Option TypeId} {s x : T} {k : Dl → Prop} (h : vcAppend P S site t tys s x k) : ∃ d, evAppend P S site t tys s x = some d ∧ k d := by
  unfold vcAppend at h
  split at h
  · rename_i e t1 he
    split at h
    · rename_i e1 sz by_ z he1 hsz hby hz
      obtain ⟨h1, h⟩ := chk_iff.1 h
      simp only [Bool.not_eq_true', decide_eq_false_iff_not] at h1
      split at h
      · rename_i ys r hs
        obtain ⟨h2, h⟩ := chk_iff.1 h
        split at h
        · obtain ⟨h3, h⟩ := chk_iff.1 h
          have h3 := Nat.le_of_ble_eq_true h3
          cases ys with
          | nil => exact ⟨_, by simp only [evAppend, he, he1, hsz, hby, hz, if_neg h1, hs, h2, if_true, if_pos h3], h⟩
          | cons y ys => exact ⟨_, by simp only [evAppend, he, he1, hsz, hby, hz, if_neg h1, hs, h2, if_true, if_pos h3], h⟩
        · rename_i l
          split at h
          · rename_i e' sz' xs hl
            obtain ⟨h3, h⟩ := chk_iff.1 h
            obtain ⟨h4, h⟩ := chk_iff.1 h
            simp only [Bool.and_eq_true, decide_eq_true_eq] at h3
            have h5 : e' = e ∧ sz' = sz ∧ (xs.length + ys.length) * by_ ≤ 140737488355328 := ⟨h3.1, h3.2, Nat.le_of_ble_eq_true h4⟩
            exact ⟨_, by simp only [evAppend, he, he1, hsz, hby, hz, if_neg h1, hs, h2, if_true, hl, if_pos h5], h⟩
          · exact h.elim
        · exact h.elim
      · exact h.elim
    · exact h.elim
  · exact h.elim
theorem inv_does {ann : Ann} {mv : FuncId → Bool} {site : Nat} {S : St} {name : String} {t : TypeId} {x : T} {args : List T} {k : Dl → Prop} : ∀ {l : List (TypeId × List (Enc T))}, vcInv P ann mv site S name t x args k l → t ≠ 0 ∧ ∃ g, methodOf P t name = some g ∧ ∃ call, Known P call ∧ ∃ d, evCall S call mv site g (x :: args) = some d ∧ k d
  | [], h => h.elim
  | (t0, es) :: r, h => by
    unfold vcInv at h
    cases hb : Nat.beq t t0 with
    | true =>
      rw [hb] at h
      have ht : t = t0 := Nat.eq_of_beq_eq_true hb
      subst ht
      obtain ⟨h0, h⟩ := chk_iff.1 h
      obtain ⟨g, hg, h⟩ := opt_elim h
      obtain ⟨y, rfl, h⟩ := alts_elim h
      exact ⟨by simpa using h0, g, hg, call_does h⟩
    | false =>
      rw [hb] at h
      exact inv_does h
theorem op_does {ann : Ann} {mv : FuncId → Bool} {site : Nat} {S : St} {o : Oper} {k : Dl → Prop} (h : vcOp P ann mv site S o k) : Does P mv site S o k := by
  have dflt : opt (evOp P (fun _ _ => none) mv site S o) k → Does P mv site S o k := fun h => by
    obtain ⟨d, hd, hk⟩ := opt_elim h
    exact ⟨_, known_none, d, hd, hk⟩
  have same : ∀ {d : Dl}, evOp P (fun _ _ => none) mv site S o = some d → k d → Does P mv site S o k := fun hd hk => ⟨_, known_none, _, hd, hk⟩
  unfold vcOp at h
  split at h
  · rename_i op t x y c ho
    split at h
    · rename_i a b hx hy
      obtain ⟨h1, h⟩ := h
      refine same ?_ h
      simp only [evOp, ho, hx, hy, evBin, cmpS, if_pos (h1), pv]
    · obtain ⟨v, hv, hk⟩ := opt_elim h
      refine same ?_ hk
      simp only [evOp, ho, hv, pv]
  · rename_i t x i ho
    split at h
    · rename_i b kk n hx hi hu
      refine same ?_ h.2
      simp only [evOp, ho, hx, hi, evIndex, hu, if_pos h.1, pv]
    · obtain ⟨v, hv, hk⟩ := opt_elim h
      refine same ?_ hk
      simp only [evOp, ho, hv, pv]
  · rename_i t x i ho
    split at h
    · rename_i e kk n sz' xs he hi hx
      obtain ⟨sz, hs, h⟩ := opt_elim h
      obtain ⟨h1, h⟩ := chk_iff.1 h
      obtain ⟨y, ⟨h2, h3⟩, h⟩ := alts_elim h
      obtain ⟨h4, h⟩ := chk_iff.1 h
      refine same ?_ h
      have hl := (List.getElem?_eq_some_iff.1 h3).1
      have h5 : 0 ≤ n ∧ n < (xs.length : Int) := ⟨h2, by omega⟩
      simp only [evOp, ho, evIndexAddr, he, hi, hx, hs, szok, h1, Bool.true_or, if_true, if_pos h5, h3, h4, pv]
    · rename_i e kk n l he hi hx
      obtain ⟨sz, hs, h⟩ := opt_elim h
      split at h
      · rename_i a1 a2 xs hl
        refine same ?_ h.2
        simp only [evOp, ho, evIndexAddr, he, hi, hx, hs, hl, if_pos h.1]
      · exact h.elim
    · exact h.elim
  · rename_i t a ho
    split at h
    · rename_i l sz i off ha
      split at h
      · rename_i e sz' xs hl
        obtain ⟨h1, h⟩ := chk_iff.1 h
        obtain ⟨y, h2, h⟩ := alts_elim h
        obtain ⟨d, hd, hk⟩ := opt_elim h
        refine same ?_ hk
        unfold evLoadX at hd
        split at hd
        · rename_i hy
          simp only [evOp, ho, ha, evLoad, hl, h2, hy, h1, Bool.and_self, if_true]
          exact hd
        · simp at hd
      · exact h.elim
    · obtain ⟨d, hd, hk⟩ := opt_elim h
      refine same ?_ hk
      simp only [evOp, ho, hd]
  · rename_i t a x ho
    split at h
    · rename_i l sz' i off ha
      split at h
      · rename_i e sz xs n w r hl hs hf
        obtain ⟨h1, h⟩ := chk_iff.1 h
        obtain ⟨y, h2, h⟩ := alts_elim h
        obtain ⟨d, hd, hk⟩ := opt_elim h
        refine same ?_ hk
        unfold evStoreX at hd
        split at hd
        · rename_i hy
          simp only [evOp, ho, ha, evStore, hl, hs, hf, h2]
          simp only [Bool.and_eq_true] at hy
          obtain ⟨⟨⟨⟨g1, g2⟩, g3⟩, g4⟩, g5⟩ := hy
          simp only [g1, g2, h1, g3, g4, g5, Bool.and_self, if_true]
          exact hd
        · simp at hd
      · exact h.elim
    · obtain ⟨d, hd, hk⟩ := opt_elim h
      refine same ?_ hk
      simp only [evOp, ho, hd]
  · rename_i t x lo hi ho
    split at h
    · rename_i b hx hu
      obtain ⟨h', e1, h⟩ := bound_vc h
      obtain ⟨l, e2, h⟩ := bound_vc h
      refine same ?_ h
      simp only [evOp, ho, evSlice, hx, hu, e1, e2, pv]
    · rename_i sz xs e hx hu
      obtain ⟨n, hs, h⟩ := opt_elim h
      obtain ⟨h1, h⟩ := chk_iff.1 h
      obtain ⟨h', e1, h⟩ := bound_vc h
      obtain ⟨l, e2, h⟩ := bound_vc h
      refine same ?_ h
      simp only [evOp, ho, evSlice, hx, hu, hs, h1, if_true, e1, e2, pv]
    · rename_i l e hx hu
      split at h
      · rename_i n e' sz xs hs hl
        obtain ⟨h', e1, h⟩ := bound_vc h
        obtain ⟨j, e2, h⟩ := bound_vc h
        obtain ⟨h1, h⟩ := chk_iff.1 h
        refine same ?_ h
        simp only [evOp, ho, evSlice, hx, hu, hs, hl, e1, e2, if_pos (of_decide_eq_true h1)]
      · exact h.elim
    · obtain ⟨d, hd, hk⟩ := opt_elim h
      refine same ?_ hk
      simp only [evOp, ho, hd]
  · rename_i x xt t ok ho
    split at h
    · rename_i t' y hx
      obtain ⟨h1, h⟩ := chk_iff.1 h
      have h1 := of_decide_eq_true h1
      cases hb : Nat.beq t' t with
      | true =>
        rw [hb] at h
        have ht : t' = t := Nat.eq_of_beq_eq_true hb
        subst ht
        obtain ⟨z, rfl, h⟩ := alts_elim h
        refine same ?_ h
        simp only [evOp, ho, hx, evAssert, if_pos h1, if_true, pv]
      | false =>
        rw [hb] at h
        have ht : t' ≠ t := by rintro rfl; simp [Nat.beq_refl] at hb
        obtain ⟨h2, h⟩ := chk_iff.1 h
        obtain ⟨z, hz, h⟩ := opt_elim h
        refine same ?_ h
        simp only [evOp, ho, hx, evAssert, if_pos h1, if_neg ht, h2, if_true, hz, pv]
    · exact h.elim
  · rename_i x ho
    split at h
    · rename_i l hx
      split at h
      · rename_i b pos hl
        cases hb : Nat.ble (pos + 1) b.size with
        | true =>
          rw [hb] at h
          refine same ?_ h
          have : pos < b.size := Nat.le_of_ble_eq_true hb
          simp only [evOp, ho, hx, hl, if_pos this]
        | false =>
          rw [hb] at h
          refine same ?_ h
          have : ¬ pos < b.size := fun hlt => by rw [Nat.ble_eq_true_of_le hlt] at hb; simp at hb
          simp only [evOp, ho, hx, hl, if_neg this]
      · exact h.elim
    · exact h.elim
  · rename_i c ho
    split at h
    · rename_i hc
      split at h
      · rename_i s x hxs
        obtain ⟨t, ht, h⟩ := opt_elim h
        obtain ⟨d, hd, hk⟩ := append_vc h
        refine same ?_ hk
        simp only [evOp, ho, hc, hxs, ht, hd]
      · exact h.elim
    · rename_i f hc
      split at h
      · rename_i g a b hf
        obtain ⟨h1, h⟩ := chk_iff.1 h
        obtain ⟨call, hk, d, hd, hkd⟩ := call_does h
        exact ⟨call, hk, d, by simp only [evOp, ho, hc, hf, h1, if_true, hd], hkd⟩
      · rename_i g fs cs hf
        obtain ⟨call, hk, d, hd, hkd⟩ := call_does h
        exact ⟨call, hk, d, by simp only [evOp, ho, hc, hf, hd], hkd⟩
      · exact h.elim
    · rename_i f name hc
      split at h
      · rename_i t x hf
        obtain ⟨h0, g, hg, call, hk, d, hd, hkd⟩ := inv_does h
        exact ⟨call, hk, d, by simp only [evOp, ho, hc, hf, if_neg h0, hg, hd], hkd⟩
      · exact h.elim
    · exact dflt h
  · exact dflt h
end
/-! ### Regions -/
section
variable (P : Program) (ann : Ann) (mv : FuncId → Bool)
def setB (S : St) (t : Nat) (b : Bool) : St := { S with τ := putT S.τ t (.s (.bool b)) }
def vcGuard (ops : Array Oper) (S : St) (o : Oper) (k : St → Bool → Prop) : Prop := match o.guard with
  | none => k S true
  | some (j, want) => match ops[j]? with
    | some p => match p.dst with
      | some t => match S.τ t with
        | .s (.bool b) => cond b (k (setB S t true) want) (k (setB S t false) (!want))
        | .tup [] => k S false
        | _ => False
      | none => False
    | none => False
def deadD : Dl := ⟨.tup [], [], [], []⟩
def vcOps (id : Nat) (ops : Array Oper) : Nat → List Oper → St → (St → Prop) → Prop
  | _, [], S, N => N S
  | i, o :: r, S, N => vcGuard ops S o fun S' g => cond g (vcOp P ann mv (siteOf id i) S' o fun d => vcOps id ops (i + 1) r (S'.ap o.dst d) N) (vcOps id ops (i + 1) r (S'.ap o.dst deadD) N)
def vcOpsD (id : Nat) (bits : List Nat) (ops : Array Oper) : Nat → List (Nat × Dl) → List Oper → St → (St → Prop) → Prop
  | _, _, [], S, N => N S
  | i, log, o :: r, S, N => vcGuard ops S o fun S' g => cond g (vcOp P ann mv (siteOf id i) S' o fun d => chk (log.all fun e => (bits.getD i 0).testBit e.1 || indep e.2 d) (vcOpsD id bits ops (i + 1) ((i, d) :: log) r (S'.ap o.dst d) N))
      (vcOpsD id bits ops (i + 1) ((i, deadD) :: log) r (S'.ap o.dst deadD) N)
end
section
variable {P : Program} {ann : Ann} {mv : FuncId → Bool}
theorem setB_same {S : St} {t : Nat} {b : Bool} (h : S.τ t = .s (.bool b)) : setB S t b = S := by
  unfold setB
  have : putT S.τ t (.s (.bool b)) = S.τ := by
    funext i
    unfold putT
    split
    · rename_i e; rw [e, h]
    · rfl
  rw [this]
theorem guard_vc {ops : Array Oper} {S : St} {o : Oper} {k : St → Bool → Prop} (h : vcGuard ops S o k) : ∃ g, guardT ops S o = some g ∧ k S g := by
  unfold vcGuard at h
  split at h
  · rename_i ho
    exact ⟨true, by simp only [guardT, ho], h⟩
  · rename_i j want ho
    split at h
    · rename_i p hp
      split at h
      · rename_i t ht
        split at h
        · rename_i b hb
          cases b with
          | true =>
            have h : k (setB S t true) want := h
            rw [setB_same hb] at h
            exact ⟨want, by simp only [guardT, ho, hp, ht, hb]; cases want <;> rfl, h⟩
          | false =>
            have h : k (setB S t false) (!want) := h
            rw [setB_same hb] at h
            exact ⟨!want, by simp only [guardT, ho, hp, ht, hb]; cases want <;> rfl, h⟩
        · rename_i hb
          exact ⟨false, by simp only [guardT, ho, hp, ht, hb], h⟩
        · exact h.elim
      · exact h.elim
    · exact h.elim
theorem siteOf_inj {id i j : Nat} (h : siteOf id i = siteOf id j) : i = j := by unfold siteOf at h; omega
theorem evOps_congr {call call' : Nat → FuncId → List T → Option (T × List T)} {id : Nat} {ops : Array Oper} : ∀ (r : List Oper) (i : Nat) (S : St), (∀ j, i ≤ j → call (siteOf id j) = call' (siteOf id j)) → evOps P call mv id ops i r S = evOps P call' mv id ops i r S
  | [], i, S, h => rfl
  | o :: r, i, S, h => by
    have ih : ∀ S, evOps P call mv id ops (i + 1) r S = evOps P call' mv id ops (i + 1) r S := fun S => evOps_congr r (i + 1) S (fun j hj => h j (by omega))
    simp only [evOps, h i (Nat.le_refl _), ih]
theorem evOpsD_congr {call call' : Nat → FuncId → List T → Option (T × List T)} {id : Nat} {bits : List Nat} {ops : Array Oper} : ∀ (r : List Oper) (i : Nat) (log : List (Nat × Dl)) (S : St), (∀ j, i ≤ j → call (siteOf id j) = call' (siteOf id j)) → evOpsD P call mv id bits ops i log r S = evOpsD P call' mv id bits ops i log r S
  | [], i, log, S, h => rfl
  | o :: r, i, log, S, h => by
    have ih : ∀ log S, evOpsD P call mv id bits ops (i + 1) log r S = evOpsD P call' mv id bits ops (i + 1) log r S := fun log S => evOpsD_congr r (i + 1) log S (fun j hj => h j (by omega))
    simp only [evOpsD, h i (Nat.le_refl _), ih]
noncomputable def atSite (s0 : Nat) (c : FuncId → List T → Option (T × List T)) (call : Nat → FuncId → List T → Option (T × List T)) : Nat → FuncId → List T → Option (T × List T) := fun s => if s = s0 then c else call s
theorem atSite_known {s0 : Nat} {c : FuncId → List T → Option (T × List T)} {call : Nat → FuncId → List T → Option (T × List T)} (h : Known P c) (hc : ∀ s, Known P (call s)) : ∀ s, Known P (atSite s0 c call s) := by
  intro s
  unfold atSite
  split
  · exact h
  · exact hc s
theorem ops_vc {id : Nat} {ops : Array Oper} {N : St → Prop} : ∀ (r : List Oper) (i : Nat) (S : St), vcOps P ann mv id ops i r S N → ∃ call, (∀ s, Known P (call s)) ∧ ∃ S', evOps P call mv id ops i r S = some S' ∧ N S'
  | [], i, S, h => ⟨fun _ _ _ => none, fun _ => known_none, S, rfl, h⟩
  | o :: r, i, S, h => by
    unfold vcOps at h
    obtain ⟨g, hg, h⟩ := guard_vc h
    cases g with
    | true =>
      simp only [cond_true] at h
      obtain ⟨c, hc, d, hd, h⟩ := op_does h
      obtain ⟨call, hcall, S', hS, hN⟩ := ops_vc r (i + 1) _ h
      refine ⟨atSite (siteOf id i) c call, atSite_known hc hcall, S', ?_, hN⟩
      have e1 : atSite (siteOf id i) c call (siteOf id i) = c := by simp [atSite]
      simp only [evOps, hg, e1, hd]
      rw [evOps_congr r (i + 1) _ (call' := call) (fun j hj => by
        unfold atSite
        rw [if_neg (fun e => by have := siteOf_inj e; omega)])]
      exact hS
    | false =>
      obtain ⟨call, hcall, S', hS, hN⟩ := ops_vc r (i + 1) _ h
      refine ⟨call, hcall, S', ?_, hN⟩
      simp only [evOps, hg]
      exact hS
theorem opsD_vc {id : Nat} {bits : List Nat} {ops : Array Oper} {N : St → Prop} : ∀ (r : List Oper) (i : Nat) (log : List (Nat × Dl)) (S : St), vcOpsD P ann mv id bits ops i log r S N → ∃ call, (∀ s, Known P (call s)) ∧ ∃ S', evOpsD P call mv id bits ops i log r S = some S' ∧ N S'
  | [], i, log, S, h => ⟨fun _ _ _ => none, fun _ => known_none, S, rfl, h⟩
  | o :: r, i, log, S, h => by
    unfold vcOpsD at h
    obtain ⟨g, hg, h⟩ := guard_vc h
    cases g with
    | true =>
      simp only [cond_true] at h
      obtain ⟨c, hc, d, hd, h⟩ := op_does h
      obtain ⟨hl, h⟩ := chk_iff.1 h
      obtain ⟨call, hcall, S', hS, hN⟩ := opsD_vc r (i + 1) _ _ h
      refine ⟨atSite (siteOf id i) c call, atSite_known hc hcall, S', ?_, hN⟩
      have e1 : atSite (siteOf id i) c call (siteOf id i) = c := by simp [atSite]
      simp only [evOpsD, hg, e1, hd, hl, if_true]
      rw [evOpsD_congr r (i + 1) _ _ (call' := call) (fun j hj => by
        unfold atSite
        rw [if_neg (fun e => by have := siteOf_inj e; omega)])]
      exact hS
    | false =>
      obtain ⟨call, hcall, S', hS, hN⟩ := opsD_vc r (i + 1) _ _ h
      refine ⟨call, hcall, S', ?_, hN⟩
      simp only [evOpsD, hg]
      exact hS
end
end Go.Proofs.YthcaodlfnlhfbaaDoorT
