/- The interpreter over trees: regions in the text's order, control, a function. -/
import Derived.Test.YthcaodlfnlhfbaaDoorT15
import Derived.LoopN
import Derived.Orders
namespace Go.Proofs.YthcaodlfnlhfbaaDoorT
open Go Go.RowKit
set_option linter.unusedVariables false

/-- The state at a point of a function that began in C0. -/
def Hold (C0 : Ctx) (B : Base) (S : St) (a : Act) (w : World) : Prop := ∃ inj, SR B w inj S.σ S.cnt ∧ Sl (sctx B w inj S.σ S.cnt) S a ∧ C0.le (sctx B w inj S.σ S.cnt)
section
variable {P : Program} {B : Base} {C0 : Ctx} {w : World} {inj : Loc → Nat} {S : St} {a : Act}
theorem put_size (a : Act) (dst : Option Tmp) (v : Value) : (a.put dst v).tmps.size = a.tmps.size := by
  cases dst <;> simp [Act.put]
theorem put_defers' (a : Act) (dst : Option Tmp) (v : Value) : (a.put dst v).defers = a.defers := by
  cases dst <;> rfl
theorem put_get (a : Act) (t : Tmp) (v : Value) (i : Nat) : (a.put (some t) v).tmps.getD i undef = if i = t ∧ t < a.tmps.size then v else a.tmps.getD i undef := by
  simp only [Act.put, Array.getD_eq_getD_getElem?]
  by_cases h : i = t
  · subst h
    by_cases hl : i < a.tmps.size
    · simp [hl]
    · simp [hl]
  · simp [h, Array.getElem?_setIfInBounds_ne (Ne.symm h)]
theorem hold_ap (h : Hold C0 B S a w) {dst : Option Tmp} {d : Dl} {v : Value} {w' : World} (hi : SR B w inj S.σ S.cnt) (hs : Sl (sctx B w inj S.σ S.cnt) S a) (hc : C0.le (sctx B w inj S.σ S.cnt)) (hst : Stp B w inj S.σ S.cnt d v w') : Hold C0 B (S.ap dst d) (a.put dst v) w' := by
  obtain ⟨inj', h1, h2, h3⟩ := hst
  refine ⟨inj', h1, ⟨?_, ?_, fun i => ?_, hs.glob.le h2⟩, hc.trans h2⟩
  · rw [put_size]; exact hs.size
  · rw [put_defers']; exact hs.defers
  · cases dst with
    | none => exact (hs.rep i).mono h2
    | some t =>
      rw [put_get]
      have hsz := hs.size
      show Rep _ ((if t < S.nt then putT S.τ t d.v else S.τ) i) _
      by_cases ht : t < S.nt
      · rw [if_pos ht]
        unfold putT
        by_cases hit : i = t
        · rw [if_pos hit, if_pos ⟨hit, by rw [hsz]; exact ht⟩]; exact h3
        · rw [if_neg hit, if_neg (fun hh => hit hh.1)]; exact (hs.rep i).mono h2
      · rw [if_neg ht, if_neg (fun hh => ht (by rw [← hsz]; exact hh.2))]; exact (hs.rep i).mono h2
theorem hold_skip (h : Hold C0 B S a w) (dst : Option Tmp) : Hold C0 B (S.ap dst ⟨.tup [], [], [], []⟩) (a.put dst undef) w := by
  obtain ⟨inj, h1, h2, h3⟩ := id h
  exact hold_ap h h1 h2 h3 (Stp.pure h1 (x := .tup []) (v := undef) (.tup (vs := []) rfl (fun j x u hx => by simp at hx)) [])
theorem guard_ok {C : Ctx} (h : Sl C S a) {ops : Array Oper} {o : Oper} {b : Bool} (hg : guardT ops S o = some b) : Region.wanted o (yielded ops a.tmps) = b := by
  unfold guardT at hg
  unfold Region.wanted
  split at hg
  · rename_i e; rw [e]; injection hg
  · rename_i j want e
    rw [e]
    split at hg
    · rename_i p hp
      split at hg
      · rename_i t ht
        split at hg
        · rename_i b0 hb
          injection hg with hg; subst hg
          have := h.rep t
          rw [hb] at this
          have hv := rep_s this
          have hsome : a.tmps[t]? = some (.bool b0) := by
            rw [Array.getD_eq_getD_getElem?] at hv
            cases he : a.tmps[t]? with
            | none => rw [he] at hv; simp [undef] at hv
            | some x => rw [he] at hv; simp at hv; rw [hv]
          simp only [yielded, hp, Option.bind_some, ht, hsome]
          cases b0 <;> cases want <;> rfl
        · rename_i hb
          injection hg with hg; subst hg
          have := h.rep t
          rw [hb] at this
          obtain ⟨vs, hv, hr⟩ := this.tup_parts
          have hvs : vs = [] := List.eq_nil_of_length_eq_zero hr.1.symm
          subst hvs
          have hy : yielded ops a.tmps j = none := by
            simp only [yielded, hp, Option.bind_some, ht]
            rw [Array.getD_eq_getD_getElem?] at hv
            cases he : a.tmps[t]? with
            | none => rfl
            | some x =>
              rw [he] at hv
              simp only [Option.getD_some] at hv
              rw [hv]
          show (yielded ops a.tmps j == some want) = false
          rw [hy]
          rfl
        · simp at hg
      · simp at hg
    · simp at hg
/-- A region in the text's order. -/
theorem ops_ok {call : Nat → FuncId → List T → Option (T × List T)} (hC : ∀ s, Known P (call s)) {mv : FuncId → Bool} {id : Nat} {ops : Array Oper} {Q : Exit → Act → World → Prop} {S' : St} :
    ∀ (rest : List Oper) (i : Nat) (S : St) (a : Act) (w : World), ops.toList.drop i = rest → evOps P call mv id ops i rest S = some S' → Hold C0 B S a w → (∀ a' w', Hold C0 B S' a' w' → Q .normal a' w') → wpOps P ops Q (List.range' i rest.length) a w
  | [], i, S, a, w, hd, he, hh, hQ => by
    simp only [evOps, Option.some.injEq] at he
    subst he
    exact hQ a w hh
  | o :: rest, i, S, a, w, hd, he, hh, hQ => by
    have hh2 := hh
    obtain ⟨inj, h1, h2, h3⟩ := hh2
    have ho : ops[i]? = some o := by
      have := congrArg (·[0]?) hd
      simpa [List.getElem?_drop] using this
    have hd' : ops.toList.drop (i + 1) = rest := by
      have := congrArg (List.drop 1) hd
      simpa [List.drop_drop, Nat.add_comm] using this
    show wpOps P ops Q (i :: List.range' (i + 1) rest.length) a w
    unfold evOps at he
    split at he
    · rename_i hg
      have hw := guard_ok h2 hg
      split at he
      · rename_i d hev
        simp only [wpOps, ho, hw, if_true]
        exact .inl (op_ok (hC _) h1 h2 hev (fun v w' hst => ops_ok hC rest (i + 1) _ _ _ hd' he (hold_ap hh h1 h2 h3 hst) hQ))
      · simp at he
    · rename_i hg
      have hw := guard_ok h2 hg
      simp only [wpOps, ho, hw, Bool.false_eq_true, if_false]
      exact ops_ok hC rest (i + 1) _ _ _ hd' he (hold_skip hh o.dst) hQ
    · simp at he
/-- Regions of open order are sound. -/
def DrawOk (P : Program) (call : Nat → FuncId → List T → Option (T × List T)) (mv : FuncId → Bool) (bits : Array Oper → List Nat) : Prop :=
  ∀ (id : Nat) (ops : Array Oper) (C0 : Ctx) (B : Base) (S S' : St) (a : Act) (w : World) (Q : Exit → Act → World → Prop), okD (bits ops) ops = true → evOpsD P call mv id (bits ops) ops 0 [] ops.toList S = some S' → Hold C0 B S a w → (∀ a' w', Hold C0 B S' a' w' → Q .normal a' w') → (Code.region id ops true).wp P Q a w
/-! ### A function -/
theorem run_results {vars : List ResultVar} {rs : List T} (h1 : SR B w inj S.σ S.cnt) (h2 : Sl (sctx B w inj S.σ S.cnt) S a) (hr : optAll (evRes P S) vars = some rs) :
    ∃ vs : List Value, (vars.mapM (fun x => match x with
      | ResultVar.tmp t => (pure (a.tmps.getD t undef) : Sem Value)
      | ResultVar.cell b t => do loadVar t (← asAddr (a.tmps.getD b undef)))).run P w = .ok vs w ∧ RepA (sctx B w inj S.σ S.cnt) rs vs := by
  induction vars generalizing rs with
  | nil =>
    simp only [optAll, Option.some.injEq] at hr
    subst hr
    exact ⟨[], by simp, RepA.nil _⟩
  | cons x r ih =>
    unfold optAll at hr
    split at hr
    · rename_i y s hy hs
      injection hr with hr; subst hr
      obtain ⟨vs, hv, hrep⟩ := ih hs
      cases x with
      | tmp t =>
        simp only [evRes, Option.some.injEq] at hy
        subst hy
        exact ⟨a.tmps.getD t undef :: vs, by simp only [List.mapM_cons, Sem.run_bind, Sem.run_pure, Result.andThen_ok, hv], hrep.cons (h2.rep t)⟩
      | cell b t =>
        simp only [evRes] at hy
        split at hy
        · rename_i d hd
          injection hy with hy; subst hy
          obtain ⟨v', A, hA, hrun', hrep', _⟩ := load_rep h1 (h2.rep b) hd
          refine ⟨v' :: vs, ?_, hrep.cons hrep'⟩
          have has : (asAddr (a.tmps.getD b undef)).run P w = .ok A w := by rw [hA]; rfl
          simp only [List.mapM_cons, Sem.run_bind, has, Sem.run_pure, hrun', Result.andThen_ok, hv]
        · simp at hy
    · simp at hr
def oneVal : List Value → Value
  | [v] => v
  | vs => .tuple vs.toArray
theorem results_run {fn : Func} {a : Act} {vs : List Value} {w : World} (h : (fn.results.toList.mapM (fun x => match x with
      | ResultVar.tmp t => (pure (a.tmps.getD t undef) : Sem Value)
      | ResultVar.cell b t => do loadVar t (← asAddr (a.tmps.getD b undef)))).run P w = .ok vs w) : (results fn a.tmps).run P w = .ok (oneVal vs) w := by
  have e : results fn a.tmps = (do
      let vs ← fn.results.toList.mapM (fun x => match x with
        | ResultVar.tmp t => (pure (a.tmps.getD t undef) : Sem Value)
        | ResultVar.cell b t => do loadVar t (← asAddr (a.tmps.getD b undef)))
      pure (if h : vs.toArray.size = 1 then vs.toArray[0] else .tuple vs.toArray)) := by
    unfold results
    rw [Array.mapM_eq_mapM_toList]
    simp only [bind_map_left]
    rfl
  rw [e, Sem.run_bind, h, Result.andThen_ok, Sem.run_pure]
  match vs with
  | [] => rfl
  | [v] => rfl
  | _ :: _ :: _ => simp [oneVal]
/-- What comes out of the arguments. -/
theorem outT_ok {ok : Nat → Prop} (h : SR B w inj S.σ S.cnt) (hok : ∀ k, (sctx B w inj S.σ S.cnt).ok k → ok k) {t t' : T} {m : List Loc} {v : Value} (ho : outT S.σ t = some (t', m)) (hr : Rep (sctx B w inj S.σ S.cnt) t v) : RepX w ok t' v (kblks inj m) ∧ ∀ l ∈ m, S.σ l ≠ none := by
  unfold outT at ho
  split at ho
  · exact cls_ok h hok _ _ _ v ho hr
  · exact cls_ok h hok _ _ _ v ho hr
  · split at ho
    · rename_i q hq
      injection ho with ho
      subst ho
      exact cls_ok h hok _ _ _ v hq hr
    · injection ho with ho; injection ho with e1 e2; subst e1; subst e2
      exact ⟨rfl, by simp⟩
  · injection ho with ho; injection ho with e1 e2; subst e1; subst e2
    exact ⟨rfl, by simp⟩
theorem outTL_ok {ok : Nat → Prop} (h : SR B w inj S.σ S.cnt) (hok : ∀ k, (sctx B w inj S.σ S.cnt).ok k → ok k) : ∀ (ts ts' : List T) (m : List Loc) (vs : List Value), outTL S.σ ts = some (ts', m) → RepA (sctx B w inj S.σ S.cnt) ts vs → RepXL w ok ts' vs (kblks inj m) ∧ ∀ l ∈ m, S.σ l ≠ none
  | [], ts', m, vs, ho, hr => by
    simp [outTL] at ho
    obtain ⟨rfl, rfl⟩ := ho
    have : vs = [] := List.eq_nil_of_length_eq_zero hr.1.symm
    subst this
    exact ⟨⟨rfl, rfl⟩, by simp⟩
  | x :: ts, ts', m, vs, ho, hr => by
    unfold outTL at ho
    split at ho
    · rename_i x' a1 r' b1 he1 he2
      injection ho with ho; injection ho with e1 e2; subst e1; subst e2
      match vs, hr with
      | u :: us, hr =>
        have h1 := outT_ok h hok he1 hr.head
        have h2 := outTL_ok h hok ts r' b1 us he2 hr.tail
        exact ⟨⟨u, us, _, _, rfl, by simp [kblks], h1.1, h2.1⟩, fun l hl => (List.mem_append.1 hl).elim (h1.2 l) (h2.2 l)⟩
      | [], hr => exact absurd hr.1 (by simp)
    · simp at ho
theorem resT_ok {ok : Nat → Prop} {rs : List T} {vs : List Value} {b : List Nat} (h : RepXL w ok rs vs b) : RepX w ok (resT rs) (oneVal vs) b := by
  match rs, vs, h with
  | [], [], h => exact ⟨[], rfl, h⟩
  | [x], [v], h =>
    obtain ⟨u, us, b1, b2, e, rfl, h1, h2⟩ := h
    obtain ⟨rfl, rfl⟩ := h2
    injection e with e _
    subst e
    rw [List.append_nil]
    exact h1
  | x :: y :: r, vs, h =>
    match vs, h.len with
    | [], hl => simp at hl
    | [_], hl => simp at hl
    | u :: v :: s, _ => exact ⟨u :: v :: s, rfl, h⟩
  | [], _ :: _, h => have := h.len; simp at this
  | [_], [], h => have := h.len; simp at this
  | [_], _ :: _ :: _, h => have := h.len; simp at this
/-- Results handed over: frozen (fz), or as they are. -/
def closeR (fz : Bool) (σ : Loc → Option O) (rs : List T) : Option (List T × List Loc × List Loc) := if fz then argCL σ false rs else match clsL σ 4 rs with
  | some (rs', m) => some (rs', m, [])
  | none => none
def canL2 (P : Program) : List TypeId → List T → List T
  | t :: ts, x :: xs => canT P t x :: canL2 P ts xs
  | _, xs => xs
section
variable {w : World} {ok : Nat → Prop}
theorem canC_X {P : Program} {t : TypeId} {x : T} {v : Value} {b : List Nat} (h : RepX w ok x v b) : RepX w ok (canC P t x) v b := by
  cases x with
  | sl sz xs =>
    obtain ⟨rfl, h⟩ := h
    have := canC_rep (P := P) (t := t) h
    unfold canC at this ⊢
    dsimp only at this ⊢
    split at this
    · rename_i h0
      rw [if_pos h0]
      split at this
      · split at this <;> exact ⟨rfl, this⟩
      · exact ⟨rfl, this⟩
    · rename_i h0
      rw [if_neg h0]; exact ⟨rfl, this⟩
  | _ => exact h
theorem canL_X {P : Program} : ∀ (ts : List TypeId) (xs : List T) (vs : List Value) (b : List Nat), RepXL w ok xs vs b → RepXL w ok (canL P ts xs) vs b
  | [], xs, vs, b, h => by cases xs <;> exact h
  | t :: ts, [], vs, b, h => h
  | t :: ts, x :: xs, vs, b, h => by
    obtain ⟨v, vs', b1, b2, rfl, rfl, h1, h2⟩ := h
    exact ⟨v, vs', b1, b2, rfl, rfl, canC_X h1, canL_X ts xs vs' b2 h2⟩
theorem canT_X {P : Program} {t : TypeId} {x : T} {v : Value} {b : List Nat} (h : RepX w ok x v b) : RepX w ok (canT P t x) v b := by
  unfold canT
  split
  · obtain ⟨vs, rfl, h, h1⟩ := h
    exact ⟨vs, rfl, canL_X _ _ _ _ h, h1⟩
  · exact canC_X h
theorem canL2_X {P : Program} : ∀ (ts : List TypeId) (xs : List T) (vs : List Value) (b : List Nat), RepXL w ok xs vs b → RepXL w ok (canL2 P ts xs) vs b
  | [], xs, vs, b, h => by cases xs <;> exact h
  | t :: ts, [], vs, b, h => h
  | t :: ts, x :: xs, vs, b, h => by
    obtain ⟨v, vs', b1, b2, rfl, rfl, h1, h2⟩ := h
    exact ⟨v, vs', b1, b2, rfl, rfl, canT_X h1, canL2_X ts xs vs' b2 h2⟩
theorem closeR_ok {B : Base} {inj : Loc → Nat} {σ : Loc → Option O} {cnt : Nat → Nat} (h : SR B w inj σ cnt) {fz : Bool} {rs rs' : List T} {m r : List Loc} {vs : List Value} (hok : ∀ k, (sctx B w inj σ cnt).ok k → ok k) (hr : ∀ k, blks inj r k → ok k)
    (hc : closeR fz σ rs = some (rs', m, r)) (hv : RepA (sctx B w inj σ cnt) rs vs) : RepXL w ok rs' vs (kblks inj m) ∧ (∀ l ∈ m, σ l ≠ none) ∧ ∀ l ∈ r, σ l ≠ none := by
  unfold closeR at hc
  split at hc
  · exact argCL_ok h hok rs rs' m r vs hr hc hv
  · split at hc
    · rename_i rs1 m1 he
      injection hc with hc; injection hc with e1 e2; injection e2 with e2 e3; subst e1; subst e2; subst e3
      have := clsL_ok h hok 4 rs rs1 m1 vs he hv
      exact ⟨this.1, this.2, by simp⟩
    · simp at hc
end
/-- Where a function begins. -/
def entrySt (ntmps : Nat) (targs : List T) (u : List (Loc × O)) : St := { τ := fun i => targs.getD i .dead, σ := updL (fun _ => none) (u.map fun e => (e.1, some e.2)), cnt := fun s => if s < 1000 then 1 else 0, nt := ntmps }
/-- Where it ends: its result and what becomes of its arguments. -/
def Ends (P : Program) (fn : Func) (fz : Bool) (targs : List T) (res : T) (outs : List T) (S : St) : Prop :=
  ∃ rs rs' m r m', optAll (evRes P S) fn.results.toList = some rs ∧ closeR fz S.σ rs = some (rs', m, r) ∧ outTL S.σ targs = some (outs, m') ∧ (nodupL (m ++ m') && r.all (fun l => !(m ++ m').contains l)) = true ∧ res = resT (canL2 P fn.resultTypes.toList rs')
/-- Keys of the entry. -/
def EntryCtx (C0 : Ctx) : Prop := ∀ l, ((∃ v, C0.own l v) ∨ (∃ n v, C0.ptr l n v) ∨ (∃ s i n v, C0.eptr l s i n v) ∨ ∃ v, C0.it l v) → l.1 < 1000 ∧ l.2 = 0
theorem contract_hold {f : FuncId} {fn : Func} {c : Code} (hf : P.funcs[f]? = some fn) (hb : fn.body = some c) {args targs : List T} {k : Nat} {u : List (Loc × O)} {res : T} {outs : List T} {fz : Bool}
    (ho : opnL key0 0 args = (targs, k, u)) (hk : k ≤ 1000) (hlen : args.length ≤ fn.ntmps)
    (hwp : ∀ (C0 : Ctx) (B : Base) (a : Act) (w : World), EntryCtx C0 → Hold C0 B (entrySt fn.ntmps targs u) a w → c.wp P (fun e a' w' => (e = .normal ∨ e = .ret) ∧ ∃ S', Hold C0 B S' a' w' ∧ Ends P fn fz targs res outs S') a w) : Contract P f args res outs := by
  intro w ok vals bs hx hnd hbs hokl hG
  obtain ⟨hkp, Z, z1, z2, hZ⟩ := opnL_ok (w := w) (ok := ok) args 0 targs k u vals bs ho hx
  have hksn : (u.map (·.1)).Nodup := hkp.nd (fun a b hab => congrArg Prod.fst hab) .nil (by simp)
  have hzs : (Z.map (·.2)).Nodup := by rw [z2]; exact hnd
  let B : Base := { w0 := w, bs := bs, ok0 := ok }
  generalize hS : entrySt fn.ntmps targs u = S at hwp
  have hSσ : S.σ = updL (fun _ => none) (u.map fun e => (e.1, some e.2)) := by rw [← hS]; rfl
  have hScnt : S.cnt = fun s => if s < 1000 then 1 else 0 := by rw [← hS]; rfl
  have hSτ : S.τ = fun i => targs.getD i .dead := by rw [← hS]; rfl
  have hSnt : S.nt = fn.ntmps := by rw [← hS]; rfl
  have hmm : (u.map (fun e : Loc × O => (e.1, some e.2))).map (·.1) = u.map (·.1) := by simp [List.map_map, Function.comp_def]
  have hσin : ∀ e ∈ u, S.σ e.1 = some e.2 := fun e he => by
    rw [hSσ]
    exact updL_in (e := (e.1, some e.2)) (by rw [hmm]; exact hksn) (List.mem_map_of_mem (f := fun e : Loc × O => (e.1, some e.2)) he)
  have hσex : ∀ l o, S.σ l = some o → ∃ e ∈ u, e.1 = l ∧ e.2 = o := by
    intro l o hl
    by_cases hin : l ∈ u.map (·.1)
    · obtain ⟨e, he, rfl⟩ := List.mem_map.1 hin
      have := hσin e he
      rw [hl] at this
      injection this with this
      exact ⟨e, he, rfl, this.symm⟩
    · rw [hSσ, updL_not (by rw [hmm]; exact hin)] at hl
      simp at hl
  let inj : Loc → Nat := asg (fun _ => 0) Z
  have hin : ∀ z ∈ Z, inj z.1 = z.2 := fun z hz => asg_in (by rw [z1]; exact hksn) hz
  have hkey : ∀ e ∈ u, ∃ z ∈ Z, z.1 = e.1 := fun e he => by
    have : e.1 ∈ Z.map (·.1) := by rw [z1]; exact List.mem_map_of_mem he
    obtain ⟨z, hz, hze⟩ := List.mem_map.1 this
    exact ⟨z, hz, hze⟩
  have hzb : ∀ z ∈ Z, z.2 ∈ bs := fun z hz => by rw [← z2]; exact List.mem_map_of_mem hz
  have hcase : ∀ l o, S.σ l = some o → ∃ e ∈ u, e.1 = l ∧ e.2 = o ∧ ∃ z ∈ Z, z.1 = l ∧ inj l = z.2 := by
    intro l o hl
    obtain ⟨e, he, rfl, rfl⟩ := hσex l o hl
    obtain ⟨z, hz, hze⟩ := hkey e he
    exact ⟨e, he, rfl, rfl, z, hz, hze, by rw [← hze]; exact hin z hz⟩
  have hfresh : ∀ e ∈ u, e.1.2 < S.cnt e.1.1 := by
    intro e he
    rcases hkp.mem _ (List.mem_map_of_mem he) with h1 | ⟨n, _, hn, h1⟩
    · simp at h1
    · rw [h1, hScnt]
      have hlt : (key0 n).1 < 1000 := by show n < 1000; omega
      show 0 < if (key0 n).1 < 1000 then 1 else 0
      rw [if_pos hlt]
      exact Nat.one_pos
  have hok : ∀ k, ok k → (sctx B w inj S.σ S.cnt).ok k := by
    intro k hk
    refine ⟨.inl hk, hokl k hk, ?_⟩
    rintro ⟨l, o, hl, he⟩
    obtain ⟨_, _, _, _, z, hz, _, hiz⟩ := hcase l o hl
    have := (hbs z.2 (hzb z hz)).2
    rw [← hiz, he] at this
    exact this hk
  obtain ⟨hra, hob⟩ := hZ B inj S.σ S.cnt ⟨hin, fun e he => ⟨hσin e he, hfresh e he⟩, hok⟩
  have hSR : SR B w inj S.σ S.cnt := by
    refine ⟨Fr.refl _ w, ?_, ?_, ?_, ?_, ?_⟩
    · intro l o hl
      obtain ⟨_, _, _, _, z, hz, _, hiz⟩ := hcase l o hl
      rw [hiz]; exact (hbs z.2 (hzb z hz)).1
    · intro l l' o o' h1 h2 he
      obtain ⟨_, _, _, _, z, hz, hzl, hiz⟩ := hcase l o h1
      obtain ⟨_, _, _, _, z', hz', hzl', hiz'⟩ := hcase l' o' h2
      have := snd_uniq hzs hz hz' (by rw [← hiz, ← hiz']; exact he)
      rw [← hzl, ← hzl', this]
    · intro l o hl
      obtain ⟨e, he, rfl, rfl, _⟩ := hcase l o hl
      exact hob e he
    · intro l o hl
      obtain ⟨e, he, rfl, rfl, _⟩ := hcase l o hl
      exact hfresh e he
    · intro l o hl
      obtain ⟨_, _, _, _, z, hz, _, hiz⟩ := hcase l o hl
      rw [hiz]; exact .inl (hzb z hz)
  have hvl : vals.length = args.length := hx.len.symm
  have htl : targs.length = vals.length := hra.1
  let a : Act := { tmps := vals.toArray ++ Array.replicate (fn.ntmps - vals.toArray.size) undef, defers := [] }
  have hSl : Sl (sctx B w inj S.σ S.cnt) S a := by
    refine ⟨?_, rfl, fun i => ?_, hG.mono fun k hk => ⟨hok k hk, rfl⟩⟩
    · rw [hSnt]
      show (vals.toArray ++ Array.replicate (fn.ntmps - vals.toArray.size) undef).size = fn.ntmps
      simp
      omega
    · rw [hSτ]
      show Rep _ (targs.getD i .dead) ((vals.toArray ++ Array.replicate (fn.ntmps - vals.toArray.size) undef).getD i undef)
      rw [Array.getD_eq_getD_getElem?, Array.getElem?_append, List.getD_eq_getElem?_getD]
      by_cases hi : i < vals.length
      · rw [if_pos (by simpa using hi)]
        have h1 : targs[i]? = some targs[i] := List.getElem?_eq_getElem (by omega)
        have h2 : vals.toArray[i]? = some vals[i] := by simp [hi]
        rw [h1, h2]
        exact hra.2 i _ _ h1 (List.getElem?_eq_getElem hi)
      · have h1 : targs[i]? = none := List.getElem?_eq_none (by omega)
        rw [h1]
        exact .dead
  have hH : Hold (sctx B w inj S.σ S.cnt) B S a w := ⟨inj, hSR, hSl, Ctx.le.refl _⟩
  have hE : EntryCtx (sctx B w inj S.σ S.cnt) := by
    have hz : ∀ l : Loc, l.2 < S.cnt l.1 → l.1 < 1000 ∧ l.2 = 0 := by
      intro l hl
      rw [hScnt] at hl
      simp only at hl
      split at hl
      · exact ⟨by assumption, by omega⟩
      · omega
    rintro l (⟨v, h1, _⟩ | ⟨n, v, h1, _⟩ | ⟨s, i, n, v, h1, _⟩ | ⟨v, h1, _⟩) <;> exact hz l h1
  refine calls_of_wp hf hb (Go.wp_mono (hwp _ B a w hE hH) ?_)
  rintro e a' w' ⟨hex, S', hH', rs, rs', m, r, m', hrs, hcl, hout, hnm, rfl⟩
  simp only [Bool.and_eq_true, List.all_eq_true, Bool.not_eq_true', List.contains_eq_mem, decide_eq_false_iff_not] at hnm
  obtain ⟨hnm, hrm⟩ := hnm
  obtain ⟨inj', h1, h2, h3⟩ := hH'
  obtain ⟨vs, hvs, hrep⟩ := run_results h1 h2 hrs
  have hras := hra.mono h3
  have hokO : ∀ bb : List Nat, (∀ k ∈ bb, owned S'.σ inj' k) → ∀ k, (sctx B w' inj' S'.σ S'.cnt).ok k → okOut w w' ok bs bb k := by
    rintro bb hbb k ⟨g1, g2, g3⟩
    exact ⟨g1, g2, fun hk => g3 (hbb k hk)⟩
  have hmal := (closeR_ok h1 (ok := fun _ => True) (fun _ _ => trivial) (fun _ _ => trivial) hcl hrep).2.1
  have hral := (closeR_ok h1 (ok := fun _ => True) (fun _ _ => trivial) (fun _ _ => trivial) hcl hrep).2.2
  have hmal' := (outTL_ok h1 (ok := fun _ => True) (fun _ _ => trivial) targs outs m' vals hout hras).2
  have hall : ∀ l ∈ m ++ m', ∃ o, S'.σ l = some o := by
    intro l hl
    have hne : S'.σ l ≠ none := (List.mem_append.1 hl).elim (hmal l) (hmal' l)
    cases hs : S'.σ l with
    | none => exact absurd hs hne
    | some o => exact ⟨o, rfl⟩
  have hbb : ∀ k ∈ kblks inj' m ++ kblks inj' m', owned S'.σ inj' k := by
    intro k hk
    have hk : k ∈ (m ++ m').map inj' := by rw [List.map_append]; exact hk
    obtain ⟨l, hl, rfl⟩ := List.mem_map.1 hk
    obtain ⟨o, ho⟩ := hall l hl
    exact ⟨l, o, ho, rfl⟩
  have hokR : ∀ k, blks inj' r k → okOut w w' ok bs (kblks inj' m ++ kblks inj' m') k := by
    rintro k ⟨l, hl, rfl⟩
    cases hs : S'.σ l with
    | none => exact absurd hs (hral l hl)
    | some o =>
      refine ⟨(h1.mine l o hs).elim (fun x => .inr (.inl x)) (fun x => .inr (.inr x)), h1.lt l o hs, fun hk => ?_⟩
      have hk : inj' l ∈ (m ++ m').map inj' := by rw [List.map_append]; exact hk
      obtain ⟨l', hl', he⟩ := List.mem_map.1 hk
      obtain ⟨o', ho'⟩ := hall l' hl'
      have := h1.uniq l' l o' o ho' hs he
      subst this
      exact hrm l' hl hl'
  have hX := canL2_X (P := P) fn.resultTypes.toList _ _ _ (closeR_ok h1 (hokO _ hbb) hokR hcl hrep).1
  have hO := (outTL_ok h1 (hokO _ hbb) targs outs m' vals hout hras).1
  have hfin : bodyPost P fn (fun e w' => ∃ (v : Value) (b1 b2 : List Nat), e = .returned v ∧ (b1 ++ b2).Nodup ∧ (∀ k ∈ b1 ++ b2, (k ∈ bs ∨ w.heap.size ≤ k) ∧ k < w'.heap.size) ∧ Fr (· ∈ bs) w w' ∧
      RepX w' (okOut w w' ok bs (b1 ++ b2)) (resT (canL2 P fn.resultTypes.toList rs')) v b1 ∧ RepXL w' (okOut w w' ok bs (b1 ++ b2)) outs vals b2) .normal a' w' := by
    refine ⟨h2.defers, _, results_run hvs, _, kblks inj' m, kblks inj' m', rfl, ?_, ?_, h1.fr, resT_ok hX, hO⟩
    · have := kblks_nodup h1 (nodupL_ok hnm) (fun l hl => by obtain ⟨o, ho⟩ := hall l hl; rw [ho]; simp)
      simpa [kblks] using this
    · intro k hk
      obtain ⟨l, o, ho, rfl⟩ := hbb k hk
      exact ⟨h1.mine l o ho, h1.lt l o ho⟩
  rcases hex with rfl | rfl
  · exact hfin
  · exact hfin
end
end Go.Proofs.YthcaodlfnlhfbaaDoorT
