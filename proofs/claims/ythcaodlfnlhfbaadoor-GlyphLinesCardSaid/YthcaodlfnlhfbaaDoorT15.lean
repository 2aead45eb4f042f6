/- The interpreter over trees: one operation. -/
import Derived.Test.YthcaodlfnlhfbaaDoorT14
namespace Go.Proofs.YthcaodlfnlhfbaaDoorT
open Go Go.RowKit
set_option linter.unusedVariables false

/-- A function that a call enters. -/
def Enters (P : Program) (f : FuncId) : Prop := ∃ fn, P.funcs[f]? = some fn ∧ fn.name ≠ "runtime.NumGoroutine" ∧ fn.body.isNone = false
/-- Calls that are known. -/
def Known (P : Program) (call : FuncId → List T → Option (T × List T)) : Prop := ∀ g cargs res outs, call g cargs = some (res, outs) → Enters P g ∧ Contract P g cargs res outs
/-- The slots. -/
structure Sl (C : Ctx) (S : St) (a : Act) : Prop where
  size : a.tmps.size = S.nt
  defers : a.defers = []
  rep : ∀ i, Rep C (S.τ i) (a.tmps.getD i undef)
  glob : Glob C.w C.ok
section
variable {P : Program} {B : Base} {w : World} {inj : Loc → Nat} {S : St} {a : Act}
theorem opd_ok {C : Ctx} (h : Sl C S a) (x : Operand) : Rep C (opd S x) (a.eval x) := by
  cases x with
  | tmp t => exact h.rep t
  | const v =>
    show Rep C (if plainI v = true then ofV v else T.dead) v
    split
    · rename_i hp; exact rep_ofV hp
    · exact .dead
  | func f => exact .s rfl
  | global g => exact .dead
theorem opdL_ok {C : Ctx} (h : Sl C S a) : ∀ (xs : List Operand), RepA C (xs.map (opd S)) (xs.map a.eval)
  | [] => RepA.nil _
  | x :: r => (opdL_ok h r).cons (opd_ok h x)
theorem opdP_ok {C : Ctx} (h : Sl C S a) : ∀ (ps : List (Nat × Operand)), PartsA C (ps.map fun p => (p.1, opd S p.2)) (ps.map fun p => (p.1, a.eval p.2))
  | [] => ⟨rfl, RepA.nil _⟩
  | p :: r => ⟨by have := (opdP_ok h r).1; simp [List.map_map, Function.comp_def], (opdP_ok h r).2.cons (opd_ok h p.2)⟩
theorem opdO_ok {C : Ctx} (h : Sl C S a) (x : Option Operand) : RepOpt C (x.map (opd S)) (x.map a.eval) := by
  cases x with
  | none => trivial
  | some x => exact opd_ok h x
theorem wp_of_value {o : Oper} {v : Value} {w' : World} {K : Act → World → Prop} {Q : Exit → Act → World → Prop} (h : (execOp a.eval o).run P w = .ok (.value v) w') (hk : K (a.put o.dst v) w') : o.wp P a w K Q := by
  unfold Oper.wp
  rw [h]
  exact hk
theorem wp_of_skip {o : Oper} {w' : World} {K : Act → World → Prop} {Q : Exit → Act → World → Prop} (h : (execOp a.eval o).run P w = .ok .skip w') (hk : K (a.put o.dst undef) w') : o.wp P a w K Q := by
  unfold Oper.wp
  rw [h]
  exact hk
theorem run_enter {f : FuncId} (h : Enters P f) (args : Array Value) (w : World) : (callFunc f args).run P w = .ok (.enter f args) w := by
  obtain ⟨fn, hf, hn, hb⟩ := h
  have hb' : fn.body ≠ none := by intro e; simp [e] at hb
  simp [callFunc, hf, hn, hb']
theorem wp_of_enter {o : Oper} {f : FuncId} {args : Array Value} {w' : World} {K : Act → World → Prop} {Q : Exit → Act → World → Prop} (h : (execOp a.eval o).run P w = .ok (.enter f args) w') (hk : Calls P f args w' (fun e w'' => ∃ v, e = .returned v ∧ K (a.put o.dst v) w'')) : o.wp P a w K Q := by
  unfold Oper.wp
  rw [h]
  refine Calls.mono hk ?_
  rintro e w'' ⟨v, rfl, hk⟩
  exact hk
theorem nilCheck_run {x : Value} (h1 : x ≠ .pointer none) (h2 : x ≠ .nilIface) (h3 : x ≠ .nilFunc) (h4 : ∀ n a b, x ≠ .func (.method n) a b) {o : Oper} {y : Operand} (ho : o.op = .nilCheck y) (hx : a.eval y = x) : (execOp a.eval o).run P w = .ok (.value x) w := by
  unfold execOp
  simp only [ho, hx]
  rfl
/-- One operation. -/
theorem op_ok {call : FuncId → List T → Option (T × List T)} (hC : Known P call) (h : SR B w inj S.σ S.cnt) (hs : Sl (sctx B w inj S.σ S.cnt) S a) {mv : FuncId → Bool} {site : Nat} {o : Oper} {d : Dl} (hd : evOp P call mv site S o = some d)
    {K : Act → World → Prop} {Q : Exit → Act → World → Prop} (hK : ∀ v w', Stp B w inj S.σ S.cnt d v w' → K (a.put o.dst v) w') : o.wp P a w K Q := by
  have viaV : ∀ {v w'}, (execOp a.eval o).run P w = .ok (.value v) w' → Stp B w inj S.σ S.cnt d v w' → o.wp P a w K Q := fun hr hst => wp_of_value hr (hK _ _ hst)
  have viaP : ∀ {y v}, pv y = some d → (execOp a.eval o).run P w = .ok (.value v) w → Rep (sctx B w inj S.σ S.cnt) y v → o.wp P a w K Q := by
    intro y v hy hr hrep
    unfold pv at hy
    injection hy with hy; subst hy
    exact wp_of_value hr (hK _ _ (Stp.pure h hrep []))
  have viaO : ∀ {r : Option T}, (match r with | some v => pv v | none => none) = some d → (∀ y, r = some y → ∃ v, (execOp a.eval o).run P w = .ok (.value v) w ∧ Rep (sctx B w inj S.σ S.cnt) y v) → o.wp P a w K Q := by
    intro r hr hy
    cases r with
    | none => simp at hr
    | some y =>
      obtain ⟨v, h1, h2⟩ := hy y rfl
      exact viaP hr h1 h2
  unfold evOp at hd
  split at hd
  · rename_i x ho
    exact viaP hd (by simp only [execOp, ho]; rfl) (opd_ok hs x)
  · rename_i x ho
    exact viaP hd (by simp only [execOp, ho]; rfl) (opd_ok hs x)
  · rename_i c p q ho
    split at hd
    · rename_i t hc
      have hcv : a.eval c = .bool t := by have := opd_ok hs c; rw [hc] at this; exact rep_s this
      have hrun : (execOp a.eval o).run P w = .ok (.value (if t then a.eval p else a.eval q)) w := by simp [execOp, ho, hcv, asBool]
      split at hd
      · rename_i b1 b2 hp hq
        have hpv : a.eval p = .bool b1 := by have := opd_ok hs p; rw [hp] at this; exact rep_s this
        have hqv : a.eval q = .bool b2 := by have := opd_ok hs q; rw [hq] at this; exact rep_s this
        refine viaP hd hrun ?_
        rw [hpv, hqv]
        cases t <;> exact .s rfl
      · refine viaP hd hrun ?_
        cases t
        · exact opd_ok hs q
        · exact opd_ok hs p
    · simp at hd
  · rename_i t ho
    split at hd
    · rename_i cs hz
      injection hd with hd; subst hd
      obtain ⟨v, w', hr, hst⟩ := alloc_ok h site hz
      exact viaV (by simp only [execOp, ho, Sem.run_bind, hr, Result.andThen_ok]; rfl) hst
    · simp at hd
  · rename_i t x ho
    split at hd
    · rename_i hk
      injection hd with hd; subst hd
      obtain ⟨v, w', hr, hst⟩ := box_ok (P := P) h site t (opd_ok hs x) hk
      exact viaV (by simp only [execOp, ho, Sem.run_bind, hr, Result.andThen_ok]; rfl) hst
    · simp at hd
  · rename_i t ps ho
    split at hd
    · rename_i hpl
      split at hd
      · rename_i z hz
        split at hd
        · rename_i cs hf
          have hpa : PartsA (sctx B w inj S.σ S.cnt) (ps.toList.map fun p => (p.1, opd S p.2)) (ps.map fun (i, x) => (i, a.eval x)).toList := by
            rw [Array.toList_map]; exact opdP_ok hs ps.toList
          obtain ⟨v, hr, hrep⟩ := build_ok (sctx_good _ _ _ _ _) hpl hz hf hpa w
          exact viaP hd (by simp only [execOp, ho, Sem.run_bind, hr, Result.andThen_ok]; rfl) hrep
        · simp at hd
      · simp at hd
    · simp at hd
  · rename_i t len ps ho
    split at hd
    · rename_i e he
      split at hd
      · rename_i sz z hsz hz
        split at hd
        · simp at hd
        · rename_i hno
          split at hd
          · rename_i ze hze
            split at hd
            · rename_i ys r hf
              split at hd
              · rename_i xs hset
                injection hd with hd; subst hd
                have hpa : PartsA (sctx B w inj S.σ S.cnt) (ps.toList.map fun p => (p.1, opd S p.2)) (ps.map fun (i, x) => (i, a.eval x)).toList := by
                  rw [Array.toList_map]; exact opdP_ok hs ps.toList
                obtain ⟨v, w', hr, hst⟩ := buildSlice_ok h site he hsz hz hno hze hpa (by simpa [List.map_map, Function.comp_def] using hf) (by simpa [List.map_map, Function.comp_def] using hset)
                exact viaV (by simp only [execOp, ho, Sem.run_bind, hr, Result.andThen_ok]; rfl) hst
              · simp at hd
            · simp at hd
          · simp at hd
      · simp at hd
    · simp at hd
  · rename_i t x ho
    obtain ⟨v, hr, hst⟩ := load_ok h (opd_ok hs x) hd
    exact viaV (by simp only [execOp, ho, Sem.run_bind, hr, Result.andThen_ok]; rfl) hst
  · rename_i t p x ho
    obtain ⟨w', hr, hst⟩ := store_ok h (opd_ok hs p) (opd_ok hs x) hd
    exact wp_of_skip (by simp only [execOp, ho, Sem.run_bind, hr, Result.andThen_ok]; rfl) (hK _ _ hst)
  · rename_i x ho
    have hx := opd_ok hs x
    split at hd
    · rename_i l off hv
      rw [hv] at hx
      have hx' := hx
      cases hx
      rename_i hp
      obtain ⟨_, b, hb, _⟩ := hp
      exact viaP hd (nilCheck_run (by simp [hb]) (by simp [hb]) (by simp [hb]) (by simp [hb]) ho rfl) hx'
    · rename_i cs hv
      rw [hv] at hx
      obtain ⟨us, ad, hb, _⟩ := hx.ep_parts
      exact viaP hd (nilCheck_run (by simp [hb]) (by simp [hb]) (by simp [hb]) (by simp [hb]) ho rfl) hx
    · rename_i l sz i off hv
      rw [hv] at hx
      have hx' := hx
      cases hx
      rename_i hp
      obtain ⟨_, b, hb, _⟩ := hp
      exact viaP hd (nilCheck_run (by simp [hb]) (by simp [hb]) (by simp [hb]) (by simp [hb]) ho rfl) hx'
    · rename_i t y hv
      rw [hv] at hx
      split at hd
      · simp at hd
      · rename_i h0t
        obtain ⟨b, u, hb⟩ : ∃ b u, a.eval x = .iface b u := by
          rcases ifc_val hx with ⟨h1, _⟩ | ⟨_, h2⟩
          · exact absurd h1 h0t
          · exact h2
        exact viaP hd (nilCheck_run (by simp [hb]) (by simp [hb]) (by simp [hb]) (by simp [hb]) ho rfl) hx
    · rename_i f fs cs hv
      rw [hv] at hx
      obtain ⟨vf, vc, hb, _⟩ := hx.fn_parts
      exact viaP hd (nilCheck_run (by simp [hb]) (by simp [hb]) (by simp [hb]) (by simp [hb]) ho rfl) hx
    · rename_i f p q hv
      rw [hv] at hx
      have hb := rep_s hx
      exact viaP hd (nilCheck_run (by simp [hb]) (by simp [hb]) (by simp [hb]) (by simp [hb]) ho rfl) hx
    · simp at hd
  · rename_i op t x y c ho
    refine viaO hd fun z hz => ?_
    obtain ⟨r, hr, hrep⟩ := bin_ok (opd_ok hs x) (opd_ok hs y) hz
    refine ⟨r, ?_, hrep⟩
    unfold binRun at hr
    simp only [execOp, ho, Sem.run_bind, hr, Result.andThen_ok]
    rfl
  · rename_i op t x ho
    refine viaO hd fun z hz => ?_
    obtain ⟨r, hr, hrep⟩ := un_ok (P := P) (opd_ok hs x) hz w
    exact ⟨r, by simp only [execOp, ho, Sem.run_bind, hr, Result.andThen_ok]; rfl, hrep⟩
  · rename_i p q x ho
    refine viaO hd fun z hz => ?_
    obtain ⟨r, hr, hrep⟩ := conv_ok (opd_ok hs x) hz w
    exact ⟨r, by simp only [execOp, ho, Sem.run_bind, hr, Result.andThen_ok]; rfl, hrep⟩
  · rename_i t x ho
    split at hd
    · simp at hd
    · simp at hd
    · rename_i dd hni hu
      split at hd
      · rename_i y r hf
        split at hd
        · rename_i hyk
          simp only [Bool.and_eq_true, decide_eq_true_eq] at hyk
          injection hd with hd; subst hd
          have hif : ifaceT P t = some false := by
            unfold ifaceT
            rw [hu]
            cases dd <;> first | rfl | exact absurd rfl (hni _)
          obtain ⟨v, hr, hst⟩ := makeIface_ok h (opd_ok hs x) hif hyk.2 hf
          exact viaV (by simp only [execOp, ho, Sem.run_bind, hr, Result.andThen_ok]; rfl) hst
        · simp at hd
      · simp at hd
  · rename_i f fs cs ho
    split at hd
    · refine viaP (v := .func f (fs.map a.eval) (cs.map a.eval)) hd (by simp only [execOp, ho, Instr.makeFunc, Sem.run_bind, Sem.run_pure, Result.andThen_ok]) ?_
      have h1 := opdL_ok hs fs.toList
      have h2 := opdL_ok hs cs.toList
      have e1 : fs.map a.eval = (fs.toList.map a.eval).toArray := by apply Array.ext'; simp
      have e2 : cs.map a.eval = (cs.toList.map a.eval).toArray := by apply Array.ext'; simp
      rw [e1, e2]
      exact .fn h1.1 h2.1 h1.2 h2.2
    · simp at hd
  · rename_i t x lo hi ho
    obtain ⟨r, hr, hst⟩ := slice_ok h (rekey h) (opd_ok hs x) (opdO_ok hs lo) (opdO_ok hs hi) hd
    exact viaV (by simp only [execOp, ho, Sem.run_bind, Option.map_none, hr, Result.andThen_ok]; rfl) hst
  · rename_i t x i ho
    refine viaO hd fun z hz => ?_
    obtain ⟨r, hr, hrep⟩ := fieldAddr_ok (opd_ok hs x) hz
    exact ⟨r, by simp only [execOp, ho, Sem.run_bind, hr, Result.andThen_ok]; rfl, hrep⟩
  · rename_i t x i ho
    refine viaO hd fun z hz => ?_
    obtain ⟨r, hr, hrep⟩ := field_ok (opd_ok hs x) hz w
    exact ⟨r, by simp only [execOp, ho, Sem.run_bind, hr, Result.andThen_ok]; rfl, hrep⟩
  · rename_i t x i ho
    obtain ⟨r, hr, hst⟩ := indexAddr_ok h (opd_ok hs x) (opd_ok hs i) hd
    exact viaV (by simp only [execOp, ho, Sem.run_bind, hr, Result.andThen_ok]; rfl) hst
  · rename_i t x i ho
    refine viaO hd fun z hz => ?_
    obtain ⟨r, hr, hrep⟩ := index_ok (opd_ok hs x) (opd_ok hs i) hz w
    exact ⟨r, by simp only [execOp, ho, Sem.run_bind, hr, Result.andThen_ok]; rfl, hrep⟩
  · rename_i t x ho
    split at hd
    · rename_i b hu hv
      injection hd with hd; subst hd
      have hx := opd_ok hs x
      rw [hv] at hx
      obtain ⟨v, w', hr, hst⟩ := range_ok h site (b := b) hu
      rw [← rep_s hx] at hr
      exact viaV (by simp only [execOp, ho, Sem.run_bind, hr, Result.andThen_ok]; rfl) hst
    · simp at hd
  · rename_i x ho
    have hx := opd_ok hs x
    split at hd
    · rename_i l hv
      rw [hv] at hx
      split at hd
      · rename_i b pos hl
        obtain ⟨r, w', hr, hst⟩ := next_ok (P := P) h hl hx o.type
        have hr' : (execOp a.eval o).run P w = .ok (.value r) w' := by simp only [execOp, ho, Sem.run_bind, hr, Result.andThen_ok]; rfl
        split at hd
        · rename_i hlt
          injection hd with hd; subst hd
          rw [if_pos hlt] at hst
          exact viaV hr' hst
        · rename_i hlt
          injection hd with hd; subst hd
          rw [if_neg hlt] at hst
          exact viaV hr' hst
      · simp at hd
    · simp at hd
  · rename_i x xt t ok ho
    refine viaO hd fun z hz => ?_
    obtain ⟨r, hr, hrep⟩ := assert_ok (opd_ok hs x) hz w
    exact ⟨r, by simp only [execOp, ho, Sem.run_bind, hr, Result.andThen_ok]; rfl, hrep⟩
  · rename_i x i ho
    have hx := opd_ok hs x
    split at hd
    · rename_i cs hv
      rw [hv] at hx
      refine viaO hd fun z hz => ?_
      obtain ⟨r, hr, hrep⟩ := extract_ok (P := P) hx hz w
      exact ⟨r, by simp only [execOp, ho, Sem.run_bind, hr, Result.andThen_ok]; rfl, hrep⟩
    · simp at hd
  · rename_i c ho
    have hargs := opdL_ok hs c.args.toList
    have hamap : c.args.map a.eval = (c.args.toList.map a.eval).toArray := by apply Array.ext'; simp
    have goCall : ∀ (g : FuncId) (targs : List T) (vals : List Value), RepA (sctx B w inj S.σ S.cnt) targs vals → evCall S call mv site g targs = some d → (execOp a.eval o).run P w = (callFunc g vals.toArray).run P w → o.wp P a w K Q := by
      intro g targs vals hra hev hrun
      have hent : Enters P g := by
        unfold evCall at hev
        split at hev
        · split at hev
          · split at hev
            · rename_i hcall; exact (hC _ _ _ _ hcall).1
            · simp at hev
          · simp at hev
        · simp at hev
      refine wp_of_enter (hrun.trans (run_enter hent _ w)) ((call_ok (fun g ca re ou hh => (hC g ca re ou hh).2) h hs.glob hra hev).mono ?_)
      rintro e w' ⟨v, rfl, hst⟩
      exact ⟨v, rfl, hK v w' hst⟩
    split at hd
    · rename_i hcal
      split at hd
      · rename_i x hxs
        obtain ⟨r, hr, hst⟩ := len_ok h (opd_ok hs x) hd c.argTypes rfl o.type
        refine viaV (v := r) ?_ hst
        simp only [execOp, ho, resolve, hcal, invoke, builtin, Sem.run_bind, Sem.run_pure, Result.andThen_ok, hamap, hxs, List.map_cons, List.map_nil, hr]
      · simp at hd
    · rename_i hcal
      split at hd
      · rename_i s x hxs
        split at hd
        · rename_i t ht
          obtain ⟨t1, ht1, v, w', hr, hst⟩ := append_ok (ty := o.type) h (opd_ok hs s) (opd_ok hs x) hd
          refine viaV (v := v) (w' := w') ?_ hst
          have hr' : (Builtin.append_ c.argTypes o.type #[a.eval s, a.eval x]).run P w = .ok v w' := by
            rw [← hr]
            simp only [Builtin.append_, ht, ht1]
            rfl
          simp only [execOp, ho, resolve, hcal, invoke, builtin, Sem.run_bind, Sem.run_pure, Result.andThen_ok, hamap, hxs, List.map_cons, List.map_nil, hr']
        · simp at hd
      · simp at hd
    · rename_i hcal
      refine viaO hd fun z hz => ?_
      obtain ⟨r, hr, hrep⟩ := minmax_ok (P := P) hargs hz c.argTypes o.type w
      refine ⟨r, ?_, hrep⟩
      simp only [Bool.false_eq_true, if_false] at hr
      simp only [execOp, ho, resolve, hcal, invoke, builtin, Sem.run_bind, Sem.run_pure, Result.andThen_ok, hamap, hr]
    · rename_i hcal
      refine viaO hd fun z hz => ?_
      obtain ⟨r, hr, hrep⟩ := minmax_ok (P := P) hargs hz c.argTypes o.type w
      refine ⟨r, ?_, hrep⟩
      simp only [if_true] at hr
      simp only [execOp, ho, resolve, hcal, invoke, builtin, Sem.run_bind, Sem.run_pure, Result.andThen_ok, hamap, hr]
    · rename_i f hcal
      have hf := opd_ok hs f
      split at hd
      · rename_i g p q hv
        split at hd
        · rename_i hemp
          simp only [Bool.and_eq_true, Array.isEmpty_iff] at hemp
          obtain ⟨rfl, rfl⟩ := hemp
          rw [hv] at hf
          have hfv := rep_s hf
          refine goCall g _ _ hargs hd ?_
          simp only [execOp, ho, resolve, hcal, hfv, Deferred.ofValue, invoke, Sem.run_bind, Sem.run_pure, Result.andThen_ok, hamap]
          simp
        · simp at hd
      · rename_i g fs cs hv
        rw [hv] at hf
        obtain ⟨vf, vc, hfv, h1, h2⟩ := hf.fn_parts
        refine goCall g _ (vf ++ c.args.toList.map a.eval ++ vc) ((h1.append hargs).append h2) hd ?_
        simp only [execOp, ho, resolve, hcal, hfv, Deferred.ofValue, invoke, Sem.run_bind, Sem.run_pure, Result.andThen_ok, hamap]
        simp
      · simp at hd
    · rename_i f name hcal
      have hf := opd_ok hs f
      split at hd
      · rename_i t x hv
        split at hd
        · simp at hd
        · rename_i h0t
          split at hd
          · rename_i g hg
            rw [hv] at hf
            obtain ⟨u, hfv, hru⟩ : ∃ u, a.eval f = .iface t u ∧ Rep (sctx B w inj S.σ S.cnt) x u := by
              generalize a.eval f = v at hf
              cases hf with
              | ifc h1 h2 => exact ⟨_, rfl, h2.of_ro⟩
              | ifn => exact absurd rfl h0t
            refine goCall g _ (u :: c.args.toList.map a.eval) (hargs.cons hru) hd ?_
            unfold methodOf at hg
            split at hg
            · rename_i i hi
              split at hg
              · rename_i m hm
                split at hg
                · rename_i hp
                  split at hg
                  · simp at hg
                  · rename_i g' d hud hmf hnp
                    injection hg with hg; subst hg
                    have hpl : m.path.toList = [] := List.isEmpty_iff.1 hp
                    have hmeth : (method (P.types.size + Made.depth) t u name).run P w = .ok (g', u) w := by
                      have hmd : 0 < Made.depth := by decide
                      obtain ⟨k, hk⟩ : ∃ k, P.types.size + Made.depth = k + 1 := ⟨P.types.size + Made.depth - 1, by omega⟩
                      rw [hk]
                      simp only [method, Sem.run_bind, run_info hi, Result.andThen_ok, hm, hpl, follow, Sem.run_pure, hmf, receiverAt, run_und hnp]
                      cases d <;> first | exact absurd hnp (hud _) | rfl
                    simp only [execOp, ho, resolve, hcal, hfv, invoke, callMethod, Sem.run_bind, Sem.run_pure, Result.andThen_ok, hamap]
                    simp [hmeth]
                    rw [List.take_of_length_le (by simp)]
                  · simp at hg
                · simp at hg
              · simp at hg
            · simp at hg
          · simp at hd
      · simp at hd
    · simp at hd
  · simp at hd
end
end Go.Proofs.YthcaodlfnlhfbaaDoorT
