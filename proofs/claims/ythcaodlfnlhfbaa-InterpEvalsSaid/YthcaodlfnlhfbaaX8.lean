/- Expressions as values; what is told of functions by the interpreter, at values. -/
import Derived.Test.YthcaodlfnlhfbaaE7
namespace Go.Proofs
open Go.RowKit
namespace YthcaodlfnlhfbaaT
set_option linter.unusedVariables false
/-- As a value. -/
def E.val : E → Value
  | .non => .nilIface
  | .lit n => .iface 90 (.agg #[.int .i64 n])
  | .ref s => .iface 92 (.agg #[.string s])
  | .not x => .iface 94 (.agg #[x.val])
  | .neg x => .iface 95 (.agg #[x.val])
  | .bin op l r => .iface 97 (.agg #[.string op, l.val, r.val])
theorem rep_scal {C : Ctx} {u v : Value} (h : Rep C (.s u) v) : v = u := by cases h; rfl
theorem rep_ifc {C : Ctx} {t : TypeId} {x : T} {v : Value} (ht : t ≠ 0) (h : Rep C (.ifc t x) v) : ∃ u, v = .iface t u ∧ Rep C.ro x u := by
  cases h with
  | ifc h0 h => exact ⟨_, rfl, h⟩
  | ifn => exact absurd rfl ht
theorem rep_nil {C : Ctx} {v : Value} (h : Rep C (.ifc 0 .dead) v) : v = .nilIface := by
  cases h with
  | ifc h0 h => exact absurd rfl h0
  | ifn => rfl
theorem rep_agg1 {C : Ctx} {x : T} {v : Value} (h : Rep C (.agg [x]) v) : ∃ u, v = .agg #[u] ∧ Rep C x u := by
  obtain ⟨vs, rfl, hl, hc, _⟩ := h.agg_parts
  match vs, hl with
  | [u], _ => exact ⟨u, rfl, hc 0 x u rfl rfl⟩
theorem rep_agg3 {C : Ctx} {x y z : T} {v : Value} (h : Rep C (.agg [x, y, z]) v) : ∃ a b c, v = .agg #[a, b, c] ∧ Rep C x a ∧ Rep C y b ∧ Rep C z c := by
  obtain ⟨vs, rfl, hl, hc, _⟩ := h.agg_parts
  match vs, hl with
  | [a, b, c], _ => exact ⟨a, b, c, rfl, hc 0 x a rfl rfl, hc 1 y b rfl rfl, hc 2 z c rfl rfl⟩
theorem val_of_rep : ∀ (x : E) {C : Ctx} {v : Value}, Rep C (x.v.v) v → v = x.val := by
  intro x
  induction x with
  | non => intro C v h; exact rep_nil h
  | lit n =>
    intro C v h
    replace h : Rep C (.ifc 90 (.agg [.s (.int .i64 n)])) v := h
    obtain ⟨u, rfl, h'⟩ := rep_ifc (by decide) h
    clear h
    obtain ⟨a, rfl, h⟩ := rep_agg1 h'
    rw [rep_scal h]; rfl
  | ref s =>
    intro C v h
    replace h : Rep C (.ifc 92 (.agg [.s (.string s)])) v := h
    obtain ⟨u, rfl, h'⟩ := rep_ifc (by decide) h
    clear h
    obtain ⟨a, rfl, h⟩ := rep_agg1 h'
    rw [rep_scal h]; rfl
  | not x ih =>
    intro C v h
    replace h : Rep C (.ifc 94 (.agg [x.v.v])) v := h
    obtain ⟨u, rfl, h'⟩ := rep_ifc (by decide) h
    clear h
    obtain ⟨a, rfl, h⟩ := rep_agg1 h'
    rw [ih h]; rfl
  | neg x ih =>
    intro C v h
    replace h : Rep C (.ifc 95 (.agg [x.v.v])) v := h
    obtain ⟨u, rfl, h'⟩ := rep_ifc (by decide) h
    clear h
    obtain ⟨a, rfl, h⟩ := rep_agg1 h'
    rw [ih h]; rfl
  | bin op l r ih1 ih2 =>
    intro C v h
    replace h : Rep C (.ifc 97 (.agg [.s (.string op), l.v.v, r.v.v])) v := h
    obtain ⟨u, rfl, h'⟩ := rep_ifc (by decide) h
    obtain ⟨a, b, c, rfl, h1, h2, h3⟩ := rep_agg3 h'
    rw [rep_scal h1, ih1 h2, ih2 h3]; rfl
theorem val_one (x : E) : one x.val := by cases x <;> rfl
theorem agg1_rep {C : Ctx} {x : T} {u : Value} (h : Rep C x u) (h1 : one u) : Rep C (.agg [x]) (.agg #[u]) :=
  Rep.agg (vs := [u]) rfl (fun j y v hy hv => by
    match j with
    | 0 => simp at hy hv; subst hy hv; exact h
    | j + 1 => simp at hy) (fun v hv => by simp at hv; subst hv; exact h1)
theorem rep_of_val : ∀ (x : E) {C : Ctx}, Rep C (x.v.v) x.val := by
  intro x
  induction x with
  | non => intro C; exact .ifn
  | lit n => intro C; show Rep C (.ifc 90 (.agg [.s (.int .i64 n)])) _; exact .ifc (by decide) (agg1_rep (.s rfl) rfl)
  | ref s => intro C; show Rep C (.ifc 92 (.agg [.s (.string s)])) _; exact .ifc (by decide) (agg1_rep (.s rfl) rfl)
  | not x ih => intro C; show Rep C (.ifc 94 (.agg [x.v.v])) _; exact .ifc (by decide) (agg1_rep ih (val_one x))
  | neg x ih => intro C; show Rep C (.ifc 95 (.agg [x.v.v])) _; exact .ifc (by decide) (agg1_rep ih (val_one x))
  | bin op l r ih1 ih2 =>
    intro C
    show Rep C (.ifc 97 (.agg [.s (.string op), l.v.v, r.v.v])) _
    refine .ifc (by decide) (Rep.agg (vs := [.string op, l.val, r.val]) rfl (fun j y v hy hv => ?_) (fun v hv => ?_))
    · match j with
      | 0 => simp at hy hv; subst hy hv; exact .s rfl
      | 1 => simp at hy hv; subst hy hv; exact ih1
      | 2 => simp at hy hv; subst hy hv; exact ih2
      | j + 3 => simp at hy
    · simp at hv
      rcases hv with rfl | rfl | rfl
      · rfl
      · exact val_one l
      · exact val_one r
theorem X_val {w : World} {ok : Nat → Prop} (x : E) : RepX w ok (x.v.v) x.val [] := ⟨rfl, rep_of_val x⟩
/-- What the interpreter tells of a call at one expression: nothing that was there has turned. -/
theorem calls_of_runs {f : FuncId} {x : E} {res : T} (h : Rn f [x.v.v] (res, [.dead])) (w : World) (hG : Glob w (fun k => k < w.heap.size)) :
    Calls Try.prog f #[x.val] w fun e w' => Below w.heap.size w w' ∧ ∃ v b ok, e = .returned v ∧ RepX w' ok res v b ∧ ∀ k, ok k → k < w'.heap.size := by
  refine (h.2 w (fun k => k < w.heap.size) [x.val] [] ⟨_, _, [], [], rfl, rfl, X_val x, rfl, rfl⟩ .nil (fun k hk => (List.not_mem_nil hk).elim) (fun k hk => hk) hG).mono ?_
  rintro e w' ⟨v, b1, b2, rfl, _, _, hfr, hr, _⟩
  exact ⟨(hfr.mono (fun i hi => (List.not_mem_nil hi).elim)).below, v, b1, _, rfl, hr, fun k hk => hk.2.1⟩
/-- At an expression, to a result without an address of one's own. -/
theorem runs_val {f : FuncId} {x : E} {res : T} (he : Enters Try.prog f)
    (h : ∀ w : World, Glob w (fun k => k < w.heap.size) → Calls Try.prog f #[x.val] w (fun e w' => Below w.heap.size w w' ∧ ∃ v, e = .returned v ∧ ∀ ok : Nat → Prop, (∀ k, w.heap.size ≤ k → k < w'.heap.size → ok k) → RepX w' ok res v [])) : Rn f [x.v.v] (res, [.dead]) := by
  refine ⟨he, fun w ok vals b hx hnd hb hok hG => ?_⟩
  obtain ⟨u, us, b1, b2, rfl, rfl, ⟨rfl, hu⟩, rfl, rfl⟩ := hx
  have := val_of_rep x hu
  subst this
  refine (h w (hG.mono fun k hk => ⟨hok k hk, rfl⟩)).mono ?_
  rintro e w' ⟨hbel, v, rfl, hr⟩
  refine ⟨v, [], [], rfl, .nil, by simp, ⟨hbel.os, hbel.tape, hbel.output, hbel.size, fun k hk _ => hbel.block k hk⟩, hr _ (fun k h1 h2 => ⟨.inr (.inr h1), h2, by simp⟩), ⟨_, [], [], [], rfl, rfl, rfl, rfl, rfl⟩⟩
/-- The operands, as values: a slice that can be read. -/
theorem ops_calls (x : E) (w : World) (hG : Glob w (fun k => k < w.heap.size)) :
    Calls Try.prog 42 #[x.val] w fun e w' => Below w.heap.size w w' ∧ ∃ (A : Option Addr) (c : Nat), e = .returned (.slice A x.ops.length c) ∧
      (x.ops = [] ∨ ∃ ad : Addr, A = some ad ∧ ad.spot = none ∧ ad.block < w'.heap.size ∧ ∀ (k : Nat) (y : E), x.ops[k]? = some y → w'.cell? ⟨ad.block, ad.off + k, none⟩ = some y.val) := by
  refine (calls_of_runs (r42 x) w hG).mono ?_
  rintro e w' ⟨hb, v, b, ok, rfl, ⟨rfl, hr⟩, hok⟩
  refine ⟨hb, ?_⟩
  obtain ⟨A, c, rfl, hc, hm⟩ := hr.sl_row
  refine ⟨A, c, by simp, ?_⟩
  rcases hm with h | ⟨ad, rfl, hs, hok', us, hra, hsz, hcell⟩
  · left
    simpa using h
  · right
    refine ⟨ad, rfl, hs, hok _ hok', fun k y hy => ?_⟩
    obtain ⟨u, hu, hru⟩ := hra.get (j := k) (x := y.v.v) (by rw [List.getElem?_map, hy]; rfl)
    have := val_of_rep y hru
    subst this
    have := hcell k 0 _ _ hu (show y.val.cells[0]? = some y.val by cases y <;> rfl)
    have e1 : (cctx w' ok).w = w' := rfl
    simpa [e1] using this
end YthcaodlfnlhfbaaT
end Go.Proofs
