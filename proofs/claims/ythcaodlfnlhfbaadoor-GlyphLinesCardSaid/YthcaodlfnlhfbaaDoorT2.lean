/- The interpreter over trees: how trees stand for values in memory; what keeps that. -/
import Derived.Test.YthcaodlfnlhfbaaDoorT1
import Derived.Test.YthcaodlfnlhfbaaDoorT0
import Derived.Below
import Derived.OwnWalk
namespace Go.Proofs.YthcaodlfnlhfbaaDoorT
open Go
set_option linter.unusedVariables false

/-- What a tree is read in: the world, the blocks that may be read (and stay as they are), what the call's own things stand for. -/
structure Ctx where
  w : World
  ok : Nat → Prop
  own : Loc → Value → Prop
  ptr : Loc → Nat → Value → Prop
  eptr : Loc → Nat → Nat → Nat → Value → Prop
  it : Loc → Value → Prop
/-- Nothing of one's own in it. -/
def Ctx.ro (C : Ctx) : Ctx := { C with own := fun _ _ => False, ptr := fun _ _ _ => False, eptr := fun _ _ _ _ _ => False, it := fun _ _ => False }
theorem Ctx.ro_ro (C : Ctx) : C.ro.ro = C.ro := rfl
def one (u : Value) : Prop := u.oneCell' = true

inductive Rep : Ctx → T → Value → Prop
  | s {C : Ctx} {u : Value} (h : plainV u = true) : Rep C (.s u) u
  | agg {C : Ctx} {cs : List T} {vs : List Value} (hl : cs.length = vs.length) (h : ∀ (j : Nat) (x : T) (u : Value), cs[j]? = some x → vs[j]? = some u → Rep C x u) (h1 : ∀ u ∈ vs, one u) : Rep C (.agg cs) (.agg vs.toArray)
  | tup {C : Ctx} {cs : List T} {vs : List Value} (hl : cs.length = vs.length) (h : ∀ (j : Nat) (x : T) (u : Value), cs[j]? = some x → vs[j]? = some u → Rep C x u) : Rep C (.tup cs) (.tuple vs.toArray)
  | ifc {C : Ctx} {t : TypeId} {x : T} {u : Value} (h0 : t ≠ 0) (h : Rep C.ro x u) : Rep C (.ifc t x) (.iface t u)
  | ifn {C : Ctx} {x : T} : Rep C (.ifc 0 x) .nilIface
  | sl {C : Ctx} {sz : Nat} {xs : List T} {us : List Value} {A : Option Addr} {c : Nat} (hl : xs.length = us.length) (hc : xs.length ≤ c)
      (h : ∀ (j : Nat) (x : T) (u : Value), xs[j]? = some x → us[j]? = some u → Rep C.ro x u) (hs : ∀ u ∈ us, u.cells.size = sz)
      (hm : xs = [] ∨ ∃ ad : Addr, A = some ad ∧ ad.spot = none ∧ C.ok ad.block ∧ ∀ (j i : Nat) (u cv : Value), us[j]? = some u → u.cells[i]? = some cv → C.w.cell? ⟨ad.block, ad.off + (j * sz + i), none⟩ = some cv) :
      Rep C (.sl sz xs) (.slice A xs.length c)
  | own {C : Ctx} {l : Loc} {v : Value} (h : C.own l v) : Rep C (.own l) v
  | ptr {C : Ctx} {l : Loc} {off : Nat} {v : Value} (h : C.ptr l off v) : Rep C (.ptr l off) v
  | eptr {C : Ctx} {l : Loc} {sz i off : Nat} {v : Value} (h : C.eptr l sz i off v) : Rep C (.eptr l sz i off) v
  | it {C : Ctx} {l : Loc} {v : Value} (h : C.it l v) : Rep C (.it l) v
  | ep {C : Ctx} {cs : List T} {us : List Value} {ad : Addr} (hl : cs.length = us.length)
      (h : ∀ (j : Nat) (x : T) (u : Value), cs[j]? = some x → us[j]? = some u → Rep C.ro x u) (h1 : ∀ u ∈ us, one u)
      (hsp : ad.spot = none) (hok : C.ok ad.block) (hm : ∀ (i : Nat) (cv : Value), us[i]? = some cv → C.w.cell? ⟨ad.block, ad.off + i, none⟩ = some cv) : Rep C (.ep cs) (.pointer (some ad))
  | fn {C : Ctx} {f : Fn} {fs cs : List T} {vf vc : List Value} (hl : fs.length = vf.length) (hl' : cs.length = vc.length)
      (h : ∀ (j : Nat) (x : T) (u : Value), fs[j]? = some x → vf[j]? = some u → Rep C x u) (h' : ∀ (j : Nat) (x : T) (u : Value), cs[j]? = some x → vc[j]? = some u → Rep C x u) :
      Rep C (.fn f fs cs) (.func f vf.toArray vc.toArray)
  | dead {C : Ctx} {v : Value} : Rep C .dead v

/-- More is known, and what may be read has stayed. -/
structure Ctx.le (C C' : Ctx) : Prop where
  ok : ∀ k, C.ok k → C'.ok k ∧ C'.w.heap[k]? = C.w.heap[k]?
  own : ∀ l v, C.own l v → C'.own l v
  ptr : ∀ l n v, C.ptr l n v → C'.ptr l n v
  eptr : ∀ l s i n v, C.eptr l s i n v → C'.eptr l s i n v
  it : ∀ l v, C.it l v → C'.it l v
theorem Ctx.le.refl (C : Ctx) : C.le C := ⟨fun _ h => ⟨h, rfl⟩, fun _ _ h => h, fun _ _ _ h => h, fun _ _ _ _ _ h => h, fun _ _ h => h⟩
theorem Ctx.le.trans {A B C : Ctx} (h : A.le B) (k : B.le C) : A.le C :=
  ⟨fun n hn => ⟨(k.ok n (h.ok n hn).1).1, ((k.ok n (h.ok n hn).1).2).trans (h.ok n hn).2⟩, fun _ _ x => k.own _ _ (h.own _ _ x), fun _ _ _ x => k.ptr _ _ _ (h.ptr _ _ _ x), fun _ _ _ _ _ x => k.eptr _ _ _ _ _ (h.eptr _ _ _ _ _ x), fun _ _ x => k.it _ _ (h.it _ _ x)⟩
theorem Ctx.le.roro {C C' : Ctx} (h : C.le C') : C.ro.le C'.ro := ⟨h.ok, fun _ _ h => h, fun _ _ _ h => h, fun _ _ _ _ _ h => h, fun _ _ h => h⟩
theorem Ctx.ro_le (C : Ctx) : C.ro.le C := ⟨fun _ h => ⟨h, rfl⟩, fun _ _ h => h.elim, fun _ _ _ h => h.elim, fun _ _ _ _ _ h => h.elim, fun _ _ h => h.elim⟩
theorem cell_of_block {w w' : World} {b : Nat} (h : w'.heap[b]? = w.heap[b]?) (o : Nat) (s : Option Nat) : w'.cell? ⟨b, o, s⟩ = w.cell? ⟨b, o, s⟩ := by
  simp only [World.cell?, h]
theorem Rep.mono {C : Ctx} {t : T} {v : Value} (h : Rep C t v) : ∀ {C' : Ctx}, C.le C' → Rep C' t v := by
  induction h with
  | s h => exact fun _ => .s h
  | agg hl h h1 ih => exact fun le => .agg hl (fun j x u hx hu => ih j x u hx hu le) h1
  | tup hl h ih => exact fun le => .tup hl (fun j x u hx hu => ih j x u hx hu le)
  | ifc h0 h ih => exact fun le => .ifc h0 (ih le.roro)
  | ifn => exact fun _ => .ifn
  | sl hl hc h hs hm ih =>
    intro C' le
    refine .sl hl hc (fun j x u hx hu => ih j x u hx hu le.roro) hs ?_
    rcases hm with hm | ⟨ad, e, hsp, hok, hcell⟩
    · exact .inl hm
    · exact .inr ⟨ad, e, hsp, (le.ok _ hok).1, fun j i u cv hu hcv => (cell_of_block (le.ok _ hok).2 _ _).trans (hcell j i u cv hu hcv)⟩
  | own h => exact fun le => .own (le.own _ _ h)
  | ptr h => exact fun le => .ptr (le.ptr _ _ _ h)
  | eptr h => exact fun le => .eptr (le.eptr _ _ _ _ _ h)
  | it h => exact fun le => .it (le.it _ _ h)
  | ep hl h h1 hsp hok hm ih =>
    intro C' le
    exact .ep hl (fun j x u hx hu => ih j x u hx hu le.roro) h1 hsp (le.ok _ hok).1 (fun i cv hi => (cell_of_block (le.ok _ hok).2 _ _).trans (hm i cv hi))
  | fn hl hl' h h' ih ih' => exact fun le => .fn hl hl' (fun j x u hx hu => ih j x u hx hu le) (fun j x u hx hu => ih' j x u hx hu le)
  | dead => exact fun _ => .dead
theorem Rep.of_ro {C : Ctx} {t : T} {v : Value} (h : Rep C.ro t v) : Rep C t v := h.mono C.ro_le

/-- What is known of package-level variables: of each that is listed, that it may be read, and what it holds. -/
def Glob (w : World) (ok : Nat → Prop) : Prop := ∀ e ∈ GL, ok e.1 ∧ ∃ (cs : Array Value) (t : TypeId) (z : Nat × Nat), w.heap[e.1]? = some (.cells cs t z) ∧ e.2 cs
theorem Glob.mono {w w' : World} {ok ok' : Nat → Prop} (h : Glob w ok) (hk : ∀ k, ok k → ok' k ∧ w'.heap[k]? = w.heap[k]?) : Glob w' ok' := by
  intro e he
  obtain ⟨h1, cs, t, z, h2, h3⟩ := h e he
  exact ⟨(hk _ h1).1, cs, t, z, by rw [(hk _ h1).2]; exact h2, h3⟩
theorem Glob.le {C C' : Ctx} (h : Glob C.w C.ok) (le : C.le C') : Glob C'.w C'.ok := h.mono le.ok

/-- Lists, one by one. -/
def RepA (C : Ctx) (cs : List T) (us : List Value) : Prop := cs.length = us.length ∧ ∀ (j : Nat) (x : T) (u : Value), cs[j]? = some x → us[j]? = some u → Rep C x u
theorem RepA.nil (C : Ctx) : RepA C [] [] := ⟨rfl, fun j x u h => by simp at h⟩
theorem RepA.cons {C : Ctx} {x : T} {u : Value} {cs : List T} {us : List Value} (h : Rep C x u) (hr : RepA C cs us) : RepA C (x :: cs) (u :: us) := by
  refine ⟨by simp [hr.1], fun j y v hy hv => ?_⟩
  cases j with
  | zero => simp at hy hv; subst hy; subst hv; exact h
  | succ j => simp at hy hv; exact hr.2 j y v hy hv
theorem RepA.head {C : Ctx} {x : T} {u : Value} {cs : List T} {us : List Value} (h : RepA C (x :: cs) (u :: us)) : Rep C x u := h.2 0 x u rfl rfl
theorem RepA.tail {C : Ctx} {x : T} {u : Value} {cs : List T} {us : List Value} (h : RepA C (x :: cs) (u :: us)) : RepA C cs us :=
  ⟨by have := h.1; simpa using this, fun j y v hy hv => h.2 (j + 1) y v (by simpa using hy) (by simpa using hv)⟩
theorem RepA.mono {C C' : Ctx} {cs : List T} {us : List Value} (h : RepA C cs us) (le : C.le C') : RepA C' cs us := ⟨h.1, fun j x u hx hu => (h.2 j x u hx hu).mono le⟩
theorem RepA.take {C : Ctx} {cs : List T} {us : List Value} (h : RepA C cs us) (n : Nat) : RepA C (cs.take n) (us.take n) := by
  refine ⟨by simp [h.1], fun j x u hx hu => ?_⟩
  rw [List.getElem?_take] at hx hu
  split at hx
  · rename_i hj
    rw [if_pos hj] at hu
    exact h.2 j x u hx hu
  · simp at hx
theorem RepA.drop {C : Ctx} {cs : List T} {us : List Value} (h : RepA C cs us) (n : Nat) : RepA C (cs.drop n) (us.drop n) := by
  refine ⟨by simp [h.1], fun j x u hx hu => ?_⟩
  rw [List.getElem?_drop] at hx hu
  exact h.2 _ x u hx hu
theorem RepA.append {C : Ctx} {cs ds : List T} {us vs : List Value} (h : RepA C cs us) (k : RepA C ds vs) : RepA C (cs ++ ds) (us ++ vs) := by
  refine ⟨by simp [h.1, k.1], fun j x u hx hu => ?_⟩
  rw [List.getElem?_append] at hx hu
  rw [h.1] at hx
  split at hx
  · rename_i hj
    rw [if_pos hj] at hu
    exact h.2 j x u hx hu
  · rename_i hj
    rw [if_neg hj] at hu
    exact k.2 _ x u hx hu
theorem RepA.set {C : Ctx} {cs : List T} {us : List Value} {x : T} {u : Value} (h : RepA C cs us) (i : Nat) (hx : Rep C x u) : RepA C (cs.set i x) (us.set i u) := by
  refine ⟨by simp [h.1], fun j y v hy hv => ?_⟩
  rw [List.getElem?_set] at hy hv
  rw [h.1] at hy
  split at hy
  · rename_i hj
    subst hj
    simp only [if_true] at hv
    split at hy
    · rename_i hi
      rw [if_pos hi] at hv
      simp at hy hv
      subst hy; subst hv
      exact hx
    · simp at hy
  · rename_i hj
    rw [if_neg hj] at hv
    exact h.2 j y v hy hv
theorem RepA.get {C : Ctx} {cs : List T} {us : List Value} (h : RepA C cs us) {j : Nat} {x : T} (hx : cs[j]? = some x) : ∃ u, us[j]? = some u ∧ Rep C x u := by
  have hj : j < us.length := by
    have := (List.getElem?_eq_some_iff.1 hx).1
    have := h.1
    omega
  exact ⟨us[j], List.getElem?_eq_getElem hj, h.2 j x _ hx (List.getElem?_eq_getElem hj)⟩
theorem RepA.one {C : Ctx} {x : T} {u : Value} (h : Rep C x u) : RepA C [x] [u] := (RepA.nil C).cons h
theorem RepA.of_ro {C : Ctx} {cs : List T} {us : List Value} (h : RepA C.ro cs us) : RepA C cs us := h.mono C.ro_le

/-- One's own things are values of one cell. -/
structure Ctx.Good (C : Ctx) : Prop where
  own : ∀ l v, C.own l v → ∃ a n c, v = .slice a n c
  ptr : ∀ l n v, C.ptr l n v → ∃ a, v = .pointer a
  eptr : ∀ l s i n v, C.eptr l s i n v → ∃ a, v = .pointer a
theorem Ctx.ro_good (C : Ctx) : C.ro.Good := ⟨fun _ _ h => h.elim, fun _ _ _ h => h.elim, fun _ _ _ _ _ h => h.elim⟩
/-- A value's cells, as trees. -/
theorem Rep.cells {C : Ctx} {x : T} {u : Value} (hg : C.Good) (h : Rep C x u) (hk : x.ok1 = true) : RepA C x.cells u.cells.toList ∧ ∀ c ∈ u.cells.toList, one c := by
  cases h with
  | agg hl h h1 => exact ⟨⟨hl, h⟩, h1⟩
  | tup hl h => simp [T.ok1] at hk
  | it h => simp [T.ok1] at hk
  | dead => simp [T.ok1] at hk
  | s h =>
    have e : u.cells = #[u] := by cases u <;> simp [plainV] at h <;> rfl
    rw [e]
    refine ⟨RepA.one (.s h), fun c hc => ?_⟩
    simp at hc; subst hc
    cases c <;> simp [plainV] at h <;> rfl
  | ifc h0 h => exact ⟨RepA.one (.ifc h0 h), fun c hc => by simp [Value.cells] at hc; subst hc; rfl⟩
  | ifn => exact ⟨RepA.one .ifn, fun c hc => by simp [Value.cells] at hc; subst hc; rfl⟩
  | sl hl hc h hs hm => exact ⟨RepA.one (.sl hl hc h hs hm), fun c hc => by simp [Value.cells] at hc; subst hc; rfl⟩
  | own h => obtain ⟨a, n, c, rfl⟩ := hg.own _ _ h; exact ⟨RepA.one (.own h), fun c hc => by simp [Value.cells] at hc; subst hc; rfl⟩
  | ptr h => obtain ⟨a, rfl⟩ := hg.ptr _ _ _ h; exact ⟨RepA.one (.ptr h), fun c hc => by simp [Value.cells] at hc; subst hc; rfl⟩
  | eptr h => obtain ⟨a, rfl⟩ := hg.eptr _ _ _ _ _ h; exact ⟨RepA.one (.eptr h), fun c hc => by simp [Value.cells] at hc; subst hc; rfl⟩
  | ep hl h h1 hsp hok hm => exact ⟨RepA.one (.ep hl h h1 hsp hok hm), fun c hc => by simp [Value.cells] at hc; subst hc; rfl⟩
  | fn hl hl' h h' => exact ⟨RepA.one (.fn hl hl' h h'), fun c hc => by simp [Value.cells] at hc; subst hc; rfl⟩

/-! ### Rows of elements -/
/-- Cells that hold elements, one behind the other. -/
def RowOf (C : Ctx) (sz : Nat) (xs : List T) (cells : Nat → Option Value) : Prop :=
  ∃ us : List Value, RepA C xs us ∧ (∀ u ∈ us, u.cells.size = sz) ∧ ∀ (j i : Nat) (u cv : Value), us[j]? = some u → u.cells[i]? = some cv → cells (j * sz + i) = some cv
theorem RowOf.mono {C C' : Ctx} {sz : Nat} {xs : List T} {f g : Nat → Option Value} (h : RowOf C sz xs f) (le : C.le C') (hfg : ∀ i v, f i = some v → g i = some v) : RowOf C' sz xs g := by
  obtain ⟨us, h1, h2, h3⟩ := h
  exact ⟨us, h1.mono le, h2, fun j i u cv hu hc => hfg _ _ (h3 j i u cv hu hc)⟩
theorem RowOf.nil (C : Ctx) (sz : Nat) (f : Nat → Option Value) : RowOf C sz [] f := ⟨[], RepA.nil C, fun u hu => (List.not_mem_nil hu).elim, fun j i u cv hu => by simp at hu⟩
theorem RowOf.take {C : Ctx} {sz : Nat} {xs : List T} {f : Nat → Option Value} (h : RowOf C sz xs f) (n : Nat) : RowOf C sz (xs.take n) f := by
  obtain ⟨us, h1, h2, h3⟩ := h
  refine ⟨us.take n, h1.take n, fun u hu => h2 u (List.mem_of_mem_take hu), fun j i u cv hu hc => h3 j i u cv ?_ hc⟩
  rw [List.getElem?_take] at hu
  split at hu
  · exact hu
  · simp at hu
theorem RowOf.drop {C : Ctx} {sz : Nat} {xs : List T} {f : Nat → Option Value} (h : RowOf C sz xs f) (n : Nat) : RowOf C sz (xs.drop n) (fun i => f (n * sz + i)) := by
  obtain ⟨us, h1, h2, h3⟩ := h
  refine ⟨us.drop n, h1.drop n, fun u hu => h2 u (List.mem_of_mem_drop hu), fun j i u cv hu hc => ?_⟩
  rw [List.getElem?_drop] at hu
  have := h3 (n + j) i u cv hu hc
  rw [Nat.add_mul, Nat.add_assoc] at this
  exact this
/-- An element, and its cells. -/
theorem RowOf.get {C : Ctx} {sz : Nat} {xs : List T} {f : Nat → Option Value} (h : RowOf C sz xs f) {j : Nat} {x : T} (hx : xs[j]? = some x) : ∃ u, Rep C x u ∧ u.cells.size = sz ∧ ∀ i cv, u.cells[i]? = some cv → f (j * sz + i) = some cv := by
  obtain ⟨us, h1, h2, h3⟩ := h
  obtain ⟨u, hu, hr⟩ := h1.get hx
  exact ⟨u, hr, h2 u (List.mem_of_getElem? hu), fun i cv hc => h3 j i u cv hu hc⟩
theorem Rep.sl_row {C : Ctx} {sz : Nat} {xs : List T} {v : Value} (h : Rep C (.sl sz xs) v) : ∃ A c, v = .slice A xs.length c ∧ xs.length ≤ c ∧ (xs = [] ∨ ∃ ad : Addr, A = some ad ∧ ad.spot = none ∧ C.ok ad.block ∧ RowOf C.ro sz xs (fun i => C.w.cell? ⟨ad.block, ad.off + i, none⟩)) := by
  cases h with
  | sl hl hc h hs hm =>
    rename_i us A c
    refine ⟨A, c, rfl, hc, ?_⟩
    rcases hm with hm | ⟨ad, e, hsp, hok, hcell⟩
    · exact .inl hm
    · exact .inr ⟨ad, e, hsp, hok, us, ⟨hl, h⟩, hs, hcell⟩
theorem Rep.sl_mk {C : Ctx} {sz : Nat} {xs : List T} {A : Option Addr} {c : Nat} (hc : xs.length ≤ c) (hm : xs = [] ∨ ∃ ad : Addr, A = some ad ∧ ad.spot = none ∧ C.ok ad.block ∧ RowOf C.ro sz xs (fun i => C.w.cell? ⟨ad.block, ad.off + i, none⟩)) : Rep C (.sl sz xs) (.slice A xs.length c) := by
  rcases hm with rfl | ⟨ad, e, hsp, hok, us, h1, h2, h3⟩
  · exact .sl (us := []) rfl hc (fun j x u h => by simp at h) (fun u hu => (List.not_mem_nil hu).elim) (.inl rfl)
  · exact .sl h1.1 hc h1.2 h2 (.inr ⟨ad, e, hsp, hok, h3⟩)
theorem Rep.ep_parts {C : Ctx} {cs : List T} {v : Value} (h : Rep C (.ep cs) v) : ∃ (us : List Value) (ad : Addr), v = .pointer (some ad) ∧ cs.length = us.length ∧ (∀ (j : Nat) (x : T) (u : Value), cs[j]? = some x → us[j]? = some u → Rep C.ro x u) ∧ (∀ u ∈ us, one u) ∧
    ad.spot = none ∧ C.ok ad.block ∧ ∀ (i : Nat) (cv : Value), us[i]? = some cv → C.w.cell? ⟨ad.block, ad.off + i, none⟩ = some cv := by
  cases h with
  | ep hl h h1 hsp hok hm => exact ⟨_, _, rfl, hl, h, h1, hsp, hok, hm⟩
theorem Rep.agg_parts {C : Ctx} {cs : List T} {v : Value} (h : Rep C (.agg cs) v) : ∃ vs : List Value, v = .agg vs.toArray ∧ cs.length = vs.length ∧ (∀ (j : Nat) (x : T) (u : Value), cs[j]? = some x → vs[j]? = some u → Rep C x u) ∧ ∀ u ∈ vs, one u := by
  cases h with
  | agg hl h h1 => exact ⟨_, rfl, hl, h, h1⟩
theorem Rep.tup_parts {C : Ctx} {cs : List T} {v : Value} (h : Rep C (.tup cs) v) : ∃ vs : List Value, v = .tuple vs.toArray ∧ RepA C cs vs := by
  cases h with
  | tup hl h => exact ⟨_, rfl, hl, h⟩
theorem Rep.fn_parts {C : Ctx} {f : Fn} {fs cs : List T} {v : Value} (h : Rep C (.fn f fs cs) v) : ∃ vf vc : List Value, v = .func f vf.toArray vc.toArray ∧ RepA C fs vf ∧ RepA C cs vc := by
  cases h with
  | fn hl hl' h h' => exact ⟨_, _, rfl, ⟨hl, h⟩, ⟨hl', h'⟩⟩
/-- nil of an interface. -/
theorem rep_nilI (C : Ctx) : Rep C nilI .nilIface := .ifn
theorem rep_ofV {C : Ctx} {u : Value} (h : plainI u = true) : Rep C (ofV u) u := by
  cases u <;> first | exact .ifn | exact .s h
theorem ok1_ofV (u : Value) : (ofV u).ok1 = true := by cases u <;> rfl
/-- Canonical. -/
theorem canC_rep {P : Program} {C : Ctx} {t : TypeId} {x : T} {v : Value} (h : Rep C x v) : Rep C (canC P t x) v := by
  unfold canC
  split
  · split
    · split
      · split
        · obtain ⟨A, c, rfl, hc, _⟩ := h.sl_row
          exact Rep.sl_mk hc (.inl rfl)
        · exact h
      · exact h
    · exact h
  · exact h
theorem canL_rep {P : Program} {C : Ctx} : ∀ (ts : List TypeId) (cs : List T) (us : List Value), RepA C cs us → RepA C (canL P ts cs) us
  | [], cs, us, h => by cases cs <;> exact h
  | t :: ts, [], us, h => h
  | t :: ts, c :: cs, [], h => absurd h.1 (by simp)
  | t :: ts, c :: cs, u :: us, h => (canL_rep ts cs us h.tail).cons (canC_rep h.head)
theorem canT_rep {P : Program} {C : Ctx} {t : TypeId} {x : T} {v : Value} (h : Rep C x v) : Rep C (canT P t x) v := by
  unfold canT
  split
  · obtain ⟨vs, rfl, hl, hc, h1⟩ := h.agg_parts
    have := canL_rep (P := P) (leafT P 6 t) _ vs ⟨hl, hc⟩
    exact .agg this.1 this.2 h1
  · exact canC_rep h
theorem canM_rep {P : Program} {C : Ctx} {t : TypeId} {xs : List T} {us : List Value} (h : RepA C xs us) : RepA C (xs.map (canT P t)) us := by
  refine ⟨by simp [h.1], fun j x u hx hu => ?_⟩
  rw [List.getElem?_map] at hx
  cases hj : xs[j]? with
  | none => rw [hj] at hx; simp at hx
  | some y => rw [hj] at hx; simp at hx; subst hx; exact canT_rep (h.2 j y u hj hu)
end Go.Proofs.YthcaodlfnlhfbaaDoorT
