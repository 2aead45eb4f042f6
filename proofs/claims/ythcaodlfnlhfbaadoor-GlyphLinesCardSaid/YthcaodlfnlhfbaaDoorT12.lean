/- The interpreter over trees: values handed over at a call's border: closed, and opened again. -/
import Derived.Test.YthcaodlfnlhfbaaDoorT11
namespace Go.Proofs.YthcaodlfnlhfbaaDoorT
open Go Go.RowKit
set_option linter.unusedVariables false

/-- What may be read, nothing of one's own. -/
def cctx (w : World) (ok : Nat → Prop) : Ctx where
  w := w
  ok := ok
  own := fun _ _ => False
  ptr := fun _ _ _ => False
  eptr := fun _ _ _ _ _ => False
  it := fun _ _ => False
theorem cctx_ro (w : World) (ok : Nat → Prop) : (cctx w ok).ro = cctx w ok := rfl
theorem cctx_le {w : World} {ok : Nat → Prop} {C : Ctx} (hw : C.w = w) (h : ∀ k, ok k → C.ok k) : (cctx w ok).le C.ro := ⟨fun k hk => ⟨h k hk, by rw [← hw]; rfl⟩, fun _ _ h => h.elim, fun _ _ _ h => h.elim, fun _ _ _ _ _ h => h.elim, fun _ _ h => h.elim⟩

mutual
/-- A closed tree stands for a value; the blocks that are handed over in it, in order. -/
def RepX (w : World) (ok : Nat → Prop) : T → Value → List Nat → Prop
  | .cown e sz xs, v, bs => ∃ (b c : Nat) (cells : Array Value), v = .slice (some ⟨b, 0, none⟩) xs.length c ∧ bs = [b] ∧ 0 < sz ∧ w.heap[b]? = some (.cells cells e (0, 0)) ∧ cells.size = c * sz ∧ xs.length ≤ c ∧ c ≤ maxLen ∧ RowOf (cctx w ok) sz xs (fun i => cells[i]?)
  | .cbox ty cs, v, bs => ∃ (b : Nat) (us : List Value) (bs' : List Nat), v = .pointer (some ⟨b, 0, none⟩) ∧ bs = b :: bs' ∧ w.heap[b]? = some (.cells us.toArray ty (0, 0)) ∧ RepXL w ok cs us bs' ∧ ∀ u ∈ us, one u
  | .agg cs, v, bs => ∃ vs : List Value, v = .agg vs.toArray ∧ RepXL w ok cs vs bs ∧ ∀ u ∈ vs, one u
  | .tup cs, v, bs => ∃ vs : List Value, v = .tuple vs.toArray ∧ RepXL w ok cs vs bs
  | .fn f fs cs, v, bs => ∃ (vf vc : List Value) (b1 b2 : List Nat), v = .func f vf.toArray vc.toArray ∧ bs = b1 ++ b2 ∧ RepXL w ok fs vf b1 ∧ RepXL w ok cs vc b2
  | .s u, v, bs => bs = [] ∧ Rep (cctx w ok) (.s u) v
  | .ifc t x, v, bs => bs = [] ∧ Rep (cctx w ok) (.ifc t x) v
  | .sl sz xs, v, bs => bs = [] ∧ Rep (cctx w ok) (.sl sz xs) v
  | .ep cs, v, bs => bs = [] ∧ Rep (cctx w ok) (.ep cs) v
  | .dead, v, bs => bs = []
  | .own _, _, _ | .ptr _ _, _, _ | .eptr _ _ _ _, _, _ | .it _, _, _ => False
def RepXL (w : World) (ok : Nat → Prop) : List T → List Value → List Nat → Prop
  | [], us, bs => us = [] ∧ bs = []
  | x :: xs, us, bs => ∃ (u : Value) (us' : List Value) (b1 b2 : List Nat), us = u :: us' ∧ bs = b1 ++ b2 ∧ RepX w ok x u b1 ∧ RepXL w ok xs us' b2
end
theorem RepXL.len {w : World} {ok : Nat → Prop} : ∀ {xs : List T} {us : List Value} {bs : List Nat}, RepXL w ok xs us bs → xs.length = us.length
  | [], us, bs, h => by obtain ⟨rfl, _⟩ := h; rfl
  | x :: xs, us, bs, h => by
    obtain ⟨u, us', b1, b2, rfl, _, _, h⟩ := h
    simp [RepXL.len h]

section
variable {P : Program} {B : Base} {w : World} {inj : Loc → Nat} {σ : Loc → Option O} {cnt : Nat → Nat}
/-! ### Closed -/
def kblks (inj : Loc → Nat) (m : List Loc) : List Nat := m.map inj
/-- What is known of a closing one deeper. -/
def ClsRec (B : Base) (w : World) (inj : Loc → Nat) (σ : Loc → Option O) (cnt : Nat → Nat) (ok : Nat → Prop) (rec : List T → Option (List T × List Loc)) : Prop :=
  ∀ (cs cs' : List T) (m : List Loc) (us : List Value), rec cs = some (cs', m) → RepA (sctx B w inj σ cnt) cs us → RepXL w ok cs' us (kblks inj m) ∧ ∀ l ∈ m, σ l ≠ none
variable {ok : Nat → Prop}
theorem rep_closed {C : Ctx} (hok : ∀ k, C.ok k → ok k) {t : T} {v : Value} (h : Rep C.ro t v) : Rep (cctx C.w ok) t v := h.mono ⟨fun k hk => ⟨hok k hk, rfl⟩, fun _ _ h => h.elim, fun _ _ _ h => h.elim, fun _ _ _ _ _ h => h.elim, fun _ _ h => h.elim⟩
mutual
theorem clsT_ok (h : SR B w inj σ cnt) (hok : ∀ k, (sctx B w inj σ cnt).ok k → ok k) {rec : List T → Option (List T × List Loc)} (hrec : ClsRec B w inj σ cnt ok rec) :
    ∀ (t t' : T) (m : List Loc) (v : Value), clsT σ rec t = some (t', m) → Rep (sctx B w inj σ cnt) t v → RepX w ok t' v (kblks inj m) ∧ ∀ l ∈ m, σ l ≠ none
  | .s u, t', m, v, hc, hr => by
    simp [clsT] at hc
    obtain ⟨rfl, rfl⟩ := hc
    refine ⟨⟨rfl, ?_⟩, by simp⟩
    cases hr; exact .s (by assumption)
  | .agg cs, t', m, v, hc, hr => by
    unfold clsT at hc
    obtain ⟨vs, rfl, hl, hcs, h1⟩ := hr.agg_parts
    split at hc
    · rename_i cs' m' he
      injection hc with hc; injection hc with e1 e2; subst e1; subst e2
      have := clsTL_ok h hok hrec cs cs' m' vs he ⟨hl, hcs⟩
      exact ⟨⟨vs, rfl, this.1, h1⟩, this.2⟩
    · simp at hc
  | .tup cs, t', m, v, hc, hr => by
    unfold clsT at hc
    obtain ⟨vs, rfl, hcs⟩ := hr.tup_parts
    split at hc
    · rename_i cs' m' he
      injection hc with hc; injection hc with e1 e2; subst e1; subst e2
      have := clsTL_ok h hok hrec cs cs' m' vs he hcs
      exact ⟨⟨vs, rfl, this.1⟩, this.2⟩
    · simp at hc
  | .fn f fs cs, t', m, v, hc, hr => by
    unfold clsT at hc
    obtain ⟨vf, vc, rfl, hf, hcs⟩ := hr.fn_parts
    split at hc
    · rename_i fs' a cs' b he1 he2
      injection hc with hc; injection hc with e1 e2; subst e1; subst e2
      have h1 := clsTL_ok h hok hrec fs fs' a vf he1 hf
      have h2 := clsTL_ok h hok hrec cs cs' b vc he2 hcs
      exact ⟨⟨vf, vc, _, _, rfl, by simp [kblks], h1.1, h2.1⟩, fun l hl => (List.mem_append.1 hl).elim (h1.2 l) (h2.2 l)⟩
    · simp at hc
  | .own l, t', m, v, hc, hr => by
    unfold clsT at hc
    split at hc
    · rename_i e sz xs hl
      · injection hc with hc; injection hc with e1 e2; subst e1; subst e2
        cases hr
        rename_i hp
        obtain ⟨h1, b, n, c, rfl, hnc, hb⟩ := hp
        obtain ⟨rfl, rfl, cells, hc1, hc2⟩ := hb _ _ _ hl
        obtain ⟨h0, cells', c', g1, g2, g3, g4, g5⟩ := arr_parts h hl
        rw [hc1] at g1
        injection g1 with g1; injection g1 with g1 _ _
        subst g1
        have hcc : c = c' := Nat.eq_of_mul_eq_mul_right h0 (by rw [← hc2, ← g2])
        subst hcc
        refine ⟨⟨inj l, c, cells, rfl, rfl, h0, hc1, hc2, hnc, g4, g5.mono ⟨fun k hk => ⟨hok k hk, rfl⟩, fun _ _ h => h.elim, fun _ _ _ h => h.elim, fun _ _ _ _ _ h => h.elim, fun _ _ h => h.elim⟩ (fun _ _ hh => hh)⟩, ?_⟩
        intro l' hl'
        rw [List.mem_singleton.1 hl', hl]; simp
    · simp at hc
  | .ptr l off, t', m, v, hc, hr => by
    unfold clsT at hc
    split at hc
    · rename_i ho
      subst ho
      split at hc
      · rename_i ty cs hl
        split at hc
        · rename_i cs' m' he
          injection hc with hc; injection hc with e1 e2; subst e1; subst e2
          cases hr
          rename_i hp
          obtain ⟨h1, b, rfl, hb⟩ := hp
          obtain rfl := hb _ _ hl
          obtain ⟨us, hg, hrs, h1s⟩ := box_parts h hl
          have hx := hrec cs cs' m' us he hrs
          refine ⟨⟨inj l, us, kblks inj m', rfl, rfl, hg, hx.1, h1s⟩, ?_⟩
          intro l' hl'
          rcases List.mem_cons.1 hl' with rfl | hl'
          · rw [hl]; simp
          · exact hx.2 l' hl'
        · simp at hc
      · simp at hc
    · simp at hc
  | .sl sz xs, t', m, v, hc, hr => by
    simp [clsT] at hc
    obtain ⟨rfl, rfl⟩ := hc
    exact ⟨⟨rfl, rep_closed hok (sl_ro hr)⟩, by simp⟩
  | .ifc t x, t', m, v, hc, hr => by
    simp [clsT] at hc
    obtain ⟨rfl, rfl⟩ := hc
    exact ⟨⟨rfl, rep_closed hok (ifc_ro hr)⟩, by simp⟩
  | .ep cs, t', m, v, hc, hr => by
    simp [clsT] at hc
    obtain ⟨rfl, rfl⟩ := hc
    exact ⟨⟨rfl, rep_closed hok (ep_ro hr)⟩, by simp⟩
  | .eptr _ _ _ _, t', m, v, hc, hr => by simp [clsT] at hc
  | .it _, t', m, v, hc, hr => by simp [clsT] at hc
  | .cown _ _ _, t', m, v, hc, hr => by simp [clsT] at hc
  | .cbox _ _, t', m, v, hc, hr => by simp [clsT] at hc
  | .dead, t', m, v, hc, hr => by simp [clsT] at hc
theorem clsTL_ok (h : SR B w inj σ cnt) (hok : ∀ k, (sctx B w inj σ cnt).ok k → ok k) {rec : List T → Option (List T × List Loc)} (hrec : ClsRec B w inj σ cnt ok rec) :
    ∀ (cs cs' : List T) (m : List Loc) (us : List Value), clsTL σ rec cs = some (cs', m) → RepA (sctx B w inj σ cnt) cs us → RepXL w ok cs' us (kblks inj m) ∧ ∀ l ∈ m, σ l ≠ none
  | [], cs', m, us, hc, hr => by
    simp [clsTL] at hc
    obtain ⟨rfl, rfl⟩ := hc
    have : us = [] := List.eq_nil_of_length_eq_zero hr.1.symm
    subst this
    exact ⟨⟨rfl, rfl⟩, by simp⟩
  | x :: cs, cs', m, us, hc, hr => by
    unfold clsTL at hc
    split at hc
    · rename_i x' a r' b he1 he2
      injection hc with hc; injection hc with e1 e2; subst e1; subst e2
      match us, hr with
      | u :: us, hr =>
        have h1 := clsT_ok h hok hrec x x' a u he1 hr.head
        have h2 := clsTL_ok h hok hrec cs r' b us he2 hr.tail
        exact ⟨⟨u, us, _, _, rfl, by simp [kblks], h1.1, h2.1⟩, fun l hl => (List.mem_append.1 hl).elim (h1.2 l) (h2.2 l)⟩
      | [], hr => exact absurd hr.1 (by simp)
    · simp at hc
end
theorem clsL_ok (h : SR B w inj σ cnt) (hok : ∀ k, (sctx B w inj σ cnt).ok k → ok k) : ∀ d, ClsRec B w inj σ cnt ok (clsL σ d)
  | 0 => fun cs cs' m us hc hr => by
    unfold clsL at hc
    exact clsTL_ok h hok (rec := fun _ => none) (fun _ _ _ _ hh => by simp at hh) cs cs' m us hc hr
  | d + 1 => fun cs cs' m us hc hr => by
    unfold clsL at hc
    exact clsTL_ok h hok (clsL_ok h hok d) cs cs' m us hc hr
theorem cls_ok (h : SR B w inj σ cnt) (hok : ∀ k, (sctx B w inj σ cnt).ok k → ok k) (t t' : T) (m : List Loc) (v : Value) (hc : cls σ t = some (t', m)) (hr : Rep (sctx B w inj σ cnt) t v) : RepX w ok t' v (kblks inj m) ∧ ∀ l ∈ m, σ l ≠ none :=
  clsT_ok h hok (clsL_ok h hok 4) t t' m v hc hr
/-- A frozen value is closed. -/
theorem frz_shape : ∀ (t t' : T) (r : List Loc) (v : Value), frz σ t = some (t', r) → Rep (cctx w ok) t' v → RepX w ok t' v []
  | .s u, t', r, v, hf, hr => by
    unfold frz at hf
    split at hf
    · injection hf with hf; injection hf with e1 e2; subst e1; exact ⟨rfl, hr⟩
    · injection hf with hf; injection hf with e1 e2; subst e1; exact ⟨rfl, hr⟩
    all_goals simp_all
  | .agg cs, t', r, v, hf, hr => by
    unfold frz at hf
    split at hf
    · rename_i cs' r' he
      injection hf with hf; injection hf with e1 e2; subst e1
      obtain ⟨vs, rfl, hl, hcs, h1⟩ := hr.agg_parts
      exact ⟨vs, rfl, frzL_shape cs cs' r' vs he ⟨hl, hcs⟩, h1⟩
    · simp at hf
  | .own l, t', r, v, hf, hr => by
    unfold frz at hf
    split at hf
    · injection hf with hf; injection hf with e1 e2; subst e1; exact ⟨rfl, hr⟩
    · simp at hf
  | .sl sz xs, t', r, v, hf, hr => by simp [frz] at hf; obtain ⟨rfl, rfl⟩ := hf; exact ⟨rfl, hr⟩
  | .ifc t x, t', r, v, hf, hr => by simp [frz] at hf; obtain ⟨rfl, rfl⟩ := hf; exact ⟨rfl, hr⟩
  | .ep cs, t', r, v, hf, hr => by simp [frz] at hf; obtain ⟨rfl, rfl⟩ := hf; exact ⟨rfl, hr⟩
  | .tup _, t', r, v, hf, hr => by simp [frz] at hf
  | .ptr _ _, t', r, v, hf, hr => by simp [frz] at hf
  | .eptr _ _ _ _, t', r, v, hf, hr => by simp [frz] at hf
  | .fn _ _ _, t', r, v, hf, hr => by simp [frz] at hf
  | .it _, t', r, v, hf, hr => by simp [frz] at hf
  | .cown _ _ _, t', r, v, hf, hr => by simp [frz] at hf
  | .cbox _ _, t', r, v, hf, hr => by simp [frz] at hf
  | .dead, t', r, v, hf, hr => by simp [frz] at hf
where frzL_shape : ∀ (cs cs' : List T) (r : List Loc) (us : List Value), frzL σ cs = some (cs', r) → RepA (cctx w ok) cs' us → RepXL w ok cs' us []
  | [], cs', r, us, hf, hr => by
    simp [frzL] at hf
    obtain ⟨rfl, rfl⟩ := hf
    have : us = [] := List.eq_nil_of_length_eq_zero hr.1.symm
    subst this
    exact ⟨rfl, rfl⟩
  | x :: cs, cs', r, us, hf, hr => by
    unfold frzL at hf
    split at hf
    · rename_i x' a r' b he1 he2
      injection hf with hf; injection hf with e1 e2; subst e1; subst e2
      match us, hr with
      | u :: us, hr => exact ⟨u, us, [], [], rfl, rfl, frz_shape x x' a u he1 hr.head, frzL_shape cs r' b us he2 hr.tail⟩
      | [], hr => exact absurd hr.1 (by simp)
    · simp at hf
/-- An argument, as the one called sees it. -/
theorem argC_ok (h : SR B w inj σ cnt) {mv : Bool} {t t' : T} {m r : List Loc} {v : Value} (hok : ∀ k, (sctx B w inj σ cnt).ok k → ok k) (hr : ∀ k, blks inj r k → ok k) (ha : argC σ mv t = some (t', m, r)) (hv : Rep (sctx B w inj σ cnt) t v) :
    RepX w ok t' v (kblks inj m) ∧ (∀ l ∈ m, σ l ≠ none) ∧ ∀ l ∈ r, σ l ≠ none := by
  have viaC : ∀ t, Rep (sctx B w inj σ cnt) t v → (match cls σ t with | some (t, m) => some (t, m, []) | none => none) = some (t', m, r) → RepX w ok t' v (kblks inj m) ∧ (∀ l ∈ m, σ l ≠ none) ∧ ∀ l ∈ r, σ l ≠ none := by
    intro t hv ha
    split at ha
    · rename_i t1 m1 he
      injection ha with ha; injection ha with e1 e2; injection e2 with e2 e3; subst e1; subst e2; subst e3
      have := cls_ok h hok t t1 m1 v he hv
      exact ⟨this.1, this.2, by simp⟩
    · simp at ha
  have viaF : ∀ t, Rep (sctx B w inj σ cnt) t v → (match frz σ t with | some (t, r) => some (t, [], r) | none => none) = some (t', m, r) → RepX w ok t' v (kblks inj m) ∧ (∀ l ∈ m, σ l ≠ none) ∧ ∀ l ∈ r, σ l ≠ none := by
    intro t hv ha
    split at ha
    · rename_i t1 r1 he
      injection ha with ha; injection ha with e1 e2; injection e2 with e2 e3; subst e1; subst e2; subst e3
      refine ⟨frz_shape t t1 r1 v he ?_, by simp, frz_keys t t1 r1 he⟩
      exact (frz_ok h t t1 r1 v he hv).mono ⟨fun k hk => ⟨hk.elim (hok k) (hr k), rfl⟩, fun _ _ h => h.elim, fun _ _ _ h => h.elim, fun _ _ _ _ _ h => h.elim, fun _ _ h => h.elim⟩
    · simp at ha
  unfold argC at ha
  split at ha
  · exact viaC _ hv ha
  · exact viaC _ hv ha
  · split at ha
    · exact viaC _ hv ha
    · exact viaF _ hv ha
  · exact viaF _ hv ha
theorem argCL_ok (h : SR B w inj σ cnt) {mv : Bool} (hok : ∀ k, (sctx B w inj σ cnt).ok k → ok k) : ∀ (ts ts' : List T) (m r : List Loc) (vs : List Value), (∀ k, blks inj r k → ok k) → argCL σ mv ts = some (ts', m, r) → RepA (sctx B w inj σ cnt) ts vs →
    RepXL w ok ts' vs (kblks inj m) ∧ (∀ l ∈ m, σ l ≠ none) ∧ ∀ l ∈ r, σ l ≠ none
  | [], ts', m, r, vs, hr, ha, hv => by
    simp [argCL] at ha
    obtain ⟨rfl, rfl, rfl⟩ := ha
    have : vs = [] := List.eq_nil_of_length_eq_zero hv.1.symm
    subst this
    exact ⟨⟨rfl, rfl⟩, by simp, by simp⟩
  | x :: ts, ts', m, r, vs, hr, ha, hv => by
    unfold argCL at ha
    split at ha
    · rename_i x' m1 a1 r' m2 a2 he1 he2
      injection ha with ha; injection ha with e1 e2; injection e2 with e2 e3; subst e1; subst e2; subst e3
      match vs, hv with
      | u :: us, hv =>
        have h1 := argC_ok h hok (fun k ⟨l, hl, e⟩ => hr k ⟨l, List.mem_append_left _ hl, e⟩) he1 hv.head
        have h2 := argCL_ok h hok ts r' m2 a2 us (fun k ⟨l, hl, e⟩ => hr k ⟨l, List.mem_append_right _ hl, e⟩) he2 hv.tail
        exact ⟨⟨u, us, _, _, rfl, by simp [kblks], h1.1, h2.1⟩, fun l hl => (List.mem_append.1 hl).elim (h1.2.1 l) (h2.2.1 l), fun l hl => (List.mem_append.1 hl).elim (h1.2.2 l) (h2.2.2 l)⟩
      | [], hv => exact absurd hv.1 (by simp)
    · simp at ha
end
end Go.Proofs.YthcaodlfnlhfbaaDoorT
