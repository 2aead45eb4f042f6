/- The interpreter over trees: a state forgets and renames. -/
import Derived.Test.YthcaodlfnlhfbaaDoorT19
namespace Go.Proofs.YthcaodlfnlhfbaaDoorT
open Go Go.RowKit
set_option linter.unusedVariables false

mutual
/-- Keys renamed. -/
def T.ren (ρ : Loc → Loc) : T → T
  | .own l => .own (ρ l)
  | .ptr l off => .ptr (ρ l) off
  | .eptr l sz i off => .eptr (ρ l) sz i off
  | .it l => .it (ρ l)
  | .agg cs => .agg (renL ρ cs)
  | .tup cs => .tup (renL ρ cs)
  | .fn f fs cs => .fn f (renL ρ fs) (renL ρ cs)
  | x => x
def renL (ρ : Loc → Loc) : List T → List T
  | [] => []
  | x :: r => x.ren ρ :: renL ρ r
end
mutual
/-- All keys of a tree are as K says. -/
def T.keysIn (K : Loc → Prop) : T → Prop
  | .own l => K l
  | .ptr l off => K l
  | .eptr l sz i off => K l
  | .it l => K l
  | .agg cs => keysInL K cs
  | .tup cs => keysInL K cs
  | .fn f fs cs => keysInL K fs ∧ keysInL K cs
  | _ => True
def keysInL (K : Loc → Prop) : List T → Prop
  | [] => True
  | x :: r => x.keysIn K ∧ keysInL K r
end
/-- What is known of a key goes over to its new name. -/
structure Ctx.Goes (C C' : Ctx) (ρ : Loc → Loc) (l : Loc) : Prop where
  own : ∀ v, C.own l v → C'.own (ρ l) v
  ptr : ∀ n v, C.ptr l n v → C'.ptr (ρ l) n v
  eptr : ∀ s i n v, C.eptr l s i n v → C'.eptr (ρ l) s i n v
  it : ∀ v, C.it l v → C'.it (ρ l) v
section
variable {C C' : Ctx} {ρ : Loc → Loc}
mutual
theorem ren_rep (hro : C.ro.le C'.ro) : ∀ (t : T) (v : Value), Rep C t v → t.keysIn (C.Goes C' ρ) → Rep C' (t.ren ρ) v
  | .own l, v, h, hk => by cases h; rename_i hp; exact .own (hk.own _ hp)
  | .ptr l off, v, h, hk => by cases h; rename_i hp; exact .ptr (hk.ptr _ _ hp)
  | .eptr l sz i off, v, h, hk => by cases h; rename_i hp; exact .eptr (hk.eptr _ _ _ _ hp)
  | .it l, v, h, hk => by cases h; rename_i hp; exact .it (hk.it _ hp)
  | .agg cs, v, h, hk => by
    obtain ⟨vs, rfl, hl, hc, h1⟩ := h.agg_parts
    have := renL_rep hro cs vs ⟨hl, hc⟩ hk
    exact .agg this.1 this.2 h1
  | .tup cs, v, h, hk => by
    obtain ⟨vs, rfl, hc⟩ := h.tup_parts
    have := renL_rep hro cs vs hc hk
    exact .tup this.1 this.2
  | .fn f fs cs, v, h, hk => by
    obtain ⟨vf, vc, rfl, hf, hc⟩ := h.fn_parts
    have h1 := renL_rep hro fs vf hf hk.1
    have h2 := renL_rep hro cs vc hc hk.2
    exact .fn h1.1 h2.1 h1.2 h2.2
  | .s u, v, h, hk => by cases h; exact .s (by assumption)
  | .ifc t x, v, h, hk => ((ifc_ro h).mono hro).of_ro
  | .sl sz xs, v, h, hk => ((sl_ro h).mono hro).of_ro
  | .ep cs, v, h, hk => ((ep_ro h).mono hro).of_ro
  | .cown e sz xs, v, h, hk => by cases h
  | .cbox ty cs, v, h, hk => by cases h
  | .dead, v, h, hk => .dead
theorem renL_rep (hro : C.ro.le C'.ro) : ∀ (ts : List T) (vs : List Value), RepA C ts vs → keysInL (C.Goes C' ρ) ts → RepA C' (renL ρ ts) vs
  | [], vs, h, hk => by
    have : vs = [] := List.eq_nil_of_length_eq_zero h.1.symm
    subst this
    exact RepA.nil _
  | x :: ts, [], h, hk => absurd h.1 (by simp)
  | x :: ts, v :: vs, h, hk => (renL_rep hro ts vs h.tail hk.2).cons (ren_rep hro x v h.head hk.1)
end
end
def O.ren (ρ : Loc → Loc) : O → O
  | .box ty cs => .box ty (renL ρ cs)
  | o => o
def O.keysIn (K : Loc → Prop) : O → Prop
  | .box ty cs => keysInL K cs
  | _ => True
mutual
theorem keys_mono {K1 K2 : Loc → Prop} (h : ∀ l, K1 l → K2 l) : ∀ t : T, t.keysIn K1 → t.keysIn K2
  | .own l, hk => h l hk
  | .ptr l off, hk => h l hk
  | .eptr l sz i off, hk => h l hk
  | .it l, hk => h l hk
  | .agg cs, hk => keysL_mono h cs hk
  | .tup cs, hk => keysL_mono h cs hk
  | .fn f fs cs, hk => ⟨keysL_mono h fs hk.1, keysL_mono h cs hk.2⟩
  | .s _, _ | .ifc _ _, _ | .sl _ _, _ | .ep _, _ | .cown _ _ _, _ | .cbox _ _, _ | .dead, _ => trivial
theorem keysL_mono {K1 K2 : Loc → Prop} (h : ∀ l, K1 l → K2 l) : ∀ ts : List T, keysInL K1 ts → keysInL K2 ts
  | [], _ => trivial
  | x :: r, hk => ⟨keys_mono h x hk.1, keysL_mono h r hk.2⟩
end
/-- The state S' forgets and renames S. -/
structure Renames (S S' : St) (ρ π : Loc → Loc) (K : Loc → Prop) : Prop where
  nt : S'.nt = S.nt
  slot : ∀ i, S'.τ i = .dead ∨ (S'.τ i = (S.τ i).ren ρ ∧ (S.τ i).keysIn K)
  obj : ∀ l' o', S'.σ l' = some o' → ∃ o, S.σ (π l') = some o ∧ ρ (π l') = l' ∧ o' = o.ren ρ ∧ o.keysIn K ∧ l'.2 < S'.cnt l'.1
  back : ∀ l, K l → ∀ o', S'.σ (ρ l) = some o' → π (ρ l) = l
  cnt : ∀ l, K l → l.2 < S.cnt l.1 → (ρ l).2 < S'.cnt (ρ l).1
  entry : ∀ s, s < 1000 → ρ (s, 0) = (s, 0) ∧ K (s, 0)
theorem hold_ren {C0 : Ctx} {B : Base} {S S' : St} {a : Act} {w : World} {ρ π : Loc → Loc} {K : Loc → Prop} (h : Hold C0 B S a w) (r : Renames S S' ρ π K)
    (h0 : EntryCtx C0) : Hold C0 B S' a w := by
  obtain ⟨inj, h1, h2, h3⟩ := h
  have hown : ∀ l' o', S'.σ l' = some o' → ∃ o, S.σ (π l') = some o := fun l' o' hl => by obtain ⟨o, ho, _⟩ := r.obj l' o' hl; exact ⟨o, ho⟩
  have hro : (sctx B w inj S.σ S.cnt).ro.le (sctx B w (fun l => inj (π l)) S'.σ S'.cnt).ro := by
    refine ⟨?_, fun _ _ h => h.elim, fun _ _ _ h => h.elim, fun _ _ _ _ _ h => h.elim, fun _ _ h => h.elim⟩
    rintro k ⟨g1, g2, g3⟩
    refine ⟨⟨g1, g2, ?_⟩, rfl⟩
    rintro ⟨l', o', hl, he⟩
    obtain ⟨o, ho⟩ := hown l' o' hl
    exact g3 ⟨π l', o, ho, he⟩
  have hgo : ∀ l, K l → (sctx B w inj S.σ S.cnt).Goes (sctx B w (fun l => inj (π l)) S'.σ S'.cnt) ρ l := by
    intro l hK
    refine ⟨?_, ?_, ?_, ?_⟩
    · rintro v ⟨g1, b, n, c, rfl, g2, g3⟩
      refine ⟨r.cnt l hK g1, b, n, c, rfl, g2, fun e sz xs hx => ?_⟩
      have hb := r.back l hK _ hx
      obtain ⟨o, ho, _, e1, _, _⟩ := r.obj _ _ hx
      rw [hb] at ho
      cases o with
      | box ty cs => simp [O.ren] at e1
      | iter s p => simp [O.ren] at e1
      | arr e0 sz0 xs0 =>
        simp only [O.ren, O.arr.injEq] at e1
        obtain ⟨rfl, rfl, rfl⟩ := e1
        rw [show (fun l => inj (π l)) (ρ l) = inj l by simp only [hb]]
        exact g3 _ _ _ ho
    · rintro n v ⟨g1, b, rfl, g3⟩
      refine ⟨r.cnt l hK g1, b, rfl, fun ty cs hx => ?_⟩
      have hb := r.back l hK _ hx
      obtain ⟨o, ho, _, e1, _, _⟩ := r.obj _ _ hx
      rw [hb] at ho
      cases o with
      | box ty0 cs0 => rw [show (fun l => inj (π l)) (ρ l) = inj l by simp only [hb]]; exact g3 _ _ ho
      | iter s p => simp [O.ren] at e1
      | arr e0 sz0 xs0 => simp [O.ren] at e1
    · rintro s i n v ⟨g1, b, rfl, g3⟩
      refine ⟨r.cnt l hK g1, b, rfl, fun e sz xs hx => ?_⟩
      have hb := r.back l hK _ hx
      obtain ⟨o, ho, _, e1, _, _⟩ := r.obj _ _ hx
      rw [hb] at ho
      cases o with
      | box ty cs => simp [O.ren] at e1
      | iter s p => simp [O.ren] at e1
      | arr e0 sz0 xs0 => rw [show (fun l => inj (π l)) (ρ l) = inj l by simp only [hb]]; exact g3 _ _ _ ho
    · rintro v ⟨g1, g3⟩
      refine ⟨r.cnt l hK g1, fun b pos hx => ?_⟩
      have hb := r.back l hK _ hx
      obtain ⟨o, ho, _, e1, _, _⟩ := r.obj _ _ hx
      rw [hb] at ho
      cases o with
      | box ty cs => simp [O.ren] at e1
      | iter s p => rw [show (fun l => inj (π l)) (ρ l) = inj l by simp only [hb]]; exact g3 _ _ ho
      | arr e0 sz0 xs0 => simp [O.ren] at e1
  have kmono : ∀ {K1 K2 : Loc → Prop}, (∀ l, K1 l → K2 l) → (∀ t : T, t.keysIn K1 → t.keysIn K2) ∧ ∀ ts : List T, keysInL K1 ts → keysInL K2 ts := fun hk => ⟨keys_mono hk, keysL_mono hk⟩
  refine ⟨fun l => inj (π l), ⟨h1.fr, ?_, ?_, ?_, ?_, ?_⟩, ⟨?_, h2.defers, ?_, ?_⟩, ?_⟩
  · intro l' o' hl
    obtain ⟨o, ho⟩ := hown l' o' hl
    exact h1.lt _ o ho
  · intro l l' o1 o2 g1 g2 he
    obtain ⟨p1, k1, e1, _⟩ := r.obj l o1 g1
    obtain ⟨p2, k2, e2, _⟩ := r.obj l' o2 g2
    have := h1.uniq _ _ _ _ k1 k2 he
    rw [← e1, ← e2, this]
  · intro l' o' hl
    obtain ⟨o, ho, _, rfl, hk, _⟩ := r.obj l' o' hl
    have hob := h1.obj _ _ ho
    cases o with
    | box ty cs =>
      obtain ⟨us, g1, g2, g3⟩ := hob
      exact ⟨us, g1, renL_rep hro cs us g2 ((kmono hgo).2 cs hk), g3⟩
    | arr e sz xs =>
      obtain ⟨g0, cells, c, g1, g2, g3, g4, g5⟩ := hob
      exact ⟨g0, cells, c, g1, g2, g3, g4, g5.mono hro (fun _ _ hh => hh)⟩
    | iter b p => exact hob
  · intro l' o' hl
    obtain ⟨o, ho, _, _, _, hf⟩ := r.obj l' o' hl
    exact hf
  · intro l' o' hl
    obtain ⟨o, ho⟩ := hown l' o' hl
    exact h1.mine _ o ho
  · rw [r.nt]; exact h2.size
  · intro i
    rcases r.slot i with hd | ⟨he, hk⟩
    · rw [hd]; exact .dead
    · rw [he]; exact ren_rep hro _ _ (h2.rep i) ((kmono hgo).1 _ hk)
  · exact h2.glob.mono hro.ok
  · have hent : ∀ l : Loc, l.1 < 1000 ∧ l.2 = 0 → ρ l = l ∧ K l := by
      rintro ⟨s, k⟩ ⟨hs, hk⟩
      simp only at hs hk
      subst hk
      exact r.entry s hs
    refine ⟨fun k hk => ?_, fun l v hv => ?_, fun l n v hv => ?_, fun l s i n v hv => ?_, fun l v hv => ?_⟩
    · obtain ⟨g1, g2⟩ := h3.ok k hk
      obtain ⟨g3, g4⟩ := hro.ok k g1
      exact ⟨g3, g4.trans g2⟩
    · obtain ⟨e1, e2⟩ := hent l (h0 l (.inl ⟨v, hv⟩))
      have := (hgo l e2).own v (h3.own _ _ hv)
      rwa [e1] at this
    · obtain ⟨e1, e2⟩ := hent l (h0 l (.inr (.inl ⟨n, v, hv⟩)))
      have := (hgo l e2).ptr n v (h3.ptr _ _ _ hv)
      rwa [e1] at this
    · obtain ⟨e1, e2⟩ := hent l (h0 l (.inr (.inr (.inl ⟨s, i, n, v, hv⟩))))
      have := (hgo l e2).eptr s i n v (h3.eptr _ _ _ _ _ hv)
      rwa [e1] at this
    · obtain ⟨e1, e2⟩ := hent l (h0 l (.inr (.inr (.inr ⟨v, hv⟩))))
      have := (hgo l e2).it v (h3.it _ _ hv)
      rwa [e1] at this
end Go.Proofs.YthcaodlfnlhfbaaDoorT
