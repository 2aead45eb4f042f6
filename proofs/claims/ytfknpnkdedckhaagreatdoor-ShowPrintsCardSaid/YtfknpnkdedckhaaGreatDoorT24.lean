/- The interpreter over trees: a state forgets and renames. -/
import Derived.Test.YtfknpnkdedckhaaGreatDoorT19
namespace Go.Proofs.YtfknpnkdedckhaaGreatDoorT
open Go Go.RowKit
set_option linter.unusedVariables false

mutual
/-- Keys renamed. -/
def T.ren (ρ : Loc → Loc) : T → T
  | .own l => .own (ρ l)
  | .ptr l off => .ptr (ρ l) off
  | .eptr l sz i off => .eptr (ρ l) sz i off
  | .it l => .it (ρ l)
  | .agg cs => .agg (renL ρ cs)
  | .tup cs => .tup (renL ρ cs)
  | .fn f fs cs => .fn f (renL ρ fs) (renL ρ cs)
  | x => x
def renL (ρ : Loc → Loc) : List T → List T
  | [] => []
  | x :: r => x.ren ρ :: renL ρ r
end
mutual
/-- All keys of a tree are as K says. -/
def T.keysIn (K : Loc → Prop) : T → Prop
  | .own l => K l
  | .ptr l off => K l
  | .eptr l sz i off => K l
  | .it l => K l
  | .agg cs => keysInL K cs
  | .tup cs => keysInL K cs
  | .fn f fs cs => keysInL K fs ∧ keysInL K cs
  | _ => True
def keysInL (K : Loc → Prop) : List T → Prop
  | [] => True
  | x :: r => x.keysIn K ∧ keysInL K r
end
/-- What is known of a key goes over to its new name. -/
structure Ctx.Goes (C C' : Ctx) (ρ : Loc → Loc) (l : Loc) : Prop where
  own : ∀ v, C.own l v → C'.own (ρ l) v
  ptr : ∀ n v, C.ptr l n v → C'.ptr (ρ l) n v
  eptr : ∀ s i n v, C.eptr l s i n v → C'.eptr (ρ l) s i n v
  it : ∀ v, C.it l v → C'.it (ρ l) v
section
variable {C C' : Ctx} {ρ : Loc → Loc}
mutual
theorem ren_rep (hro : C.ro.le C'.ro) : ∀ (t : T) (v : Value), Rep C t v → t.keysIn (C.Goes C' ρ) → Rep C' (t.ren ρ) v
  | .own l, v, h, hk => by cases h; rename_i hp; exact .own (hk.own _ hp)
  | .ptr l off, v, h, hk => by cases h; rename_i hp; exact .ptr (hk.ptr _ _ hp)
  | .eptr l sz i off, v, h, hk => by cases h; rename_i hp; exact .eptr (hk.eptr _ _ _ _ hp)
  | .it l, v, h, hk => by cases h; rename_i hp; exact .it (hk.it _ hp)
  | .agg cs, v, h, hk => by
    obtain ⟨vs, rfl, hl, hc, h1⟩ := h.agg_parts
    have := renL_rep hro cs vs ⟨hl, hc⟩ hk
    exact .agg this.1 this.2 h1
  | .tup cs, v, h, hk => by
    obtain ⟨vs, rfl, hc⟩ := h.tup_parts
    have := renL_rep hro cs vs hc hk
    exact .tup this.1 this.2
  | .fn f fs cs, v, h, hk => by
    obtain ⟨vf, vc, rfl, hf, hc⟩ := h.fn_parts
    have h1 := renL_rep hro fs vf hf hk.1
    have h2 := renL_rep hro cs vc hc hk.2
    exact .fn h1.1 h2.1 h1.2 h2.2
  | .s u, v, h, hk => by cases h; exact .s (by assumption)
  | .ifc t x, v, h, hk => ((ifc_ro h).mono hro).of_ro
  | .sl sz xs, v, h, hk => ((sl_ro h).mono hro).of_ro
  | .ep cs, v, h, hk => ((ep_ro h).mono hro).of_ro
  | .cown e sz xs, v, h, hk => by cases h
  | .cbox ty cs, v, h, hk => by cases h
  | .dead, v, h, hk => .dead
theorem renL_rep (hro : C.ro.le C'.ro) : ∀ (ts : List T) (vs : List Value), RepA C ts vs → keysInL (C.Goes C' ρ) ts → RepA C' (renL ρ ts) vs
  | [], vs, h, hk => by
    have : vs = [] := List.eq_nil_of_length_eq_zero h.1.symm
    subst this
    exact RepA.nil _
  | x :: ts, [], h, hk => absurd h.1 (by simp)
  | x :: ts, v :: vs, h, hk => (renL_rep hro ts vs h.tail hk.2).cons (ren_rep hro x v h.head hk.1)
end
end
def O.ren (ρ : Loc → Loc) : O → O
  | .box ty cs => .box ty (renL ρ cs)
  | o => o
def O.keysIn (K : Loc → Prop) : O → Prop
  | .box ty cs => keysInL K cs
  | _ => True
mutual
theorem keys_mono {K1 K2 : Loc → Prop} (h : ∀ l, K1 l → K2 l) : ∀ t : T, t.keysIn K1 → t.keysIn K2
  | .own l, hk => h l hk
  | .ptr l off, hk => h l hk
  | .eptr l sz i off, hk => h l hk
  | .it l, hk => h l hk
  | .agg cs, hk => keysL_mono h cs hk
  | .tup cs, hk => keysL_mono h cs hk
  | .fn f fs cs, hk => ⟨keysL_mono h fs hk.1, keysL_mono h cs hk.2⟩
  | .s _, _ | .ifc _ _, _ | .sl _ _, _ | .ep _, _ | .cown _ _ _, _ | .cbox _ _, _ | .dead, _ => trivial
theorem keysL_mono {K1 K2 : Loc → Prop} (h : ∀ l, K1 l → K2 l) : ∀ ts : List T, keysInL K1 ts → keysInL K2 ts
  | [], _ => trivial
  | x :: r, hk => ⟨keys_mono h x hk.1, keysL_mono h r hk.2⟩
end
/-- The state S' forgets and renames S. -/
structure Renames (S S' : St) (ρ π : Loc → Loc) (K : Loc → Prop) : Prop where
  nt : S'.nt = S.nt
  slot : ∀ i, S'.τ i = .dead ∨ (S'.τ i = (S.τ i).ren ρ ∧ (S.τ i).keysIn K)
  obj : ∀ l' o', S'.σ l' = some o' → ∃ o, S.σ (π l') = some o ∧ ρ (π l') = l' ∧ o' = o.ren ρ ∧ o.keysIn K ∧ l'.2 < S'.cnt l'.1
  back : ∀ l, K l → ∀ o', S'.σ (ρ l) = some o' → π (ρ l) = l
  cnt : ∀ l, K l → l.2 < S.cnt l.1 → (ρ l).2 < S'.cnt (ρ l).1
  entry : ∀ s, s < 1000 → ρ (s, 0) = (s, 0) ∧ K (s, 0)
theorem hold_ren {C0 : Ctx} {B : Base} {S S' : St} {a : Act} {w : World} {ρ π : Loc → Loc} {K : Loc → Prop} (h : Hold C0 B S a w) (r : Renames S S' ρ π K)
    (h0 : EntryCtx C0) : Hold C0 B S' a w := by
  obtain ⟨inj, h1, h2, h3⟩ := h
  have hown : ∀ l' o', S'.σ l' = some o' → ∃ o, S.σ (π l') = some o := fun l' o' hl => by obtain ⟨o, ho, _⟩ := r.obj l' o' hl; exact ⟨o, ho⟩
  have hro : (sctx B w inj S.σ S.cnt).ro.le (sctx B w (fun l => inj (π l)) S'.σ S'.cnt).ro := by
    refine ⟨?_, fun _ _ h => h.elim, fun _ _ _ h => h.elim, fun _ _ _ _ _ h => h.elim, fun _ _ h => h.elim⟩
    rintro k ⟨g1, g2, g3⟩
    refine ⟨⟨g1, g2, ?_⟩, rfl⟩
    rintro ⟨l', o', hl, he⟩
    obtain ⟨o, ho⟩ := hown l' o' hl
    exact g3 ⟨π l', o, ho, he⟩
  have hgo : ∀ l, K l → (sctx B w inj S.σ S.cnt).Goes (sctx B w (fun l => inj (π l)) S'.σ S'.cnt) ρ l := by
    intro l hK
    refine ⟨?_, ?_, ?_, ?_⟩
    · rintro v ⟨g1, b, n, c, rfl, g2, g3⟩
      refine ⟨r.cnt l hK g1, b, n, c, rfl, g2, fun e sz xs hx => ?_⟩
      have hb := r.back l hK _ hx
      obtain ⟨o, ho, _, e1, _, _⟩ := r.obj _ _ hx
      rw [hb] at ho
      cases o with
      | box ty cs => simp [O.ren] at e1
      | iter s p => simp [O.ren] at e1
      | arr e0 sz0 xs0 =>
        simp only [O.ren, O.arr.injEq] at e1
        obtain ⟨rfl, rfl, rfl⟩ := e1
        rw [show (fun l => inj (π l)) (ρ l) = inj l by simp only [hb]]
        exact g3 _ _ _ ho
    · rintro n v ⟨g1, b, rfl, g3⟩
      refine ⟨r.cnt l hK g1, b, rfl, fun ty cs hx => ?_⟩
      have hb := r.back l hK _ hx
      obtain ⟨o, ho, _, e1, _, _⟩ := r.obj _ _ hx
      rw [hb] at ho
      cases o with
      | box ty0 cs0 => rw [show (fun l => inj (π l)) (ρ l) = inj l by simp only [hb]]; exact g3 _ _ ho
      | iter s p => simp [O.ren] at e1
      | arr e0 sz0 xs0 => simp [O.ren] at e1
    · rintro s i n v ⟨g1, b, rfl, g3⟩
      refine ⟨r.cnt l hK g1, b, rfl, fun e sz xs hx => ?_⟩
      have hb := r.back l hK _ hx
      obtain ⟨o, ho, _, e1, _, _⟩ := r.obj _ _ hx
      rw [hb] at ho
      cases o with
      | box ty cs => simp [O.ren] at e1
      | iter s p => simp [O.ren] at e1
      | arr e0 sz0 xs0 => rw [show (fun l => inj (π l)) (ρ l) = inj l by simp only [hb]]; exact g3 _ _ _ ho
    · rintro v ⟨g1, g3⟩
      refine ⟨r.cnt l hK g1, fun b pos hx => ?_⟩
      have hb := r.back l hK _ hx
      obtain ⟨o, ho, _, e1, _, _⟩ := r.obj _ _ hx
      rw [hb] at ho
      cases o with
      | box ty cs => simp [O.ren] at e1
      | iter s p => rw [show (fun l => inj (π l)) (ρ l) = inj l by simp only [hb]]; exact g3 _ _ ho
      | arr e0 sz0 xs0 => simp [O.ren] at e1
  have kmono : ∀ {K1 K2 : Loc → Prop}, (∀ l, K1 l → K2 l) → (∀ t : T, t.keysIn K1 → t.keysIn K2) ∧ ∀ ts : List T, keysInL K1 ts → keysInL K2 ts := fun hk => ⟨keys_mono hk, keysL_mono hk⟩
  refine ⟨fun l => inj (π l), ⟨h1.fr, ?_, ?_, ?_, ?_, ?_⟩, ⟨?_, h2.defers, ?_, ?_⟩, ?_⟩
  · intro l' o' hl
    obtain ⟨o, ho⟩ := hown l' o' hl
    exact h1.lt _ o ho
  · intro l l' o1 o2 g1 g2 he
    obtain ⟨p1, k1, e1, _⟩ := r.obj l o1 g1
    obtain ⟨p2, k2, e2, _⟩ := r.obj l' o2 g2
    have := h1.uniq _ _ _ _ k1 k2 he
    rw [← e1, ← e2, this]
  · intro l' o' hl
    obtain ⟨o, ho, _, rfl, hk, _⟩ := r.obj l' o' hl
    have hob := h1.obj _ _ ho
    cases o with
    | box ty cs =>
      obtain ⟨us, g1, g2, g3⟩ := hob
      exact ⟨us, g1, renL_rep hro cs us g2 ((kmono hgo).2 cs hk), g3⟩
    | arr e sz xs =>
      obtain ⟨g0, cells, c, g1, g2, g3, g4, g5⟩ := hob
      exact ⟨g0, cells, c, g1, g2, g3, g4, g5.mono hro (fun _ _ hh => hh)⟩
    | iter b p => exact hob
  · intro l' o' hl
    obtain ⟨o, ho, _, _, _, hf⟩ := r.obj l' o' hl
    exact hf
  · intro l' o' hl
    obtain ⟨o, ho⟩ := hown l' o' hl
    exact h1.mine _ o ho
  · rw [r.nt]; exact h2.size
  · intro i
    rcases r.slot i with hd | ⟨he, hk⟩
    · rw [hd]; exact .dead
    · rw [he]; exact ren_rep hro _ _ (h2.rep i) ((kmono hgo).1 _ hk)
  · exact h2.glob.mono hro.ok
  · have hent : ∀ l : Loc, l.1 < 1000 ∧ l.2 = 0 → ρ l = l ∧ K l := by
      rintro ⟨s, k⟩ ⟨hs, hk⟩
      simp only at hs hk
      subst hk
      exact r.entry s hs
    refine ⟨fun k hk => ?_, fun l v hv => ?_, fun l n v hv => ?_, fun l s i n v hv => ?_, fun l v hv => ?_⟩
    · obtain ⟨g1, g2⟩ := h3.ok k hk
      obtain ⟨g3, g4⟩ := hro.ok k g1
      exact ⟨g3, g4.trans g2⟩
    · obtain ⟨e1, e2⟩ := hent l (h0 l (.inl ⟨v, hv⟩))
      have := (hgo l e2).own v (h3.own _ _ hv)
      rwa [e1] at this
    · obtain ⟨e1, e2⟩ := hent l (h0 l (.inr (.inl ⟨n, v, hv⟩)))
      have := (hgo l e2).ptr n v (h3.ptr _ _ _ hv)
      rwa [e1] at this
    · obtain ⟨e1, e2⟩ := hent l (h0 l (.inr (.inr (.inl ⟨s, i, n, v, hv⟩))))
      have := (hgo l e2).eptr s i n v (h3.eptr _ _ _ _ _ hv)
      rwa [e1] at this
    · obtain ⟨e1, e2⟩ := hent l (h0 l (.inr (.inr (.inr ⟨v, hv⟩))))
      have := (hgo l e2).it v (h3.it _ _ hv)
      rwa [e1] at this
end Go.Proofs.YtfknpnkdedckhaaGreatDoorT

/- The interpreter over trees: a state brought to a normal form: what lives on, its keys renamed. -/
namespace Go.Proofs.YtfknpnkdedckhaaGreatDoorT
open Go Go.RowKit
set_option linter.unusedVariables false

def eqL (a b : Loc) : Bool := Nat.beq a.1 b.1 && Nat.beq a.2 b.2
theorem eqL_iff {a b : Loc} : eqL a b = true ↔ a = b := by
  obtain ⟨a1, a2⟩ := a
  obtain ⟨b1, b2⟩ := b
  simp [eqL, Nat.beq_eq]
theorem eqL_not {a b : Loc} : eqL a b = false ↔ a ≠ b := by
  constructor
  · intro h e
    rw [eqL_iff.2 e] at h
    simp at h
  · intro h
    cases hb : eqL a b with
    | false => rfl
    | true => exact absurd (eqL_iff.1 hb) h
/-- What stands at a key. -/
def lkL {α : Type} : List (Loc × α) → Loc → Option α
  | [], _ => none
  | e :: r, l => cond (eqL e.1 l) (some e.2) (lkL r l)
def lkN : List (Nat × T) → Nat → T
  | [], _ => .dead
  | e :: r, i => cond (Nat.beq e.1 i) e.2 (lkN r i)
def cntS (s : Nat) : Nat := cond (Nat.ble 1000 s && Nat.ble (s + 1) 1000000000) 0 1
/-- A state in normal form: slots, things. -/
def mkSt (nt : Nat) (ls : List (Nat × T)) (hp : List (Loc × O)) : St := { τ := lkN ls, σ := lkL hp, cnt := cntS, nt := nt }
mutual
/-- The keys that stand in a tree, and where. -/
def keysAt : Nat → T → List (Loc × Nat)
  | p, .own l => [(l, p)]
  | p, .ptr l _ => [(l, p)]
  | p, .eptr l _ _ _ => [(l, p)]
  | p, .it l => [(l, p)]
  | p, .agg cs => keysAtL (p * 128 + 1) cs
  | p, .tup cs => keysAtL (p * 128 + 1) cs
  | p, .fn _ fs cs => keysAtL (p * 128 + 1) fs ++ keysAtL (p * 128 + 65) cs
  | _, _ => []
def keysAtL : Nat → List T → List (Loc × Nat)
  | _, [] => []
  | p, x :: r => keysAt p x ++ keysAtL (p + 1) r
end
def keysO (p : Nat) : O → List (Loc × Nat)
  | .box _ cs => keysAtL (p * 128 + 1) cs
  | _ => []
/-- All that is reached, each under its new key. -/
def reach (σ : Loc → Option O) : Nat → List (Loc × Nat) → List (Loc × Loc × O) → Option (List (Loc × Loc × O))
  | _, [], acc => some acc
  | 0, _ :: _, _ => none
  | n + 1, (l, p) :: r, acc => match lkL acc l with
    | some _ => reach σ n r acc
    | none => match σ l with
      | none => none
      | some o => reach σ n (r ++ keysO p o) (acc ++ [(l, (cond (Nat.ble (l.1 + 1) 1000) l (1000000000 + p, 0), o))])
def renOf (acc : List (Loc × Loc × O)) (l : Loc) : Loc := match lkL acc l with
  | some e => e.1
  | none => l
/-- Is a key one of these, or one of the entry? -/
def keyB (acc : List (Loc × Loc × O)) (l : Loc) : Bool := (lkL acc l).isSome || (Nat.ble (l.1 + 1) 1000 && Nat.beq l.2 0)
mutual
def keysB (acc : List (Loc × Loc × O)) : T → Bool
  | .own l => keyB acc l
  | .ptr l _ => keyB acc l
  | .eptr l _ _ _ => keyB acc l
  | .it l => keyB acc l
  | .agg cs => keysBL acc cs
  | .tup cs => keysBL acc cs
  | .fn _ fs cs => keysBL acc fs && keysBL acc cs
  | _ => true
def keysBL (acc : List (Loc × Loc × O)) : List T → Bool
  | [] => true
  | x :: r => keysB acc x && keysBL acc r
end
def keysBO (acc : List (Loc × Loc × O)) : O → Bool
  | .box _ cs => keysBL acc cs
  | _ => true
/-- A new key is an entry's own, or one of the normal form's. -/
def newOk (e : Loc × Loc × O) : Bool := Nat.beq e.2.1.2 0 && ((Nat.ble (e.1.1 + 1) 1000 && eqL e.2.1 e.1) || (Nat.ble 1000 e.1.1 && Nat.ble 1000000000 e.2.1.1))
def nodB : List Loc → Bool
  | [] => true
  | l :: r => !(r.any (eqL l)) && nodB r
def nrm (ls : List Nat) (S : St) : Option St := match reach S.σ 1000 (ls.flatMap fun i => keysAt (i + 1) (S.τ i)) [] with
  | some acc => cond (acc.all newOk && nodB (acc.map fun e => e.2.1) && ls.all (fun i => keysB acc (S.τ i)) && acc.all (fun e => keysBO acc e.2.2 && (match S.σ e.1 with | some _ => true | none => false)))
      (some (mkSt S.nt (ls.map fun i => (i, (S.τ i).ren (renOf acc))) (acc.map fun e => (e.2.1, e.2.2.ren (renOf acc))))) none
  | none => none

/-! ### Sound -/
theorem lkL_mem {α : Type} : ∀ {hp : List (Loc × α)} {l : Loc} {x : α}, lkL hp l = some x → (l, x) ∈ hp
  | [], _, _, h => by simp [lkL] at h
  | e :: r, l, x, h => by
    unfold lkL at h
    cases hb : eqL e.1 l with
    | true =>
      rw [hb] at h
      simp only [cond_true, Option.some.injEq] at h
      have := eqL_iff.1 hb
      subst h; subst this
      exact List.mem_cons_self ..
    | false =>
      rw [hb] at h
      exact List.mem_cons_of_mem _ (lkL_mem h)
theorem lkL_some {α : Type} : ∀ {hp : List (Loc × α)} {l : Loc} {x : α}, (l, x) ∈ hp → ∃ y, lkL hp l = some y
  | [], _, _, h => by simp at h
  | e :: r, l, x, h => by
    unfold lkL
    cases hb : eqL e.1 l with
    | true => exact ⟨_, rfl⟩
    | false =>
      rcases List.mem_cons.1 h with h | h
      · subst h
        exact absurd rfl (eqL_not.1 hb)
      · exact lkL_some h
theorem reach_σ {σ : Loc → Option O} : ∀ (n : Nat) (td : List (Loc × Nat)) (acc acc' : List (Loc × Loc × O)), reach σ n td acc = some acc' → (∀ e ∈ acc, σ e.1 = some e.2.2) → ∀ e ∈ acc', σ e.1 = some e.2.2
  | _, [], acc, acc', h, ha => by
    have : acc = acc' := by cases ‹Nat› <;> simpa [reach] using h
    subst this; exact ha
  | 0, _ :: _, acc, acc', h, ha => by simp [reach] at h
  | n + 1, (l, p) :: r, acc, acc', h, ha => by
    unfold reach at h
    split at h
    · exact reach_σ n r acc acc' h ha
    · split at h
      · simp at h
      · rename_i o ho
        refine reach_σ n _ _ acc' h (fun e he => ?_)
        rcases List.mem_append.1 he with he | he
        · exact ha e he
        · rw [List.mem_singleton.1 he]; exact ho
theorem reach_nd (σ : Loc → Option O) : ∀ (n : Nat) (td : List (Loc × Nat)) (acc acc' : List (Loc × Loc × O)), reach σ n td acc = some acc' → (acc.map (·.1)).Nodup → (acc'.map (·.1)).Nodup ∧ ∀ a b, a ∈ acc' → b ∈ acc' → a.1 = b.1 → a.2.1 = b.2.1 := by
  have fin : ∀ (acc : List (Loc × Loc × O)), (acc.map (·.1)).Nodup → ∀ a b, a ∈ acc → b ∈ acc → a.1 = b.1 → a.2.1 = b.2.1 := by
    intro acc hn a b ha hb he
    have hp : acc.Pairwise (fun x y => x.1 ≠ y.1) := List.pairwise_map.1 hn
    obtain ⟨i, hi, hxi⟩ := List.getElem_of_mem ha
    obtain ⟨j, hj, hej⟩ := List.getElem_of_mem hb
    by_cases hij : i = j
    · subst hij
      rw [← hxi, ← hej]
    · exfalso
      rcases Nat.lt_or_gt_of_ne hij with hlt | hlt
      · have := List.pairwise_iff_getElem.1 hp i j hi hj hlt
        rw [hxi, hej] at this
        exact this he
      · have := List.pairwise_iff_getElem.1 hp j i hj hi hlt
        rw [hxi, hej] at this
        exact this he.symm
  intro n
  induction n with
  | zero =>
    intro td acc acc' h hn
    cases td with
    | nil => simp [reach] at h; subst h; exact ⟨hn, fin _ hn⟩
    | cons => simp [reach] at h
  | succ n ih =>
    intro td acc acc' h hn
    cases td with
    | nil => simp [reach] at h; subst h; exact ⟨hn, fin _ hn⟩
    | cons x r =>
      obtain ⟨l, p⟩ := x
      unfold reach at h
      split at h
      · exact ih _ _ _ h hn
      · rename_i hl
        split at h
        · simp at h
        · refine ih _ _ _ h ?_
          rw [List.map_append]
          refine List.nodup_append.2 ⟨hn, by simp, fun a ha b hb => ?_⟩
          simp only [List.map_cons, List.map_nil, List.mem_singleton] at hb
          subst hb
          rintro rfl
          obtain ⟨e, he, rfl⟩ := List.mem_map.1 ha
          obtain ⟨y, hy⟩ := lkL_some (hp := acc) (l := e.1) (x := e.2) he
          rw [hl] at hy; simp at hy
theorem lkN_some {ls : List (Nat × T)} {i : Nat} : lkN ls i = .dead ∨ (i, lkN ls i) ∈ ls := by
  induction ls with
  | nil => exact .inl rfl
  | cons e r ih =>
    unfold lkN
    cases hb : Nat.beq e.1 i with
    | true =>
      right
      have : e.1 = i := Nat.eq_of_beq_eq_true hb
      subst this
      exact List.mem_cons_self ..
    | false =>
      rcases ih with ih | ih
      · exact .inl ih
      · exact .inr (List.mem_cons_of_mem _ ih)
theorem nodB_ok : ∀ {ls : List Loc}, nodB ls = true → ls.Nodup
  | [], _ => .nil
  | l :: r, h => by
    simp only [nodB, Bool.and_eq_true, Bool.not_eq_true', List.any_eq_false] at h
    refine List.nodup_cons.2 ⟨fun hm => ?_, nodB_ok h.2⟩
    exact h.1 l hm (eqL_iff.2 rfl)
def keyP (acc : List (Loc × Loc × O)) (l : Loc) : Prop := keyB acc l = true
mutual
theorem keysB_ok {acc : List (Loc × Loc × O)} : ∀ (t : T), keysB acc t = true → t.keysIn (keyP acc)
  | .own l, h => h
  | .ptr l _, h => h
  | .eptr l _ _ _, h => h
  | .it l, h => h
  | .agg cs, h => keysBL_ok cs h
  | .tup cs, h => keysBL_ok cs h
  | .fn _ fs cs, h => by
    have h : (keysBL acc fs && keysBL acc cs) = true := h
    simp only [Bool.and_eq_true] at h
    exact ⟨keysBL_ok fs h.1, keysBL_ok cs h.2⟩
  | .s _, _ | .ifc _ _, _ | .sl _ _, _ | .ep _, _ | .cown _ _ _, _ | .cbox _ _, _ | .dead, _ => trivial
theorem keysBL_ok {acc : List (Loc × Loc × O)} : ∀ (ts : List T), keysBL acc ts = true → keysInL (keyP acc) ts
  | [], _ => trivial
  | x :: r, h => by
    have h : (keysB acc x && keysBL acc r) = true := h
    simp only [Bool.and_eq_true] at h
    exact ⟨keysB_ok x h.1, keysBL_ok r h.2⟩
end
def invOf (acc : List (Loc × Loc × O)) (l' : Loc) : Loc := match acc.find? (fun e => eqL e.2.1 l') with
  | some e => e.1
  | none => l'
theorem cntS_low {s : Nat} (h : s < 1000) : cntS s = 1 := by
  have : Nat.ble 1000 s = false := by
    cases hb : Nat.ble 1000 s with
    | false => rfl
    | true => have := Nat.le_of_ble_eq_true hb; omega
  simp [cntS, this]
theorem cntS_high {s : Nat} (h : 1000000000 ≤ s) : cntS s = 1 := by
  have : Nat.ble (s + 1) 1000000000 = false := by
    cases hb : Nat.ble (s + 1) 1000000000 with
    | false => rfl
    | true => have := Nat.le_of_ble_eq_true hb; omega
  simp [cntS, this]
theorem nrm_ok {ls : List Nat} {S S' : St} (h : nrm ls S = some S') : ∃ ρ π K, Renames S S' ρ π K := by
  unfold nrm at h
  split at h
  · rename_i acc hacc
    cases hb : (acc.all newOk && nodB (acc.map fun e => e.2.1) && ls.all (fun i => keysB acc (S.τ i)) && acc.all (fun e => keysBO acc e.2.2 && (match S.σ e.1 with | some _ => true | none => false))) with
    | false => rw [hb] at h; simp at h
    | true =>
      rw [hb] at h
      simp only [cond_true, Option.some.injEq] at h
      subst h
      simp only [Bool.and_eq_true, List.all_eq_true] at hb
      obtain ⟨⟨⟨hnew, hnod⟩, hslot⟩, hobj⟩ := hb
      have hnod := nodB_ok hnod
      have hσ := reach_σ 1000 _ _ acc hacc (fun e he => by simp at he)
      have hne : ∀ e ∈ acc, e.2.1.2 = 0 ∧ ((e.1.1 < 1000 ∧ e.2.1 = e.1) ∨ (1000 ≤ e.1.1 ∧ 1000000000 ≤ e.2.1.1)) := by
        intro e he
        have := hnew e he
        simp only [newOk, Bool.and_eq_true, Bool.or_eq_true, eqL_iff] at this
        refine ⟨Nat.eq_of_beq_eq_true this.1, this.2.imp (fun h => ⟨Nat.le_of_ble_eq_true h.1, h.2⟩) (fun h => ⟨Nat.le_of_ble_eq_true h.1, Nat.le_of_ble_eq_true h.2⟩)⟩
      have hinv : ∀ e ∈ acc, invOf acc e.2.1 = e.1 := by
        intro e he
        unfold invOf
        split
        · rename_i x hx
          have h1 := List.mem_of_find?_eq_some hx
          have h2 : eqL x.2.1 e.2.1 = true := by simpa using List.find?_some hx
          have h2 := eqL_iff.1 h2
          have : x = e := by
            have hp : acc.Pairwise (fun a b => a.2.1 ≠ b.2.1) := List.pairwise_map.1 hnod
            by_cases hxe : x = e
            · exact hxe
            · exfalso
              obtain ⟨i, hi, hxi⟩ := List.getElem_of_mem h1
              obtain ⟨j, hj, hej⟩ := List.getElem_of_mem he
              have hij : i ≠ j := by rintro rfl; exact hxe (hxi.symm.trans hej)
              rcases Nat.lt_or_gt_of_ne hij with hlt | hlt
              · have := List.pairwise_iff_getElem.1 hp i j hi hj hlt
                rw [hxi, hej] at this
                exact this h2
              · have := List.pairwise_iff_getElem.1 hp j i hj hi hlt
                rw [hxi, hej] at this
                exact this h2.symm
          rw [this]
        · rename_i hx
          have := List.find?_eq_none.1 hx e he
          exact absurd (eqL_iff.2 rfl) this
      have hren : ∀ l e, lkL acc l = some e → renOf acc l = e.1 ∧ (l, e) ∈ acc := fun l e hl => ⟨by simp [renOf, hl], lkL_mem hl⟩
      have hKcase : ∀ l, keyP acc l → (∃ e, (l, e) ∈ acc ∧ renOf acc l = e.1) ∨ (lkL acc l = none ∧ renOf acc l = l ∧ l.1 < 1000 ∧ l.2 = 0) := by
        intro l hK
        unfold keyP keyB at hK
        cases hl : lkL acc l with
        | some e => exact .inl ⟨e, (hren l e hl).2, (hren l e hl).1⟩
        | none =>
          rw [hl] at hK
          simp only [Option.isSome_none, Bool.false_or, Bool.and_eq_true] at hK
          exact .inr ⟨rfl, by simp [renOf, hl], Nat.le_of_ble_eq_true hK.1, Nat.eq_of_beq_eq_true hK.2⟩
      refine ⟨renOf acc, invOf acc, keyP acc, ⟨rfl, fun i => ?_, fun l' o' hl' => ?_, fun l hK o' ho' => ?_, fun l hK hlt => ?_, fun s hs => ?_⟩⟩
      · rcases lkN_some (ls := ls.map fun i => (i, (S.τ i).ren (renOf acc))) (i := i) with h | h
        · exact .inl h
        · right
          obtain ⟨j, hj, he⟩ := List.mem_map.1 h
          injection he with e1 e2
          subst e1
          exact ⟨e2.symm, keysB_ok _ (hslot j hj)⟩
      · have hl2 : lkL (acc.map fun e : Loc × Loc × O => (e.2.1, e.2.2.ren (renOf acc))) l' = some o' := hl'
        have hm := lkL_mem hl2
        obtain ⟨e, he, hee⟩ := List.mem_map.1 hm
        injection hee with e1 e2
        subst e1; subst e2
        have h1 := hinv e he
        refine ⟨e.2.2, by rw [h1]; exact hσ e he, ?_, rfl, ?_, ?_⟩
        · rw [h1]
          obtain ⟨y, hy⟩ := lkL_some (hp := acc) (l := e.1) (x := e.2) he
          obtain ⟨r1, r2⟩ := hren _ _ hy
          rw [r1]
          exact (reach_nd S.σ 1000 _ _ acc hacc (by simp)).2 _ _ r2 he rfl
        · have := hobj e he
          have : keysBO acc e.2.2 = true := this.1
          cases hoo : e.2.2 with
          | box ty cs =>
            rw [hoo] at this
            exact keysBL_ok cs this
          | arr => trivial
          | iter => trivial
        · have h0 := (hne e he).1
          rw [h0]
          show 0 < cntS e.2.1.1
          rcases (hne e he).2 with ⟨g1, g2⟩ | ⟨g1, g2⟩
          · rw [g2, cntS_low g1]; exact Nat.one_pos
          · rw [cntS_high g2]; exact Nat.one_pos
      · have hl2 : lkL (acc.map fun e : Loc × Loc × O => (e.2.1, e.2.2.ren (renOf acc))) (renOf acc l) = some o' := ho'
        have hm := lkL_mem hl2
        obtain ⟨e, he, hee⟩ := List.mem_map.1 hm
        injection hee with e1 e2
        rcases hKcase l hK with ⟨x, hx, hr⟩ | ⟨hn, hr, h1, h2⟩
        · rw [hr]; exact hinv _ hx
        · rw [hr] at e1 ⊢
          rcases (hne e he).2 with ⟨g1, g2⟩ | ⟨g1, g2⟩
          · have : e.1 = l := g2.symm.trans e1
            obtain ⟨y, hy⟩ := lkL_some (hp := acc) (l := l) (x := e.2) (by rw [← this]; exact he)
            rw [hn] at hy; simp at hy
          · rw [e1] at g2; omega
      · show (renOf acc l).2 < cntS (renOf acc l).1
        rcases hKcase l hK with ⟨x, hx, hr⟩ | ⟨hn, hr, h1, h2⟩
        · rw [hr]
          have h0 := (hne _ hx).1
          simp only at h0
          rw [h0]
          rcases (hne _ hx).2 with ⟨g1, g2⟩ | ⟨g1, g2⟩
          · simp only at g1 g2; rw [g2, cntS_low g1]; exact Nat.one_pos
          · simp only at g2; rw [cntS_high g2]; exact Nat.one_pos
        · rw [hr, h2, cntS_low h1]; exact Nat.one_pos
      · constructor
        · cases hl : lkL acc (s, 0) with
          | none => simp [renOf, hl]
          | some e =>
            obtain ⟨r1, r2⟩ := hren _ _ hl
            rw [r1]
            rcases (hne _ r2).2 with ⟨g1, g2⟩ | ⟨g1, g2⟩
            · exact g2
            · simp only at g1; omega
        · unfold keyP keyB
          have : Nat.ble (s + 1) 1000 = true := Nat.ble_eq_true_of_le (by omega)
          simp [this]
  · simp at h
end Go.Proofs.YtfknpnkdedckhaaGreatDoorT

/- The interpreter over trees: what is to be shown of an operation, and of a region, so that what stands behind it holds. -/
namespace Go.Proofs.YtfknpnkdedckhaaGreatDoorT
open Go Go.RowKit
set_option linter.unusedVariables false

/-- Values of a kind, with what is open in them. -/
inductive Enc (β : Type) : Type 1 where
  | done (r : β)
  | ex (α : Type) (k : α → Enc β)
def Enc.some {β : Type} : Enc β → (β → Prop) → Prop
  | .done r, k => k r
  | .ex α f, k => ∃ x : α, (f x).some k
theorem Enc.some_elim {β : Type} : ∀ {e : Enc β} {k : β → Prop}, e.some k → ∃ r, k r
  | .done r, k, h => ⟨r, h⟩
  | .ex α f, k, ⟨x, h⟩ => Enc.some_elim h
def alts {β : Type} : List (Enc β) → (β → Prop) → Prop
  | [], _ => False
  | [e], k => e.some k
  | e :: r, k => e.some k ∨ alts r k
theorem alts_elim {β : Type} : ∀ {l : List (Enc β)} {k : β → Prop}, alts l k → ∃ r, k r
  | [], k, h => h.elim
  | [e], k, h => Enc.some_elim h
  | e :: x :: r, k, h => h.elim Enc.some_elim alts_elim
/-- What is told of a function: the shapes of results and elements by place; the slots that live on at a cut. -/
structure Ann where
  call : Nat → List T → List (Enc (T × List T))
  elem : Nat → List (Enc T)
  inv : Nat → List (TypeId × List (Enc T))
  cut : Nat → Option (List Nat)
  same : Nat → List Loc
def chk (b : Bool) (K : Prop) : Prop := cond b K False
theorem chk_iff {b : Bool} {K : Prop} : chk b K ↔ b = true ∧ K := by cases b <;> simp [chk]
/-- A call that is known: the function comes to this result. -/
def Runs (P : Program) (f : FuncId) (args : List T) (r : T × List T) : Prop := Enters P f ∧ Contract P f args r.1 r.2

section
variable (P : Program)
def opt {α : Type} (o : Option α) (k : α → Prop) : Prop := match o with
  | some x => k x
  | none => False
theorem opt_elim {α : Type} {o : Option α} {k : α → Prop} (h : opt o k) : ∃ x, o = some x ∧ k x := by
  cases o with
  | none => exact h.elim
  | some x => exact ⟨x, rfl, h⟩
/-- A call, from where its result is known. -/
def evCallW (S : St) (mv : Bool) (site : Nat) (args : List T) (m r : List Loc) (R : T × List T) : Option Dl := match backL (ckey site S.cnt) mv 0 args R.2 with
  | some (j, u) => match opn (ckey site S.cnt) j R.1 with
    | (res', k, u') =>
      let keep := r.isEmpty || (noRo R.1 && m.isEmpty && u.isEmpty)
      if decide (k ≤ 62) && u.all (fun e => match S.σ e.1 with | some o => likeB o e.2 | none => true) then
        some ⟨res', killL (m ++ if keep then [] else r) ++ (u ++ u').map (fun e => (e.1, some e.2)), (List.range k).map (site + 1 + ·), m ++ r ++ u.map (·.1)⟩
      else none
  | none => none
def vcCall (ann : Ann) (mv : FuncId → Bool) (site : Nat) (S : St) (g : FuncId) (args : List T) (k : Dl → Prop) : Prop := match argCL S.σ (mv g) args with
  | some (cargs, m, r) => chk (nodupL m && r.all (fun l => !m.contains l)) (alts (ann.call site (canA P g cargs)) fun R => Runs P g (canA P g cargs) R ∧ opt (evCallW S (mv g) site args m r R) k)
  | none => False
def vcBound (o : Option T) (dflt mx : Nat) (k : Nat → Prop) : Prop := match o with
  | none => k dflt
  | some (.s (.int _ n)) => (0 ≤ n ∧ n ≤ mx) ∧ k n.toNat
  | _ => False
/-- A load of an element that is known. -/
def evLoadX (t : TypeId) (l : Loc) (off : Nat) (x : T) : Option Dl := if x.ok1 then (match ofCells P t (x.cells.drop off) with | some y => some ⟨y, [], [], [l]⟩ | none => none) else none
def evStoreX (n : Nat) (l : Loc) (e : TypeId) (sz i off : Nat) (xs : List T) (w : T) (r : List Loc) (x : T) : Option Dl :=
  if w.ok1 && x.ok1 && decide (w.cells.length = n) && decide (off + n ≤ x.cells.length) && !r.contains l then
    (match x with
    | .agg cs => some ⟨.dead, killL r ++ [(l, some (.arr e sz (xs.set i (.agg (splice cs off w.cells)))))], [], l :: r⟩
    | _ => match w with
      | .agg _ => none
      | _ => some ⟨.dead, killL r ++ [(l, some (.arr e sz (xs.set i w)))], [], l :: r⟩) else none
def vcAppend (S : St) (site : Nat) (t : TypeId) (tys : Option TypeId) (s x : T) (k : Dl → Prop) : Prop := match elemOf P t, tys with
  | some e, some t1 => match elemOf P t1, szOf P e, bytesOf P e, zeroOf P e with
    | some _, some sz, some by_, some _ => chk (!decide (sz = 0 ∨ by_ = 0)) (match srcOf S.σ sz x with
      | some (ys, r) => chk (ys.all T.ok1) (match s with
        | .s (.slice none 0 0) => chk (Nat.ble (ys.length * by_) 140737488355328) (cond ys.isEmpty (k ⟨.s (.slice none 0 0), [], [], r⟩) (k ⟨.own (site, S.cnt site), [((site, S.cnt site), some (.arr e sz ys))], [site], r⟩))
        | .own l => match S.σ l with
          | some (.arr e' sz' xs) => chk (decide (e' = e) && decide (sz' = sz)) (chk (Nat.ble ((xs.length + ys.length) * by_) 140737488355328)
              (k ⟨.own (l.1, S.cnt l.1), [(l, none), ((l.1, S.cnt l.1), some (.arr e sz (xs ++ ys)))], [l.1], l :: r⟩))
          | _ => False
        | _ => False)
      | none => False)
    | _, _, _, _ => False
  | _, _ => False
def vcInv (ann : Ann) (mv : FuncId → Bool) (site : Nat) (S : St) (name : String) (t : TypeId) (x : T) (args : List T) (k : Dl → Prop) : List (TypeId × List (Enc T)) → Prop
  | [] => False
  | (t0, es) :: r => cond (Nat.beq t t0) (chk (!decide (t0 = 0)) (opt (methodOf P t0 name) fun g => alts es fun y => x = y ∧ vcCall P ann mv site S g (y :: args) k)) (vcInv ann mv site S name t x args k r)
/-- What is to be shown of an operation. -/
def vcOp (ann : Ann) (mv : FuncId → Bool) (site : Nat) (S : St) (o : Oper) (k : Dl → Prop) : Prop :=
  match o.op with
  | .binOp op t x y _ => match op, opd S x, opd S y with
    | .add, .s (.string a), .s (.string b) => (((a.size + b.size : Nat) : Int) ≤ 9223372036854775807) ∧ (k ⟨.s (.string (a ++ b)), [], [], []⟩)
    | _, _, _ => opt (evBin P op t x y (opd S x) (opd S y)) fun v => k ⟨v, [], [], []⟩
  | .index t x i => match opd S x, opd S i, P.underlying t with
    | .s (.string b), .s (.int _ n), some .string => (0 ≤ n ∧ n < b.size) ∧ k ⟨.s (.int .u8 (byteAt b n.toNat)), [], [], []⟩
    | _, _, _ => opt (evIndex P t (opd S x) (opd S i)) fun v => k ⟨v, [], [], []⟩
  | .indexAddr t x i => match elemOf P t, opd S i, opd S x with
    | some e, .s (.int _ n), .sl sz' xs => opt (szOf P e) fun sz => chk (decide (sz' = sz)) (alts (ann.elem site) fun y => (0 ≤ n ∧ xs[n.toNat]? = some y) ∧ chk y.ok1 (k ⟨.ep y.cells, [], [], []⟩))
    | some e, .s (.int _ n), .own l => opt (szOf P e) fun sz => match S.σ l with
      | some (.arr _ _ xs) => (0 ≤ n ∧ n < xs.length) ∧ k ⟨.eptr l sz n.toNat 0, [], [], [l]⟩
      | _ => False
    | _, _, _ => False
  | .load t a => match opd S a with
    | .eptr l sz i off => match S.σ l with
      | some (.arr _ sz' xs) => chk (decide (sz' = sz)) (alts (ann.elem site) fun y => xs[i]? = some y ∧ opt (evLoadX P t l off y) k)
      | _ => False
    | x => opt (evLoad P S t x) k
  | .store t a x => match opd S a with
    | .eptr l sz' i off => match S.σ l, szOf P t, frzC P t S.σ (opd S x) with
      | some (.arr e sz xs), some n, some (w, r) => chk (decide (sz' = sz)) (alts (ann.elem site) fun y => xs[i]? = some y ∧ opt (evStoreX n l e sz i off xs w r y) k)
      | _, _, _ => False
    | a => opt (evStore P S t (opd S x) a) k
  | .slice t x lo hi none => match opd S x, P.underlying t with
    | .s (.string b), some .string => vcBound (hi.map (opd S)) b.size b.size fun h => vcBound (lo.map (opd S)) 0 h fun l => k ⟨.s (.string (b.extract l h)), [], [], []⟩
    | .sl sz xs, some (.slice e) => opt (szOf P e) fun n => chk (szok sz n xs) (vcBound (hi.map (opd S)) xs.length xs.length fun h => vcBound (lo.map (opd S)) 0 h fun l => k ⟨.sl sz ((xs.take h).drop l), [], [], []⟩)
    | .own l, some (.slice e) => match szOf P e, S.σ l with
      | some _, some (.arr e' sz xs) => vcBound (hi.map (opd S)) xs.length xs.length fun h => vcBound (lo.map (opd S)) 0 h fun j => chk (decide (j = 0)) (k ⟨.own (l.1, S.cnt l.1), [(l, none), ((l.1, S.cnt l.1), some (.arr e' sz (xs.take h)))], [l.1], [l]⟩)
      | _, _ => False
    | x, _ => opt (evSlice P S site t x (lo.map (opd S)) (hi.map (opd S))) k
  | .typeAssert x xt t ok => match opd S x with
    | .ifc t' y => chk (decide (ifaceT P t = some false ∧ t ≠ 0)) (cond (Nat.beq t' t) (alts (ann.elem site) fun z => y = z ∧ k ⟨if ok then .tup [z, tb true] else z, [], [], []⟩)
        (chk ok (opt (zeroT P t) fun z => k ⟨.tup [z, tb false], [], [], []⟩)))
    | _ => False
  | .next x true => match opd S x with
    | .it l => match S.σ l with
      | some (.iter b pos) => cond (Nat.ble (pos + 1) b.size) (k ⟨.tup [tb true, ti pos, .s (.int .i32 (Utf8.decode b pos).1)], [(l, some (.iter b (pos + (Utf8.decode b pos).2)))], [], [l]⟩) (k ⟨.tup [tb false], [], [], [l]⟩)
      | _ => False
    | _ => False
  | .call c => match c.callee with
    | .builtin .append => match c.args.toList with
      | [s, x] => opt (c.argTypes[0]?) fun t => vcAppend P S site t (c.argTypes[1]?) (opd S s) (opd S x) k
      | _ => False
    | .value f => match opd S f with
      | .s (.func (.func g) a b) => chk (a.isEmpty && b.isEmpty) (vcCall P ann mv site S g (c.args.toList.map (opd S)) k)
      | .fn (.func g) fs cs => vcCall P ann mv site S g (fs ++ c.args.toList.map (opd S) ++ cs) k
      | _ => False
    | .invoke f name => match opd S f with
      | .ifc t x => vcInv P ann mv site S name t x (c.args.toList.map (opd S)) k (ann.inv site)
      | _ => False
    | _ => opt (evOp P (fun _ _ => none) mv site S o) k
  | _ => opt (evOp P (fun _ _ => none) mv site S o) k
end
section
variable {P : Program}
/-- Values of kinds that only compute. -/
theorem known_none : Known P (fun _ _ => none) := fun _ _ _ _ h => by simp at h
theorem contract_can {g : FuncId} {args : List T} {res : T} {outs : List T} (h : Contract P g (canA P g args) res outs) : Contract P g args res outs := by
  have key : ∀ (w : World) (ok : Nat → Prop) (vals : List Value) (bs : List Nat), RepXL w ok args vals bs → RepXL w ok (canA P g args) vals bs := by
    intro w ok vals bs hx
    unfold canA
    split
    · rename_i fn hf
      split
      · rename_i hl
        have : ∀ (ts : List TypeId) (xs : List T) (vs : List Value) (b : List Nat), ts.length = xs.length → RepXL w ok xs vs b → RepXL w ok (List.zipWith (canT P) ts xs) vs b := by
          intro ts
          induction ts with
          | nil => intro xs vs b hl h; cases xs with | nil => exact h | cons => simp at hl
          | cons t ts ih =>
            intro xs vs b hl h
            cases xs with
            | nil => simp at hl
            | cons x xs =>
              obtain ⟨v, vs', b1, b2, rfl, rfl, h1, h2⟩ := h
              exact ⟨v, vs', b1, b2, rfl, rfl, canT_X h1, ih xs vs' b2 (by simpa using hl) h2⟩
        exact this _ _ _ _ (by simpa using hl) hx
      · exact hx
    · exact hx
  exact fun w ok vals bs hx => h w ok vals bs (key w ok vals bs hx)
/-- A told call. -/
noncomputable def told (g : FuncId) (cargs : List T) (R : T × List T) : FuncId → List T → Option (T × List T) := fun g' c => open Classical in if g' = g ∧ c = cargs then some R else none
theorem told_known {g : FuncId} {cargs : List T} {R : T × List T} (h : Runs P g (canA P g cargs) R) : Known P (told g cargs R) := by
  intro g' c res outs he
  unfold told at he
  split at he
  · rename_i hc
    obtain ⟨rfl, rfl⟩ := hc
    injection he with he
    subst he
    exact ⟨h.1, contract_can h.2⟩
  · simp at he
theorem told_self (g : FuncId) (cargs : List T) (R : T × List T) : told g cargs R g cargs = some R := by simp [told]
/-- That an operation does something with a known call. -/
def Does (P : Program) (mv : FuncId → Bool) (site : Nat) (S : St) (o : Oper) (k : Dl → Prop) : Prop := ∃ call, Known P call ∧ ∃ d, evOp P call mv site S o = some d ∧ k d
theorem call_does {ann : Ann} {mv : FuncId → Bool} {site : Nat} {S : St} {g : FuncId} {args : List T} {k : Dl → Prop} (h : vcCall P ann mv site S g args k) : ∃ call, Known P call ∧ ∃ d, evCall S call mv site g args = some d ∧ k d := by
  unfold vcCall at h
  split at h
  · rename_i cargs m r ha
    obtain ⟨h1, h⟩ := chk_iff.1 h
    obtain ⟨R, hr, h⟩ := alts_elim h
    obtain ⟨d, hd, hk⟩ := opt_elim h
    refine ⟨told g cargs R, told_known hr, d, ?_, hk⟩
    obtain ⟨res, outs⟩ := R
    simp only [evCall, ha, h1, if_true, told_self]
    exact hd
  · exact h.elim
theorem bound_vc {o : Option T} {d m : Nat} {k : Nat → Prop} (h : vcBound o d m k) : ∃ n, bound o d m = some n ∧ k n := by
  unfold vcBound at h
  split at h
  · exact ⟨d, rfl, h⟩
  · obtain ⟨h1, h2⟩ := h
    exact ⟨_, by simp [bound, h1], h2⟩
  · exact h.elim
theorem append_vc {S : St} {site : Nat} {t : TypeId} {tys : Option TypeId} {s x : T} {k : Dl → Prop} (h : vcAppend P S site t tys s x k) : ∃ d, evAppend P S site t tys s x = some d ∧ k d := by
  unfold vcAppend at h
  split at h
  · rename_i e t1 he
    split at h
    · rename_i e1 sz by_ z he1 hsz hby hz
      obtain ⟨h1, h⟩ := chk_iff.1 h
      simp only [Bool.not_eq_true', decide_eq_false_iff_not] at h1
      split at h
      · rename_i ys r hs
        obtain ⟨h2, h⟩ := chk_iff.1 h
        split at h
        · obtain ⟨h3, h⟩ := chk_iff.1 h
          have h3 := Nat.le_of_ble_eq_true h3
          cases ys with
          | nil => exact ⟨_, by simp only [evAppend, he, he1, hsz, hby, hz, if_neg h1, hs, h2, if_true, if_pos h3], h⟩
          | cons y ys => exact ⟨_, by simp only [evAppend, he, he1, hsz, hby, hz, if_neg h1, hs, h2, if_true, if_pos h3], h⟩
        · rename_i l
          split at h
          · rename_i e' sz' xs hl
            obtain ⟨h3, h⟩ := chk_iff.1 h
            obtain ⟨h4, h⟩ := chk_iff.1 h
            simp only [Bool.and_eq_true, decide_eq_true_eq] at h3
            have h5 : e' = e ∧ sz' = sz ∧ (xs.length + ys.length) * by_ ≤ 140737488355328 := ⟨h3.1, h3.2, Nat.le_of_ble_eq_true h4⟩
            exact ⟨_, by simp only [evAppend, he, he1, hsz, hby, hz, if_neg h1, hs, h2, if_true, hl, if_pos h5], h⟩
          · exact h.elim
        · exact h.elim
      · exact h.elim
    · exact h.elim
  · exact h.elim
theorem inv_does {ann : Ann} {mv : FuncId → Bool} {site : Nat} {S : St} {name : String} {t : TypeId} {x : T} {args : List T} {k : Dl → Prop} : ∀ {l : List (TypeId × List (Enc T))}, vcInv P ann mv site S name t x args k l → t ≠ 0 ∧ ∃ g, methodOf P t name = some g ∧ ∃ call, Known P call ∧ ∃ d, evCall S call mv site g (x :: args) = some d ∧ k d
  | [], h => h.elim
  | (t0, es) :: r, h => by
    unfold vcInv at h
    cases hb : Nat.beq t t0 with
    | true =>
      rw [hb] at h
      have ht : t = t0 := Nat.eq_of_beq_eq_true hb
      subst ht
      obtain ⟨h0, h⟩ := chk_iff.1 h
      obtain ⟨g, hg, h⟩ := opt_elim h
      obtain ⟨y, rfl, h⟩ := alts_elim h
      exact ⟨by simpa using h0, g, hg, call_does h⟩
    | false =>
      rw [hb] at h
      exact inv_does h
theorem op_does {ann : Ann} {mv : FuncId → Bool} {site : Nat} {S : St} {o : Oper} {k : Dl → Prop} (h : vcOp P ann mv site S o k) : Does P mv site S o k := by
  have dflt : opt (evOp P (fun _ _ => none) mv site S o) k → Does P mv site S o k := fun h => by
    obtain ⟨d, hd, hk⟩ := opt_elim h
    exact ⟨_, known_none, d, hd, hk⟩
  have same : ∀ {d : Dl}, evOp P (fun _ _ => none) mv site S o = some d → k d → Does P mv site S o k := fun hd hk => ⟨_, known_none, _, hd, hk⟩
  unfold vcOp at h
  split at h
  · rename_i op t x y c ho
    split at h
    · rename_i a b hx hy
      obtain ⟨h1, h⟩ := h
      refine same ?_ h
      simp only [evOp, ho, hx, hy, evBin, cmpS, if_pos (h1), pv]
    · obtain ⟨v, hv, hk⟩ := opt_elim h
      refine same ?_ hk
      simp only [evOp, ho, hv, pv]
  · rename_i t x i ho
    split at h
    · rename_i b kk n hx hi hu
      refine same ?_ h.2
      simp only [evOp, ho, hx, hi, evIndex, hu, if_pos h.1, pv]
    · obtain ⟨v, hv, hk⟩ := opt_elim h
      refine same ?_ hk
      simp only [evOp, ho, hv, pv]
  · rename_i t x i ho
    split at h
    · rename_i e kk n sz' xs he hi hx
      obtain ⟨sz, hs, h⟩ := opt_elim h
      obtain ⟨h1, h⟩ := chk_iff.1 h
      obtain ⟨y, ⟨h2, h3⟩, h⟩ := alts_elim h
      obtain ⟨h4, h⟩ := chk_iff.1 h
      refine same ?_ h
      have hl := (List.getElem?_eq_some_iff.1 h3).1
      have h5 : 0 ≤ n ∧ n < (xs.length : Int) := ⟨h2, by omega⟩
      simp only [evOp, ho, evIndexAddr, he, hi, hx, hs, szok, h1, Bool.true_or, if_true, if_pos h5, h3, h4, pv]
    · rename_i e kk n l he hi hx
      obtain ⟨sz, hs, h⟩ := opt_elim h
      split at h
      · rename_i a1 a2 xs hl
        refine same ?_ h.2
        simp only [evOp, ho, evIndexAddr, he, hi, hx, hs, hl, if_pos h.1]
      · exact h.elim
    · exact h.elim
  · rename_i t a ho
    split at h
    · rename_i l sz i off ha
      split at h
      · rename_i e sz' xs hl
        obtain ⟨h1, h⟩ := chk_iff.1 h
        obtain ⟨y, h2, h⟩ := alts_elim h
        obtain ⟨d, hd, hk⟩ := opt_elim h
        refine same ?_ hk
        unfold evLoadX at hd
        split at hd
        · rename_i hy
          simp only [evOp, ho, ha, evLoad, hl, h2, hy, h1, Bool.and_self, if_true]
          exact hd
        · simp at hd
      · exact h.elim
    · obtain ⟨d, hd, hk⟩ := opt_elim h
      refine same ?_ hk
      simp only [evOp, ho, hd]
  · rename_i t a x ho
    split at h
    · rename_i l sz' i off ha
      split at h
      · rename_i e sz xs n w r hl hs hf
        obtain ⟨h1, h⟩ := chk_iff.1 h
        obtain ⟨y, h2, h⟩ := alts_elim h
        obtain ⟨d, hd, hk⟩ := opt_elim h
        refine same ?_ hk
        unfold evStoreX at hd
        split at hd
        · rename_i hy
          simp only [evOp, ho, ha, evStore, hl, hs, hf, h2]
          simp only [Bool.and_eq_true] at hy
          obtain ⟨⟨⟨⟨g1, g2⟩, g3⟩, g4⟩, g5⟩ := hy
          simp only [g1, g2, h1, g3, g4, g5, Bool.and_self, if_true]
          exact hd
        · simp at hd
      · exact h.elim
    · obtain ⟨d, hd, hk⟩ := opt_elim h
      refine same ?_ hk
      simp only [evOp, ho, hd]
  · rename_i t x lo hi ho
    split at h
    · rename_i b hx hu
      obtain ⟨h', e1, h⟩ := bound_vc h
      obtain ⟨l, e2, h⟩ := bound_vc h
      refine same ?_ h
      simp only [evOp, ho, evSlice, hx, hu, e1, e2, pv]
    · rename_i sz xs e hx hu
      obtain ⟨n, hs, h⟩ := opt_elim h
      obtain ⟨h1, h⟩ := chk_iff.1 h
      obtain ⟨h', e1, h⟩ := bound_vc h
      obtain ⟨l, e2, h⟩ := bound_vc h
      refine same ?_ h
      simp only [evOp, ho, evSlice, hx, hu, hs, h1, if_true, e1, e2, pv]
    · rename_i l e hx hu
      split at h
      · rename_i n e' sz xs hs hl
        obtain ⟨h', e1, h⟩ := bound_vc h
        obtain ⟨j, e2, h⟩ := bound_vc h
        obtain ⟨h1, h⟩ := chk_iff.1 h
        refine same ?_ h
        simp only [evOp, ho, evSlice, hx, hu, hs, hl, e1, e2, if_pos (of_decide_eq_true h1)]
      · exact h.elim
    · obtain ⟨d, hd, hk⟩ := opt_elim h
      refine same ?_ hk
      simp only [evOp, ho, hd]
  · rename_i x xt t ok ho
    split at h
    · rename_i t' y hx
      obtain ⟨h1, h⟩ := chk_iff.1 h
      have h1 := of_decide_eq_true h1
      cases hb : Nat.beq t' t with
      | true =>
        rw [hb] at h
        have ht : t' = t := Nat.eq_of_beq_eq_true hb
        subst ht
        obtain ⟨z, rfl, h⟩ := alts_elim h
        refine same ?_ h
        simp only [evOp, ho, hx, evAssert, if_pos h1, if_true, pv]
      | false =>
        rw [hb] at h
        have ht : t' ≠ t := by rintro rfl; simp [Nat.beq_refl] at hb
        obtain ⟨h2, h⟩ := chk_iff.1 h
        obtain ⟨z, hz, h⟩ := opt_elim h
        refine same ?_ h
        simp only [evOp, ho, hx, evAssert, if_pos h1, if_neg ht, h2, if_true, hz, pv]
    · exact h.elim
  · rename_i x ho
    split at h
    · rename_i l hx
      split at h
      · rename_i b pos hl
        cases hb : Nat.ble (pos + 1) b.size with
        | true =>
          rw [hb] at h
          refine same ?_ h
          have : pos < b.size := Nat.le_of_ble_eq_true hb
          simp only [evOp, ho, hx, hl, if_pos this]
        | false =>
          rw [hb] at h
          refine same ?_ h
          have : ¬ pos < b.size := fun hlt => by rw [Nat.ble_eq_true_of_le hlt] at hb; simp at hb
          simp only [evOp, ho, hx, hl, if_neg this]
      · exact h.elim
    · exact h.elim
  · rename_i c ho
    split at h
    · rename_i hc
      split at h
      · rename_i s x hxs
        obtain ⟨t, ht, h⟩ := opt_elim h
        obtain ⟨d, hd, hk⟩ := append_vc h
        refine same ?_ hk
        simp only [evOp, ho, hc, hxs, ht, hd]
      · exact h.elim
    · rename_i f hc
      split at h
      · rename_i g a b hf
        obtain ⟨h1, h⟩ := chk_iff.1 h
        obtain ⟨call, hk, d, hd, hkd⟩ := call_does h
        exact ⟨call, hk, d, by simp only [evOp, ho, hc, hf, h1, if_true, hd], hkd⟩
      · rename_i g fs cs hf
        obtain ⟨call, hk, d, hd, hkd⟩ := call_does h
        exact ⟨call, hk, d, by simp only [evOp, ho, hc, hf, hd], hkd⟩
      · exact h.elim
    · rename_i f name hc
      split at h
      · rename_i t x hf
        obtain ⟨h0, g, hg, call, hk, d, hd, hkd⟩ := inv_does h
        exact ⟨call, hk, d, by simp only [evOp, ho, hc, hf, if_neg h0, hg, hd], hkd⟩
      · exact h.elim
    · exact dflt h
  · exact dflt h
end
/-! ### Regions -/
section
variable (P : Program) (ann : Ann) (mv : FuncId → Bool)
def setB (S : St) (t : Nat) (b : Bool) : St := { S with τ := putT S.τ t (.s (.bool b)) }
def vcGuard (ops : Array Oper) (S : St) (o : Oper) (k : St → Bool → Prop) : Prop := match o.guard with
  | none => k S true
  | some (j, want) => match ops[j]? with
    | some p => match p.dst with
      | some t => match S.τ t with
        | .s (.bool b) => cond b (k (setB S t true) want) (k (setB S t false) (!want))
        | .tup [] => k S false
        | _ => False
      | none => False
    | none => False
def deadD : Dl := ⟨.tup [], [], [], []⟩
def vcOps (id : Nat) (ops : Array Oper) : Nat → List Oper → St → (St → Prop) → Prop
  | _, [], S, N => N S
  | i, o :: r, S, N => vcGuard ops S o fun S' g => cond g (vcOp P ann mv (siteOf id i) S' o fun d => vcOps id ops (i + 1) r (S'.ap o.dst d) N) (vcOps id ops (i + 1) r (S'.ap o.dst deadD) N)
/-- What is left out is as it was. -/
def sameC (σ : Loc → Option O) (d : Dl) : List Loc → Prop → Prop
  | [], K => K
  | l :: r, K => chk (d.rd.contains l) (updL σ d.upd l = σ l ∧ sameC σ d r K)
def vcOpsD (id : Nat) (bits : List Nat) (ops : Array Oper) : Nat → List (Nat × Dl) → List Oper → St → (St → Prop) → Prop
  | _, _, [], S, N => N S
  | i, log, o :: r, S, N => vcGuard ops S o fun S' g => cond g (vcOp P ann mv (siteOf id i) S' o fun d => sameC S'.σ d (ann.same (siteOf id i)) (chk (log.all fun e => (bits.getD i 0).testBit e.1 || indep e.2 (dropD (ann.same (siteOf id i)) d)) (vcOpsD id bits ops (i + 1) ((i, dropD (ann.same (siteOf id i)) d) :: log) r (S'.ap o.dst (dropD (ann.same (siteOf id i)) d)) N)))
      (vcOpsD id bits ops (i + 1) ((i, deadD) :: log) r (S'.ap o.dst deadD) N)
end
section
variable {P : Program} {ann : Ann} {mv : FuncId → Bool}
theorem setB_same {S : St} {t : Nat} {b : Bool} (h : S.τ t = .s (.bool b)) : setB S t b = S := by
  unfold setB
  have : putT S.τ t (.s (.bool b)) = S.τ := by
    funext i
    unfold putT
    split
    · rename_i e; rw [e, h]
    · rfl
  rw [this]
theorem guard_vc {ops : Array Oper} {S : St} {o : Oper} {k : St → Bool → Prop} (h : vcGuard ops S o k) : ∃ g, guardT ops S o = some g ∧ k S g := by
  unfold vcGuard at h
  split at h
  · rename_i ho
    exact ⟨true, by simp only [guardT, ho], h⟩
  · rename_i j want ho
    split at h
    · rename_i p hp
      split at h
      · rename_i t ht
        split at h
        · rename_i b hb
          cases b with
          | true =>
            have h : k (setB S t true) want := h
            rw [setB_same hb] at h
            exact ⟨want, by simp only [guardT, ho, hp, ht, hb]; cases want <;> rfl, h⟩
          | false =>
            have h : k (setB S t false) (!want) := h
            rw [setB_same hb] at h
            exact ⟨!want, by simp only [guardT, ho, hp, ht, hb]; cases want <;> rfl, h⟩
        · rename_i hb
          exact ⟨false, by simp only [guardT, ho, hp, ht, hb], h⟩
        · exact h.elim
      · exact h.elim
    · exact h.elim
theorem siteOf_inj {id i j : Nat} (h : siteOf id i = siteOf id j) : i = j := by unfold siteOf at h; omega
theorem evOps_congr {call call' : Nat → FuncId → List T → Option (T × List T)} {id : Nat} {ops : Array Oper} : ∀ (r : List Oper) (i : Nat) (S : St), (∀ j, i ≤ j → call (siteOf id j) = call' (siteOf id j)) → evOps P call mv id ops i r S = evOps P call' mv id ops i r S
  | [], i, S, h => rfl
  | o :: r, i, S, h => by
    have ih : ∀ S, evOps P call mv id ops (i + 1) r S = evOps P call' mv id ops (i + 1) r S := fun S => evOps_congr r (i + 1) S (fun j hj => h j (by omega))
    simp only [evOps, h i (Nat.le_refl _), ih]
theorem sameC_elim {σ : Loc → Option O} {d : Dl} : ∀ {F : List Loc} {K : Prop}, sameC σ d F K → SameAt σ d F ∧ K
  | [], K, h => ⟨fun l hl => (List.not_mem_nil hl).elim, h⟩
  | l :: r, K, h => by
    obtain ⟨h1, h2, h3⟩ := chk_iff.1 h
    obtain ⟨h4, h5⟩ := sameC_elim h3
    refine ⟨fun x hx => ?_, h5⟩
    rcases List.mem_cons.1 hx with rfl | hx
    · exact ⟨by simpa using h1, h2⟩
    · exact h4 x hx
theorem evOpsD_congr {call call' : Nat → FuncId → List T → Option (T × List T)} {id : Nat} {bits : List Nat} {ops : Array Oper} {dr : Nat → List Loc} : ∀ (r : List Oper) (i : Nat) (log : List (Nat × Dl)) (S : St), (∀ j, i ≤ j → call (siteOf id j) = call' (siteOf id j)) → evOpsD P call mv id bits ops dr i log r S = evOpsD P call' mv id bits ops dr i log r S
  | [], i, log, S, h => rfl
  | o :: r, i, log, S, h => by
    have ih : ∀ log S, evOpsD P call mv id bits ops dr (i + 1) log r S = evOpsD P call' mv id bits ops dr (i + 1) log r S := fun log S => evOpsD_congr r (i + 1) log S (fun j hj => h j (by omega))
    simp only [evOpsD, h i (Nat.le_refl _), ih]
noncomputable def atSite (s0 : Nat) (c : FuncId → List T → Option (T × List T)) (call : Nat → FuncId → List T → Option (T × List T)) : Nat → FuncId → List T → Option (T × List T) := fun s => if s = s0 then c else call s
theorem atSite_known {s0 : Nat} {c : FuncId → List T → Option (T × List T)} {call : Nat → FuncId → List T → Option (T × List T)} (h : Known P c) (hc : ∀ s, Known P (call s)) : ∀ s, Known P (atSite s0 c call s) := by
  intro s
  unfold atSite
  split
  · exact h
  · exact hc s
theorem ops_vc {id : Nat} {ops : Array Oper} {N : St → Prop} : ∀ (r : List Oper) (i : Nat) (S : St), vcOps P ann mv id ops i r S N → ∃ call, (∀ s, Known P (call s)) ∧ ∃ S', evOps P call mv id ops i r S = some S' ∧ N S'
  | [], i, S, h => ⟨fun _ _ _ => none, fun _ => known_none, S, rfl, h⟩
  | o :: r, i, S, h => by
    unfold vcOps at h
    obtain ⟨g, hg, h⟩ := guard_vc h
    cases g with
    | true =>
      simp only [cond_true] at h
      obtain ⟨c, hc, d, hd, h⟩ := op_does h
      obtain ⟨call, hcall, S', hS, hN⟩ := ops_vc r (i + 1) _ h
      refine ⟨atSite (siteOf id i) c call, atSite_known hc hcall, S', ?_, hN⟩
      have e1 : atSite (siteOf id i) c call (siteOf id i) = c := by simp [atSite]
      simp only [evOps, hg, e1, hd]
      rw [evOps_congr r (i + 1) _ (call' := call) (fun j hj => by
        unfold atSite
        rw [if_neg (fun e => by have := siteOf_inj e; omega)])]
      exact hS
    | false =>
      obtain ⟨call, hcall, S', hS, hN⟩ := ops_vc r (i + 1) _ h
      refine ⟨call, hcall, S', ?_, hN⟩
      simp only [evOps, hg]
      exact hS
theorem opsD_vc {id : Nat} {bits : List Nat} {ops : Array Oper} {N : St → Prop} : ∀ (r : List Oper) (i : Nat) (log : List (Nat × Dl)) (S : St), vcOpsD P ann mv id bits ops i log r S N → ∃ call, (∀ s, Known P (call s)) ∧ ∃ S', evOpsD P call mv id bits ops (fun j => ann.same (siteOf id j)) i log r S = some S' ∧ N S'
  | [], i, log, S, h => ⟨fun _ _ _ => none, fun _ => known_none, S, rfl, h⟩
  | o :: r, i, log, S, h => by
    unfold vcOpsD at h
    obtain ⟨g, hg, h⟩ := guard_vc h
    cases g with
    | true =>
      simp only [cond_true] at h
      obtain ⟨c, hc, d, hd, h⟩ := op_does h
      obtain ⟨hsm, h⟩ := sameC_elim h
      obtain ⟨hl, h⟩ := chk_iff.1 h
      obtain ⟨call, hcall, S', hS, hN⟩ := opsD_vc r (i + 1) _ _ h
      refine ⟨atSite (siteOf id i) c call, atSite_known hc hcall, S', ?_, hN⟩
      have e1 : atSite (siteOf id i) c call (siteOf id i) = c := by simp [atSite]
      simp only [evOpsD, hg, e1, hd]
      rw [if_pos ⟨hsm, hl⟩]
      rw [evOpsD_congr r (i + 1) _ _ (call' := call) (fun j hj => by
        unfold atSite
        rw [if_neg (fun e => by have := siteOf_inj e; omega)])]
      exact hS
    | false =>
      obtain ⟨call, hcall, S', hS, hN⟩ := opsD_vc r (i + 1) _ _ h
      refine ⟨call, hcall, S', ?_, hN⟩
      simp only [evOpsD, hg]
      exact hS
end
end Go.Proofs.YtfknpnkdedckhaaGreatDoorT

/- The interpreter over trees: what is to be shown of a function's text. -/
namespace Go.Proofs.YtfknpnkdedckhaaGreatDoorT
open Go Go.RowKit
set_option linter.unusedVariables false

/-- What is left to do behind a piece. -/
inductive Fr1 where
  | seq (p : Nat) (b : Code)
  | block (id : Nat)
  | loop (p : Nat) (b : Code)
/-- A loop, at the head of a round. -/
def wpL (P : Program) (c : Code) (Q : Exit → Act → World → Prop) (a : Act) (w : World) : Prop :=
  ∀ (b : Frame) (k : List Item) (cs : List Frame), ∃ e a' w', Q e a' w' ∧ Arrives P (lone (b.at a (.code c :: .inLoop c :: k)) cs w) b k cs e a' w'
theorem wpL_loop {P : Program} {c : Code} {Q : Exit → Act → World → Prop} {a : Act} {w : World} (h : wpL P c Q a w) : (Code.loop c).wp P Q a w := by
  intro b k cs
  obtain ⟨e, a', w', hq, harr⟩ := h b k cs
  exact ⟨e, a', w', hq, .of_steps (.one step_loop) harr⟩
theorem wpL_round {P : Program} {c : Code} {Q : Exit → Act → World → Prop} {a : Act} {w : World} (h : c.wp P (Exit.then (wpL P c Q) Q) a w) : wpL P c Q a w := by
  intro b k cs
  obtain ⟨e, a₁, w₁, hq, harr⟩ := h b (.inLoop c :: k) cs
  cases e with
  | normal =>
    obtain ⟨e₂, a₂, w₂, hq₂, harr₂⟩ := hq b k cs
    exact ⟨e₂, a₂, w₂, hq₂, .of_steps (Steps.trans harr (.one step_inLoop)) harr₂⟩
  | exit id => exact ⟨_, a₁, w₁, hq, .pass (x := .inLoop c) rfl (fun _ _ => .inl (by simp)) harr⟩
  | goto l => exact ⟨_, a₁, w₁, hq, .pass (x := .inLoop c) rfl (fun _ _ => .inl (by simp)) harr⟩
  | ret => exact ⟨_, a₁, w₁, hq, .pass (x := .inLoop c) rfl (fun _ _ => .inl (by simp)) harr⟩
  | panic ch => exact ⟨_, a₁, w₁, hq, .pass (x := .inLoop c) rfl (fun _ _ => .inl (by simp)) harr⟩
  | outgrown => exact ⟨_, a₁, w₁, hq, .pass (x := .inLoop c) rfl (fun _ _ => .inl (by simp)) harr⟩
section
variable (P : Program)
def stkQ : List Fr1 → (Exit → Act → World → Prop) → Exit → Act → World → Prop
  | [], Q => Q
  | .seq _ b :: K, Q => Exit.then (b.wp P (stkQ K Q)) (stkQ K Q)
  | .block id :: K, Q => Exit.inBlock id (stkQ K Q)
  | .loop _ b :: K, Q => Exit.then (wpL P b (stkQ K Q)) (stkQ K Q)
/-- What is wanted at the end is there where a state is as it must be. -/
def EndsIn (Fin : St → Prop) (C0 : Ctx) (B : Base) (Q : Exit → Act → World → Prop) : Prop := ∀ S' a' w', Fin S' → Hold C0 B S' a' w' → Q .normal a' w' ∧ Q .ret a' w'
/-- From a state on, a piece and all behind it comes to an end as wanted. -/
structure SemC (c : Code) (S : St) (K : List Fr1) (Fin : St → Prop) : Prop where
  run : ∀ (C0 : Ctx) (B : Base) (a : Act) (w : World) (Q : Exit → Act → World → Prop), EntryCtx C0 → Hold C0 B S a w → EndsIn Fin C0 B Q → c.wp P (stkQ P K Q) a w
structure SemL (c : Code) (S : St) (K : List Fr1) (Fin : St → Prop) : Prop where
  run : ∀ (C0 : Ctx) (B : Base) (a : Act) (w : World) (Q : Exit → Act → World → Prop), EntryCtx C0 → Hold C0 B S a w → EndsIn Fin C0 B Q → wpL P c (stkQ P K Q) a w
def SemX0 (c : Code) (S : St) (K : List Fr1) (Fin : St → Prop) : Prop := ∀ (C0 : Ctx) (B : Base) (a : Act) (w : World) (Q : Exit → Act → World → Prop), EntryCtx C0 → Hold C0 B S a w → EndsIn Fin C0 B Q → c.wp P (stkQ P K Q) a w
def SemX (e : Exit) (S : St) (K : List Fr1) (Fin : St → Prop) : Prop := ∀ (C0 : Ctx) (B : Base) (a : Act) (w : World) (Q : Exit → Act → World → Prop), EntryCtx C0 → Hold C0 B S a w → EndsIn Fin C0 B Q → stkQ P K Q e a w
inductive Md where
  | run (p : Nat) (c : Code)
  | nrm
  | ext (id : Nat)
def jmp (ls : List Nat) (S : St) (k : St → Prop) : Prop := opt (nrm ls S) k
def vcRun (ann : Ann) (mv : FuncId → Bool) (Fin : St → Prop) : Nat → Md → St → List Fr1 → Prop
  | 0, _, _, _ => False
  | n + 1, .run p c, S, K => match c with
    | .skip => vcRun ann mv Fin n .nrm S K
    | .region id ops false => vcOps P ann mv id ops 0 ops.toList S fun S' => vcRun ann mv Fin n .nrm S' K
    | .region id ops true => chk (okD (bitsOf ops) ops) (vcOpsD P ann mv id (bitsOf ops) ops 0 [] ops.toList S fun S' => vcRun ann mv Fin n .nrm S' K)
    | .seq a b => vcRun ann mv Fin n (.run (2 * p) a) S (.seq (2 * p + 1) b :: K)
    | .cond x a b => match x with
      | .tmp t => (match S.τ t with
        | .s (.bool v) => cond v (vcRun ann mv Fin n (.run (2 * p) a) (setB S t true) K) (vcRun ann mv Fin n (.run (2 * p + 1) b) (setB S t false) K)
        | _ => False)
      | _ => (match opd S x with
        | .s (.bool v) => cond v (vcRun ann mv Fin n (.run (2 * p) a) S K) (vcRun ann mv Fin n (.run (2 * p + 1) b) S K)
        | _ => False)
    | .block id b => vcRun ann mv Fin n (.run (2 * p) b) S (.block id :: K)
    | .loop b => (match ann.cut (2 * p) with
      | some ls => jmp ls S fun S' => SemL P b S' K Fin
      | none => False)
    | .exit id => vcRun ann mv Fin n (.ext id) S K
    | .ret => Fin S
    | _ => False
  | n + 1, .nrm, S, K => match K with
    | [] => Fin S
    | .seq p b :: K => (match ann.cut p with
      | none => vcRun ann mv Fin n (.run p b) S K
      | some ls => jmp ls S fun S' => SemC P b S' K Fin)
    | .block _ :: K => vcRun ann mv Fin n .nrm S K
    | .loop p b :: K => (match ann.cut p with
      | some ls => jmp ls S fun S' => SemL P b S' K Fin
      | none => False)
  | n + 1, .ext id, S, K => match K with
    | [] => False
    | .block j :: K => cond (Nat.beq id j) (vcRun ann mv Fin n .nrm S K) (vcRun ann mv Fin n (.ext id) S K)
    | _ :: K => vcRun ann mv Fin n (.ext id) S K
end
section
variable {P : Program} {ann : Ann} {mv : FuncId → Bool} {Fin : St → Prop}
theorem stk_ret {Q : Exit → Act → World → Prop} {a : Act} {w : World} (h : Q .ret a w) : ∀ K : List Fr1, stkQ P K Q .ret a w
  | [] => h
  | .seq _ _ :: K => stk_ret h K
  | .block _ :: K => stk_ret h K
  | .loop _ _ :: K => stk_ret h K
theorem jmp_hold {ls : List Nat} {S : St} {k : St → Prop} (h : jmp ls S k) : ∃ S', k S' ∧ ∀ (C0 : Ctx) (B : Base) (a : Act) (w : World), EntryCtx C0 → Hold C0 B S a w → Hold C0 B S' a w := by
  obtain ⟨S', hn, hk⟩ := opt_elim h
  obtain ⟨ρ, π, K, hr⟩ := nrm_ok hn
  exact ⟨S', hk, fun C0 B a w he hh => hold_ren hh hr he⟩
theorem opd_bool {C0 : Ctx} {B : Base} {S : St} {a : Act} {w : World} (hh : Hold C0 B S a w) {x : Operand} {v : Bool} (h : opd S x = .s (.bool v)) : a.eval x = .bool v := by
  obtain ⟨inj, h1, h2, h3⟩ := hh
  have := opd_ok h2 x
  rw [h] at this
  exact rep_s this
def semOf (P : Program) (Fin : St → Prop) (md : Md) (S : St) (K : List Fr1) : Prop := match md with
  | .run _ c => SemX0 P c S K Fin
  | .nrm => SemX P .normal S K Fin
  | .ext id => SemX P (.exit id) S K Fin
theorem run_ok (hm : P.follows .mixedOrders = true) : ∀ (n : Nat) (md : Md) (S : St) (K : List Fr1), vcRun P ann mv Fin n md S K → semOf P Fin md S K := by
  intro n
  induction n with
  | zero => intro md S K h; exact h.elim
  | succ n ih =>
    intro md S K h
    cases md with
    | run p c =>
      intro C0 B a w Q he hh hQ
      cases c with
      | skip => exact wp_skip (ih .nrm S K h C0 B a w Q he hh hQ)
      | region id ops draw =>
        cases draw with
        | false =>
          obtain ⟨call, hC, S', hS, hN⟩ := ops_vc _ _ _ h
          refine wp_region ?_
          have := ops_ok (Q := stkQ P K Q) hC ops.toList 0 S a w rfl hS hh (fun a' w' hh' => ih .nrm S' K hN C0 B a' w' Q he hh' hQ)
          rw [List.range_eq_range']
          simpa using this
        | true =>
          obtain ⟨hok, h⟩ := chk_iff.1 h
          obtain ⟨call, hC, S', hS, hN⟩ := opsD_vc _ _ _ _ h
          exact draw_ok hm hC mv id ops _ C0 B S S' a w _ hok hS hh (fun a' w' hh' => ih .nrm S' K hN C0 B a' w' Q he hh' hQ)
      | seq x y => exact wp_seq (ih (.run (2 * p) x) S _ h C0 B a w Q he hh hQ)
      | cond x y z =>
        have key : ∀ v : Bool, opd S x = .s (.bool v) → (v = true → vcRun P ann mv Fin n (.run (2 * p) y) S K) → (v = false → vcRun P ann mv Fin n (.run (2 * p + 1) z) S K) → (Code.cond x y z).wp P (stkQ P K Q) a w := by
          intro v hv ht hf
          refine wp_cond_split (opd_bool hh hv) (fun e => ih (.run (2 * p) y) S K (ht e) C0 B a w Q he hh hQ) (fun e => ih (.run (2 * p + 1) z) S K (hf e) C0 B a w Q he hh hQ)
        have other : (match opd S x with
            | .s (.bool v) => cond v (vcRun P ann mv Fin n (.run (2 * p) y) S K) (vcRun P ann mv Fin n (.run (2 * p + 1) z) S K)
            | _ => False) → (Code.cond x y z).wp P (stkQ P K Q) a w := by
          intro h
          split at h
          · rename_i v hv
            exact key v hv (fun e => by subst e; exact h) (fun e => by subst e; exact h)
          · exact h.elim
        cases x with
        | tmp t =>
          have h : (match S.τ t with
            | .s (.bool v) => cond v (vcRun P ann mv Fin n (.run (2 * p) y) (setB S t true) K) (vcRun P ann mv Fin n (.run (2 * p + 1) z) (setB S t false) K)
            | _ => False) := h
          split at h
          · rename_i v hv
            refine key v hv (fun e => ?_) (fun e => ?_)
            · subst e
              have h : vcRun P ann mv Fin n (.run (2 * p) y) (setB S t true) K := h
              rwa [setB_same hv] at h
            · subst e
              have h : vcRun P ann mv Fin n (.run (2 * p + 1) z) (setB S t false) K := h
              rwa [setB_same hv] at h
          · exact h.elim
        | const v => exact other h
        | global g => exact other h
        | func f => exact other h
      | block id x =>
        exact wp_block (ih (.run (2 * p) x) S _ h C0 B a w Q he hh hQ)
      | loop x =>
        have h : (match ann.cut (2 * p) with
          | some ls => jmp ls S fun S' => SemL P x S' K Fin
          | none => False) := h
        split at h
        · obtain ⟨S', hk, hS⟩ := jmp_hold h
          exact wpL_loop (hk.run C0 B a w Q he (hS C0 B a w he hh) hQ)
        · exact h.elim
      | exit id => exact wp_exit (ih (.ext id) S K h C0 B a w Q he hh hQ)
      | ret => exact wp_ret (stk_ret (hQ S a w h hh).2 K)
      | rangeFunc => exact False.elim h
      | scope => exact False.elim h
      | label => exact False.elim h
      | goto => exact False.elim h
      | refuse => exact False.elim h
    | nrm =>
      intro C0 B a w Q he hh hQ
      cases K with
      | nil => exact (hQ S a w h hh).1
      | cons x K =>
        cases x with
        | seq p b =>
          have h : (match ann.cut p with
            | none => vcRun P ann mv Fin n (.run p b) S K
            | some ls => jmp ls S fun S' => SemC P b S' K Fin) := h
          split at h
          · exact ih (.run p b) S K h C0 B a w Q he hh hQ
          · obtain ⟨S', hk, hS⟩ := jmp_hold h
            exact hk.run C0 B a w Q he (hS C0 B a w he hh) hQ
        | block id => exact ih .nrm S K h C0 B a w Q he hh hQ
        | loop p b =>
          have h : (match ann.cut p with
            | some ls => jmp ls S fun S' => SemL P b S' K Fin
            | none => False) := h
          split at h
          · obtain ⟨S', hk, hS⟩ := jmp_hold h
            exact hk.run C0 B a w Q he (hS C0 B a w he hh) hQ
          · exact h.elim
    | ext id =>
      intro C0 B a w Q he hh hQ
      cases K with
      | nil => exact False.elim h
      | cons x K =>
        cases x with
        | seq p b => exact ih (.ext id) S K h C0 B a w Q he hh hQ
        | loop p b => exact ih (.ext id) S K h C0 B a w Q he hh hQ
        | block j =>
          show Exit.inBlock j (stkQ P K Q) (.exit id) a w
          cases hb : Nat.beq id j with
          | true =>
            have hij : id = j := Nat.eq_of_beq_eq_true hb
            subst hij
            have h : cond (Nat.beq id id) (vcRun P ann mv Fin n .nrm S K) (vcRun P ann mv Fin n (.ext id) S K) := h
            rw [hb] at h
            have := ih .nrm S K h C0 B a w Q he hh hQ
            simpa [Exit.inBlock] using this
          | false =>
            have h : cond (Nat.beq id j) (vcRun P ann mv Fin n .nrm S K) (vcRun P ann mv Fin n (.ext id) S K) := h
            rw [hb] at h
            have hij : id ≠ j := by rintro rfl; simp [Nat.beq_refl] at hb
            have := ih (.ext id) S K h C0 B a w Q he hh hQ
            simpa [Exit.inBlock, hij] using this
end
/-! ### A function -/
section
variable (P : Program)
def skT : T → T
  | .ptr l o => .ptr l o
  | .own l => .own l
  | .fn f fs cs => .fn f fs cs
  | _ => .dead
def finP (fn : Func) (fz : Bool) (ts : List T) (R : T × List T) (S : St) : Prop := opt (optAll (evRes P S) fn.results.toList) fun rs => opt (closeR fz S.σ rs) fun c => opt (outTL S.σ ts) fun o =>
  chk (nodupL (c.2.1 ++ o.2) && c.2.2.all (fun l => !(c.2.1 ++ o.2).contains l)) (R = (resT (canL2 P fn.resultTypes.toList c.1), o.1))
def bodyOf (f : FuncId) : Code := match P.funcs[f]? with
  | some fn => fn.body.getD .skip
  | none => .skip
def vcFn (ann : Ann) (mv : FuncId → Bool) (fz : Bool) (fn : Func) (c : Code) (args : List T) (R : T × List T) : Prop := match opnL key0 0 args with
  | (ts, k, u) => chk (Nat.ble k 1000 && Nat.ble args.length fn.ntmps) (vcRun P ann mv (finP P fn fz (ts.map skT) R) 1000000 (.run 1 c) (entrySt fn.ntmps ts u) [])
/-- Where a place of a text stands: what is left to do there. -/
def stkAt : List Nat → Nat → Code → List Fr1 → Nat × Code × List Fr1
  | [], p, c, K => (p, c, K)
  | 0 :: r, p, .seq a b, K => stkAt r (2 * p) a (.seq (2 * p + 1) b :: K)
  | _ :: r, p, .seq a b, K => stkAt r (2 * p + 1) b K
  | 0 :: r, p, .cond _ a b, K => stkAt r (2 * p) a K
  | _ :: r, p, .cond _ a b, K => stkAt r (2 * p + 1) b K
  | _ :: r, p, .block id b, K => stkAt r (2 * p) b (.block id :: K)
  | _ :: r, p, .loop b, K => stkAt r (2 * p) b (.loop (2 * p) b :: K)
  | _, p, c, K => (p, c, K)
/-- From a cut on (C: a place; L: the body of a loop, at the head of a round). -/
def CutC (fn : Func) (c : Code) (fz : Bool) (path : List Nat) (S : St) (ts : List T) (R : T × List T) : Prop := SemC P (stkAt path 1 c []).2.1 S (stkAt path 1 c []).2.2 (finP P fn fz ts R)
def CutL (fn : Func) (c : Code) (fz : Bool) (path : List Nat) (S : St) (ts : List T) (R : T × List T) : Prop := SemL P (stkAt path 1 c []).2.1 S (stkAt path 1 c []).2.2.tail (finP P fn fz ts R)
def vcCut (ann : Ann) (mv : FuncId → Bool) (fz : Bool) (fn : Func) (c : Code) (path : List Nat) (S : St) (ts : List T) (R : T × List T) : Prop :=
  vcRun P ann mv (finP P fn fz ts R) 1000000 (.run (stkAt path 1 c []).1 (stkAt path 1 c []).2.1) S (stkAt path 1 c []).2.2
end
section
variable {P : Program}
theorem outTL_sk {σ : Loc → Option O} : ∀ ts : List T, outTL σ (ts.map skT) = outTL σ ts
  | [] => rfl
  | t :: r => by
    have h : outT σ (skT t) = outT σ t := by cases t <;> rfl
    simp only [List.map_cons, outTL, h, outTL_sk r]
theorem fin_ends {fn : Func} {fz : Bool} {ts : List T} {R : T × List T} {S : St} (h : finP P fn fz (ts.map skT) R S) : Ends P fn fz ts R.1 R.2 S := by
  obtain ⟨rs, h1, h⟩ := opt_elim h
  obtain ⟨⟨rs', m, r⟩, h2, h⟩ := opt_elim h
  obtain ⟨⟨outs, m'⟩, h3, h⟩ := opt_elim h
  obtain ⟨h4, rfl⟩ := chk_iff.1 h
  rw [outTL_sk] at h3
  exact ⟨rs, rs', m, r, m', h1, h2, h3, h4, rfl⟩
/-- A function comes to what its text says. -/
theorem fn_rule (hm : P.follows .mixedOrders = true) {ann : Ann} {mv : FuncId → Bool} {fz : Bool} {f : FuncId} {fn : Func} {c : Code} {args : List T} {R : T × List T} (hf : P.funcs[f]? = some fn) (hb : fn.body = some c) (hn : fn.name ≠ "runtime.NumGoroutine")
    (h : vcFn P ann mv fz fn c args R) : Runs P f args R := by
  refine ⟨⟨fn, hf, hn, by rw [hb]; rfl⟩, ?_⟩
  unfold vcFn at h
  cases ho : opnL key0 0 args with
  | mk ts q =>
  obtain ⟨k, u⟩ := q
  rw [ho] at h
  obtain ⟨h1, h⟩ := chk_iff.1 h
  simp only [Bool.and_eq_true] at h1
  refine contract_hold (fz := fz) hf hb ho (Nat.le_of_ble_eq_true h1.1) (Nat.le_of_ble_eq_true h1.2) (fun C0 B a w he hh => ?_)
  exact run_ok hm _ _ _ _ h C0 B a w _ he hh (fun S' a' w' hF hh' => ⟨⟨.inl rfl, S', hh', fin_ends hF⟩, ⟨.inr rfl, S', hh', fin_ends hF⟩⟩)
theorem cutC_rule (hm : P.follows .mixedOrders = true) {ann : Ann} {mv : FuncId → Bool} {fz : Bool} {fn : Func} {c : Code} {path : List Nat} {S : St} {ts : List T} {R : T × List T} (h : vcCut P ann mv fz fn c path S ts R) : CutC P fn c fz path S ts R := ⟨run_ok hm _ _ _ _ h⟩
theorem cutL_rule (hm : P.follows .mixedOrders = true) {ann : Ann} {mv : FuncId → Bool} {fz : Bool} {fn : Func} {c : Code} {path : List Nat} {S : St} {ts : List T} {R : T × List T} (hk : (stkAt path 1 c []).2.2 = .loop (stkAt path 1 c []).1 (stkAt path 1 c []).2.1 :: (stkAt path 1 c []).2.2.tail) (h : vcCut P ann mv fz fn c path S ts R) : CutL P fn c fz path S ts R := by
  refine ⟨fun C0 B a w Q he hh hQ => ?_⟩
  have := run_ok hm _ _ _ _ h C0 B a w Q he hh hQ
  rw [hk] at this
  exact wpL_round this
end
end Go.Proofs.YtfknpnkdedckhaaGreatDoorT

/- The interpreter over trees: short words for what is printed. -/
namespace Go.Proofs.YtfknpnkdedckhaaGreatDoorT
open Go
set_option linter.unusedVariables false

def i64 (n : Int) : T := .s (.int .i64 n)
def i32 (n : Int) : T := .s (.int .i32 n)
def u8 (n : Int) : T := .s (.int .u8 n)
def st (b : ByteArray) : T := .s (.string b)
def nilS : T := .s (.slice none 0 0)
def nilP : T := .s (.pointer none)
def bs (l : List UInt8) : ByteArray := ⟨l.toArray⟩
/-- An interface value: its type's number (0: nil), what stands in it. -/
structure IfV where
  t : TypeId
  x : T
  deriving Inhabited
def IfV.v (i : IfV) : T := .ifc i.t i.x
/-- nil, or a slice of one's own. -/
def mnT (K : Loc) (ws : List T) : T := match ws with
  | [] => nilS
  | _ :: _ => .own K
def mnH (K : Loc) (e : TypeId) (sz : Nat) (ws : List T) : List (Loc × O) := match ws with
  | [] => []
  | _ :: _ => [(K, .arr e sz ws)]
def mnC (e : TypeId) (sz : Nat) (ws : List T) : T := match ws with
  | [] => nilS
  | _ :: _ => .cown e sz ws
def annAt {α : Type 1} (d : α) : List (Nat × α) → Nat → α
  | [], _ => d
  | e :: r, s => cond (Nat.beq e.1 s) e.2 (annAt d r s)
def cutAt : List (Nat × List Nat) → Nat → Option (List Nat)
  | [], _ => none
  | e :: r, s => cond (Nat.beq e.1 s) (some e.2) (cutAt r s)
/-- What stands in a box, or is captured. -/
def capA : T → Nat → T
  | .fn _ _ cs, i => cs.getD i .dead
  | .cbox _ cs, i => cs.getD i .dead
  | _, _ => .dead
/-- What is bound. -/
def fnA : T → Nat → T
  | .fn _ fs _, i => fs.getD i .dead
  | _, _ => .dead
def sameS : List (Nat × List Loc) → Nat → List Loc
  | [], _ => []
  | e :: r, s => cond (Nat.beq e.1 s) e.2 (sameS r s)
def mkAnn (c : List (Nat × (List T → List (Enc (T × List T))))) (e : List (Nat × List (Enc T))) (i : List (Nat × List (TypeId × List (Enc T)))) (k : List (Nat × List Nat)) (m : List (Nat × List Loc) := []) : Ann := { call := annAt (fun _ => []) c, elem := annAt [] e, inv := annAt [] i, cut := cutAt k, same := sameS m }
theorem via {A B : Prop} (e : A = B) : A → B := fun h => e ▸ h
def mvOf (l : List Nat) (f : Nat) : Bool := l.any (Nat.beq f)
end Go.Proofs.YtfknpnkdedckhaaGreatDoorT
