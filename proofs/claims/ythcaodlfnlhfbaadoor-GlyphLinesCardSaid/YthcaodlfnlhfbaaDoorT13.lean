/- The interpreter over trees: what was handed over, opened. -/
import Derived.Test.YthcaodlfnlhfbaaDoorT12
namespace Go.Proofs.YthcaodlfnlhfbaaDoorT
open Go Go.RowKit
set_option linter.unusedVariables false

/-- The keys of what is opened: old ones out of m, new ones from i to j. -/
structure KP (key : Nat → Loc) (i j : Nat) (ks m : List Loc) : Prop where
  le : i ≤ j
  mem : ∀ l ∈ ks, l ∈ m ∨ ∃ n, i ≤ n ∧ n < j ∧ l = key n
  nd : (∀ a b, key a = key b → a = b) → m.Nodup → (∀ l ∈ m, ∀ n, l ≠ key n) → ks.Nodup
theorem KP.nil (key : Nat → Loc) (i : Nat) (m : List Loc) : KP key i i [] m := ⟨Nat.le_refl _, fun l hl => by simp at hl, fun _ _ _ => .nil⟩
theorem KP.append {key : Nat → Loc} {i j k : Nat} {a b m n : List Loc} (h : KP key i j a m) (g : KP key j k b n) : KP key i k (a ++ b) (m ++ n) := by
  refine ⟨Nat.le_trans h.le g.le, fun l hl => ?_, fun hk hn hne => ?_⟩
  · rcases List.mem_append.1 hl with hl | hl
    · rcases h.mem l hl with h1 | ⟨x, h1, h2, h3⟩
      · exact .inl (List.mem_append_left _ h1)
      · exact .inr ⟨x, h1, Nat.lt_of_lt_of_le h2 g.le, h3⟩
    · rcases g.mem l hl with h1 | ⟨x, h1, h2, h3⟩
      · exact .inl (List.mem_append_right _ h1)
      · exact .inr ⟨x, Nat.le_trans h.le h1, h2, h3⟩
  · have hn' := List.nodup_append.1 hn
    refine List.nodup_append.2 ⟨h.nd hk hn'.1 (fun l hl => hne l (List.mem_append_left _ hl)), g.nd hk hn'.2.1 (fun l hl => hne l (List.mem_append_right _ hl)), fun x hx y hy he => ?_⟩
    subst he
    rcases h.mem x hx with h1 | ⟨p, h1, h2, h3⟩ <;> rcases g.mem x hy with g1 | ⟨q, g1, g2, g3⟩
    · exact hn'.2.2 x h1 x g1 rfl
    · exact hne x (List.mem_append_left _ h1) q g3
    · exact hne x (List.mem_append_right _ g1) p h3
    · have := hk p q (h3.symm.trans g3)
      omega
theorem KP.new {key : Nat → Loc} {i j : Nat} {a : List Loc} (h : KP key (i + 1) j a []) : KP key i j (key i :: a) [] := by
  refine ⟨Nat.le_of_succ_le h.le, fun l hl => ?_, fun hk hn hne => ?_⟩
  · rcases List.mem_cons.1 hl with rfl | hl
    · exact .inr ⟨i, Nat.le_refl _, h.le, rfl⟩
    · rcases h.mem l hl with h1 | ⟨x, h1, h2, h3⟩
      · exact .inl h1
      · exact .inr ⟨x, Nat.le_of_succ_le h1, h2, h3⟩
  · refine List.nodup_cons.2 ⟨fun hi => ?_, h.nd hk hn hne⟩
    rcases h.mem _ hi with h1 | ⟨x, h1, h2, h3⟩
    · simp at h1
    · have := hk _ _ h3; omega
theorem KP.old {key : Nat → Loc} {i j : Nat} {a : List Loc} (l : Loc) (h : KP key i j a []) : KP key i j (l :: a) [l] := by
  refine ⟨h.le, fun l' hl => ?_, fun hk hn hne => ?_⟩
  · rcases List.mem_cons.1 hl with rfl | hl
    · exact .inl (List.mem_singleton.2 rfl)
    · rcases h.mem l' hl with h1 | h1
      · simp at h1
      · exact .inr h1
  · refine List.nodup_cons.2 ⟨fun hi => ?_, h.nd hk .nil (by simp)⟩
    rcases h.mem _ hi with h1 | ⟨x, h1, h2, h3⟩
    · simp at h1
    · exact hne l (List.mem_singleton.2 rfl) x h3
theorem KP.sub {key : Nat → Loc} {i j : Nat} {a m n : List Loc} (h : KP key i j a m) (hs : m.Sublist n) : KP key i j a n :=
  ⟨h.le, fun l hl => (h.mem l hl).imp (hs.subset ·) id, fun hk hn hne => h.nd hk (hn.sublist hs) (fun l hl => hne l (hs.subset hl))⟩

/-- Where what is opened comes to stand. -/
structure Fin (B : Base) (w : World) (ok0 : Nat → Prop) (ij : Loc → Nat) (σ : Loc → Option O) (cnt : Nat → Nat) (u : List (Loc × O)) (Z : List (Loc × Nat)) : Prop where
  inj : ∀ z ∈ Z, ij z.1 = z.2
  obj : ∀ e ∈ u, σ e.1 = some e.2 ∧ e.1.2 < cnt e.1.1
  ok : ∀ k, ok0 k → (sctx B w ij σ cnt).ok k
section
variable {P : Program} {B : Base} {w : World} {ok : Nat → Prop} {key : Nat → Loc}
theorem Fin.left {inj : Loc → Nat} {σ : Loc → Option O} {cnt : Nat → Nat} {u u' : List (Loc × O)} {Z Z' : List (Loc × Nat)} (h : Fin B w ok inj σ cnt (u ++ u') (Z ++ Z')) : Fin B w ok inj σ cnt u Z :=
  ⟨fun z hz => h.inj z (List.mem_append_left _ hz), fun e he => h.obj e (List.mem_append_left _ he), h.ok⟩
theorem Fin.right {inj : Loc → Nat} {σ : Loc → Option O} {cnt : Nat → Nat} {u u' : List (Loc × O)} {Z Z' : List (Loc × Nat)} (h : Fin B w ok inj σ cnt (u ++ u') (Z ++ Z')) : Fin B w ok inj σ cnt u' Z' :=
  ⟨fun z hz => h.inj z (List.mem_append_right _ hz), fun e he => h.obj e (List.mem_append_right _ he), h.ok⟩
/-- The objects that were opened are what they say. -/
def ObjsOk (B : Base) (w : World) (inj : Loc → Nat) (σ : Loc → Option O) (cnt : Nat → Nat) (u : List (Loc × O)) : Prop := ∀ e ∈ u, RepO (sctx B w inj σ cnt) (inj e.1) e.2
def Opened (w : World) (ok : Nat → Prop) (t' : T) (v : Value) (u : List (Loc × O)) (b : List Nat) : Prop :=
  ∃ Z : List (Loc × Nat), Z.map (·.1) = u.map (·.1) ∧ Z.map (·.2) = b ∧ ∀ (B : Base) (inj : Loc → Nat) (σ : Loc → Option O) (cnt : Nat → Nat), Fin B w ok inj σ cnt u Z → Rep (sctx B w inj σ cnt) t' v ∧ ObjsOk B w inj σ cnt u
def OpenedL (w : World) (ok : Nat → Prop) (cs' : List T) (us : List Value) (u : List (Loc × O)) (b : List Nat) : Prop :=
  ∃ Z : List (Loc × Nat), Z.map (·.1) = u.map (·.1) ∧ Z.map (·.2) = b ∧ ∀ (B : Base) (inj : Loc → Nat) (σ : Loc → Option O) (cnt : Nat → Nat), Fin B w ok inj σ cnt u Z → RepA (sctx B w inj σ cnt) cs' us ∧ ObjsOk B w inj σ cnt u
theorem opened_plain {t : T} {v : Value} (h : Rep (cctx w ok) t v) : Opened w ok t v [] [] :=
  ⟨[], rfl, rfl, fun B inj σ cnt f => ⟨(h.mono (cctx_le rfl f.ok)).of_ro, fun e he => by simp at he⟩⟩
mutual
theorem opn_ok : ∀ (t : T) (i : Nat) (t' : T) (j : Nat) (u : List (Loc × O)) (v : Value) (b : List Nat), opn key i t = (t', j, u) → RepX w ok t v b → KP key i j (u.map (·.1)) [] ∧ Opened w ok t' v u b
  | .cown e sz xs, i, t', j, u, v, b, ho, hx => by
    simp only [opn, Prod.mk.injEq] at ho
    obtain ⟨rfl, rfl, rfl⟩ := ho
    obtain ⟨g, c, cells, rfl, rfl, h0, hg, hcs, hn, hm, hrow⟩ := hx
    refine ⟨(KP.nil key (i + 1) []).new, [(key i, g)], rfl, rfl, fun B inj σ cnt f => ?_⟩
    have hi : inj (key i) = g := f.inj _ (List.mem_singleton.2 rfl)
    obtain ⟨hs, hf⟩ := f.obj _ (List.mem_singleton.2 rfl)
    refine ⟨.own ⟨hf, g, _, c, rfl, hn, fun e1 sz1 xs1 h1 => ?_⟩, fun e he => ?_⟩
    · simp only at hs
      rw [hs] at h1
      injection h1 with h1; injection h1 with g1 g2 g3
      subst g1; subst g2; subst g3
      exact ⟨rfl, hi.symm, cells, by rw [hi]; exact hg, hcs⟩
    · rw [List.mem_singleton.1 he]
      refine ⟨h0, cells, c, by rw [hi]; exact hg, hcs, hn, hm, hrow.mono (cctx_le rfl f.ok) (fun _ _ h => h)⟩
  | .cbox ty cs, i, t', j, u, v, b, ho, hx => by
    simp only [opn] at ho
    cases hc : opnL key (i + 1) cs with
    | mk cs' p =>
      obtain ⟨j', u'⟩ := p
      rw [hc] at ho
      simp only [Prod.mk.injEq] at ho
      obtain ⟨rfl, rfl, rfl⟩ := ho
      obtain ⟨g, us, bs', rfl, rfl, hg, hxs, h1⟩ := hx
      obtain ⟨hk, Z, z1, z2, hZ⟩ := opnL_ok cs (i + 1) cs' j' u' us bs' hc hxs
      refine ⟨hk.new, (key i, g) :: Z, by simp [z1], by simp [z2], fun B inj σ cnt f => ?_⟩
      have hi : inj (key i) = g := f.inj _ (List.mem_cons_self ..)
      obtain ⟨hs, hf⟩ := f.obj _ (List.mem_cons_self ..)
      have f' : Fin B w ok inj σ cnt u' Z := ⟨fun z hz => f.inj z (List.mem_cons_of_mem _ hz), fun e he => f.obj e (List.mem_cons_of_mem _ he), f.ok⟩
      obtain ⟨hr, hob⟩ := hZ B inj σ cnt f'
      refine ⟨.ptr ⟨hf, g, rfl, fun ty1 cs1 _ => hi.symm⟩, fun e he => ?_⟩
      rcases List.mem_cons.1 he with rfl | he
      · exact ⟨us, by rw [hi]; exact hg, hr, h1⟩
      · exact hob e he
  | .agg cs, i, t', j, u, v, b, ho, hx => by
    simp only [opn] at ho
    cases hc : opnL key i cs with
    | mk cs' p =>
      obtain ⟨j', u'⟩ := p
      rw [hc] at ho
      simp only [Prod.mk.injEq] at ho
      obtain ⟨rfl, rfl, rfl⟩ := ho
      obtain ⟨us, rfl, hxs, h1⟩ := hx
      obtain ⟨hk, Z, z1, z2, hZ⟩ := opnL_ok cs i cs' j' u' us b hc hxs
      refine ⟨hk, Z, z1, z2, fun B inj σ cnt f => ?_⟩
      obtain ⟨hr, hob⟩ := hZ B inj σ cnt f
      exact ⟨.agg hr.1 hr.2 h1, hob⟩
  | .tup cs, i, t', j, u, v, b, ho, hx => by
    simp only [opn] at ho
    cases hc : opnL key i cs with
    | mk cs' p =>
      obtain ⟨j', u'⟩ := p
      rw [hc] at ho
      simp only [Prod.mk.injEq] at ho
      obtain ⟨rfl, rfl, rfl⟩ := ho
      obtain ⟨us, rfl, hxs⟩ := hx
      obtain ⟨hk, Z, z1, z2, hZ⟩ := opnL_ok cs i cs' j' u' us b hc hxs
      refine ⟨hk, Z, z1, z2, fun B inj σ cnt f => ?_⟩
      obtain ⟨hr, hob⟩ := hZ B inj σ cnt f
      exact ⟨.tup hr.1 hr.2, hob⟩
  | .fn fn fs cs, i, t', j, u, v, b, ho, hx => by
    simp only [opn] at ho
    cases hf : opnL key i fs with
    | mk fs' p =>
      obtain ⟨j1, u1⟩ := p
      cases hc : opnL key j1 cs with
      | mk cs' q =>
        obtain ⟨j2, u2⟩ := q
        rw [hf] at ho
        simp only [hc, Prod.mk.injEq] at ho
        obtain ⟨rfl, rfl, rfl⟩ := ho
        obtain ⟨vf, vc, b1, b2, rfl, rfl, hx1, hx2⟩ := hx
        obtain ⟨hk1, Z1, z11, z12, hZ1⟩ := opnL_ok fs i fs' j1 u1 vf b1 hf hx1
        obtain ⟨hk2, Z2, z21, z22, hZ2⟩ := opnL_ok cs j1 cs' j2 u2 vc b2 hc hx2
        refine ⟨by have := hk1.append hk2; simpa using this, Z1 ++ Z2, by simp [z11, z21], by simp [z12, z22], fun B inj σ cnt f => ?_⟩
        obtain ⟨hr1, hob1⟩ := hZ1 B inj σ cnt f.left
        obtain ⟨hr2, hob2⟩ := hZ2 B inj σ cnt f.right
        exact ⟨.fn hr1.1 hr2.1 hr1.2 hr2.2, fun e he => (List.mem_append.1 he).elim (hob1 e) (hob2 e)⟩
  | .s x, i, t', j, u, v, b, ho, hx => by
    simp only [opn, Prod.mk.injEq] at ho
    obtain ⟨rfl, rfl, rfl⟩ := ho
    obtain ⟨rfl, hx⟩ := hx
    exact ⟨KP.nil _ _ _, opened_plain hx⟩
  | .ifc ty x, i, t', j, u, v, b, ho, hx => by
    simp only [opn, Prod.mk.injEq] at ho
    obtain ⟨rfl, rfl, rfl⟩ := ho
    obtain ⟨rfl, hx⟩ := hx
    exact ⟨KP.nil _ _ _, opened_plain hx⟩
  | .sl sz xs, i, t', j, u, v, b, ho, hx => by
    simp only [opn, Prod.mk.injEq] at ho
    obtain ⟨rfl, rfl, rfl⟩ := ho
    obtain ⟨rfl, hx⟩ := hx
    exact ⟨KP.nil _ _ _, opened_plain hx⟩
  | .ep cs, i, t', j, u, v, b, ho, hx => by
    simp only [opn, Prod.mk.injEq] at ho
    obtain ⟨rfl, rfl, rfl⟩ := ho
    obtain ⟨rfl, hx⟩ := hx
    exact ⟨KP.nil _ _ _, opened_plain hx⟩
  | .dead, i, t', j, u, v, b, ho, hx => by
    simp only [opn, Prod.mk.injEq] at ho
    obtain ⟨rfl, rfl, rfl⟩ := ho
    have hx : b = [] := hx
    subst hx
    exact ⟨KP.nil _ _ _, opened_plain .dead⟩
  | .own _, i, t', j, u, v, b, ho, hx => hx.elim
  | .ptr _ _, i, t', j, u, v, b, ho, hx => hx.elim
  | .eptr _ _ _ _, i, t', j, u, v, b, ho, hx => hx.elim
  | .it _, i, t', j, u, v, b, ho, hx => hx.elim
theorem opnL_ok : ∀ (cs : List T) (i : Nat) (cs' : List T) (j : Nat) (u : List (Loc × O)) (us : List Value) (b : List Nat), opnL key i cs = (cs', j, u) → RepXL w ok cs us b → KP key i j (u.map (·.1)) [] ∧ OpenedL w ok cs' us u b
  | [], i, cs', j, u, us, b, ho, hx => by
    simp only [opnL, Prod.mk.injEq] at ho
    obtain ⟨rfl, rfl, rfl⟩ := ho
    obtain ⟨rfl, rfl⟩ := hx
    exact ⟨KP.nil _ _ _, [], rfl, rfl, fun B inj σ cnt f => ⟨RepA.nil _, fun e he => by simp at he⟩⟩
  | x :: cs, i, cs', j, u, us, b, ho, hx => by
    simp only [opnL] at ho
    cases hf : opn key i x with
    | mk x' p =>
      obtain ⟨j1, u1⟩ := p
      cases hc : opnL key j1 cs with
      | mk cs1 q =>
        obtain ⟨j2, u2⟩ := q
        rw [hf] at ho
        simp only [hc, Prod.mk.injEq] at ho
        obtain ⟨rfl, rfl, rfl⟩ := ho
        obtain ⟨v, vs, b1, b2, rfl, rfl, hx1, hx2⟩ := hx
        obtain ⟨hk1, Z1, z11, z12, hZ1⟩ := opn_ok x i x' j1 u1 v b1 hf hx1
        obtain ⟨hk2, Z2, z21, z22, hZ2⟩ := opnL_ok cs j1 cs1 j2 u2 vs b2 hc hx2
        refine ⟨by have := hk1.append hk2; simpa using this, Z1 ++ Z2, by simp [z11, z21], by simp [z12, z22], fun B inj σ cnt f => ?_⟩
        obtain ⟨hr1, hob1⟩ := hZ1 B inj σ cnt f.left
        obtain ⟨hr2, hob2⟩ := hZ2 B inj σ cnt f.right
        exact ⟨hr2.cons hr1, fun e he => (List.mem_append.1 he).elim (hob1 e) (hob2 e)⟩
end
/-! ### What comes back -/
/-- The keys that come back. -/
def oldsC : List T → List Loc
  | [] => []
  | .ptr l _ :: r => l :: oldsC r
  | _ :: r => oldsC r
def oldsT (mv : Bool) : T → List Loc
  | .ptr l _ => [l]
  | .own l => if mv then [l] else []
  | .fn _ _ cs => oldsC cs
  | _ => []
def oldsL (mv : Bool) : List T → List Loc
  | [] => []
  | x :: r => oldsT mv x ++ oldsL mv r
theorem oldsC_sub {σ : Loc → Option O} {rec : List T → Option (List T × List Loc)} : ∀ (cs cs' : List T) (m : List Loc), clsTL σ rec cs = some (cs', m) → (oldsC cs).Sublist m
  | [], cs', m, h => by simp [oldsC]
  | x :: cs, cs', m, h => by
    unfold clsTL at h
    split at h
    · rename_i x' a r' b he1 he2
      injection h with h; injection h with e1 e2; subst e1; subst e2
      have ih := oldsC_sub cs r' b he2
      cases x with
      | ptr l off =>
        unfold clsT at he1
        split at he1
        · split at he1
          · split at he1
            · injection he1 with he1; injection he1 with f1 f2; subst f2
              simp only [oldsC, List.cons_append]
              exact List.Sublist.cons_cons _ (ih.trans (List.sublist_append_right _ _))
            · simp at he1
          · simp at he1
        · simp at he1
      | _ => exact ih.trans (List.sublist_append_right _ _)
    · simp at h
theorem oldsT_sub {σ : Loc → Option O} {mv : Bool} {t t' : T} {m r : List Loc} (h : argC σ mv t = some (t', m, r)) : (oldsT mv t).Sublist m := by
  cases t with
  | ptr l off =>
    simp only [argC, cls] at h
    unfold clsT at h
    split at h
    · rename_i t1 m1 he
      injection h with h; injection h with e1 e2; injection e2 with e2 e3; subst e2
      split at he
      · split at he
        · split at he
          · injection he with he; injection he with f1 f2; subst f2
            simp [oldsT]
          · simp at he
        · simp at he
      · simp at he
    · simp at h
  | own l =>
    simp only [argC, cls] at h
    cases mv with
    | false => simp [oldsT]
    | true =>
      simp only [if_true] at h
      unfold clsT at h
      split at h
      · rename_i t1 m1 he
        injection h with h; injection h with e1 e2; injection e2 with e2 e3; subst e2
        split at he
        · injection he with he; injection he with f1 f2; subst f2
          simp [oldsT]
        · simp at he
      · simp at h
  | fn f fs cs =>
    simp only [argC, cls] at h
    unfold clsT at h
    split at h
    · rename_i t1 m1 he
      injection h with h; injection h with e1 e2; injection e2 with e2 e3; subst e2
      split at he
      · rename_i fs' a cs' b he1 he2
        injection he with he; injection he with f1 f2; subst f2
        exact (oldsC_sub cs cs' b he2).trans (List.sublist_append_right _ _)
      · simp at he
    · simp at h
  | _ => simp [oldsT]
theorem oldsL_sub {σ : Loc → Option O} {mv : Bool} : ∀ (ts ts' : List T) (m r : List Loc), argCL σ mv ts = some (ts', m, r) → (oldsL mv ts).Sublist m
  | [], ts', m, r, h => by simp [oldsL]
  | x :: ts, ts', m, r, h => by
    unfold argCL at h
    split at h
    · rename_i x' m1 a1 r' m2 a2 he1 he2
      injection h with h; injection h with e1 e2; injection e2 with e2 e3; subst e2
      exact (oldsT_sub he1).append (oldsL_sub ts r' m2 a2 he2)
    · simp at h
/-- What came back: the old keys at their old blocks, the new ones somewhere among b. -/
def Backed (w0 w : World) (ok : Nat → Prop) (key : Nat → Loc) (inj0 : Loc → Nat) (σ0 : Loc → Option O) (m : List Loc) (i j : Nat) (u : List (Loc × O)) (b : List Nat) : Prop :=
  KP key i j (u.map (·.1)) m ∧ (∀ e ∈ u, e.1 ∈ m → (∀ n, e.1 ≠ key n) → ∀ e0 sz0 xs0, σ0 e.1 = some (.arr e0 sz0 xs0) → ∀ cells ty, w0.heap[inj0 e.1]? = some (.cells cells ty (0, 0)) → ∃ cells', w.heap[inj0 e.1]? = some (.cells cells' ty (0, 0)) ∧ cells'.size = cells.size) ∧
    ∃ Z : List (Loc × Nat), Z.map (·.1) = u.map (·.1) ∧ (Z.map (·.2)).Sublist b ∧ (∀ z ∈ Z, z.1 ∈ m → (∀ n, z.1 ≠ key n) → z.2 = inj0 z.1) ∧ ∀ (B : Base) (inj : Loc → Nat) (σ : Loc → Option O) (cnt : Nat → Nat), Fin B w ok inj σ cnt u Z → ObjsOk B w inj σ cnt u
theorem Backed.nil (w0 : World) (key : Nat → Loc) (inj0 : Loc → Nat) (σ0 : Loc → Option O) (m : List Loc) (i : Nat) (b : List Nat) : Backed w0 w ok key inj0 σ0 m i i [] b := ⟨KP.nil _ _ _, fun e he => by simp at he, [], rfl, List.nil_sublist _, fun z hz => by simp at hz, fun B inj σ cnt f e he => by simp at he⟩
theorem Backed.append {w0 : World} {inj0 : Loc → Nat} {σ0 : Loc → Option O} {m m' : List Loc} {i j k : Nat} {u u' : List (Loc × O)} {b b' : List Nat} (h : Backed w0 w ok key inj0 σ0 m i j u b) (g : Backed w0 w ok key inj0 σ0 m' j k u' b') : Backed w0 w ok key inj0 σ0 (m ++ m') i k (u ++ u') (b ++ b') := by
  obtain ⟨hk, hs, Z, z1, z2, z3, hZ⟩ := h
  obtain ⟨gk, gs, Y, y1, y2, y3, hY⟩ := g
  have hin : ∀ x, x ∈ u.map (·.1) → (∀ n, x ≠ key n) → x ∈ m := fun x hx hne => (hk.mem x hx).elim id (fun ⟨n, _, _, h1⟩ => absurd h1 (hne n))
  have gin : ∀ x, x ∈ u'.map (·.1) → (∀ n, x ≠ key n) → x ∈ m' := fun x hx hne => (gk.mem x hx).elim id (fun ⟨n, _, _, h1⟩ => absurd h1 (hne n))
  refine ⟨by have := hk.append gk; simpa using this, fun e he hm hne => ?_, Z ++ Y, by simp [z1, y1], by simpa using z2.append y2, fun z hz hm hne => ?_, fun B inj σ cnt f e he => (List.mem_append.1 he).elim (hZ B inj σ cnt f.left e) (hY B inj σ cnt f.right e)⟩
  · rcases List.mem_append.1 he with he | he
    · exact hs e he (hin _ (List.mem_map_of_mem he) hne) hne
    · exact gs e he (gin _ (List.mem_map_of_mem he) hne) hne
  · rcases List.mem_append.1 hz with hz | hz
    · exact z3 z hz (hin _ (by rw [← z1]; exact List.mem_map_of_mem hz) hne) hne
    · exact y3 z hz (gin _ (by rw [← y1]; exact List.mem_map_of_mem hz) hne) hne
theorem Backed.wider {w0 : World} {inj0 : Loc → Nat} {σ0 : Loc → Option O} {m : List Loc} {i j : Nat} {u : List (Loc × O)} {b b' : List Nat} (h : Backed w0 w ok key inj0 σ0 m i j u b) (hs : b.Sublist b') : Backed w0 w ok key inj0 σ0 m i j u b' := by
  obtain ⟨hk, hq, Z, z1, z2, z3, hZ⟩ := h
  exact ⟨hk, hq, Z, z1, z2.trans hs, z3, hZ⟩
section
variable {B0 : Base} {w0 : World} {inj0 : Loc → Nat} {σ0 : Loc → Option O} {cnt0 : Nat → Nat}
/-- A box that came back. -/
theorem back_box {l : Loc} {off : Nat} {ty : TypeId} {cs cs' : List T} {i j : Nat} {u : List (Loc × O)} {v : Value} {b : List Nat} (ho : opnL key i cs = (cs', j, u)) (hx : RepX w ok (.cbox ty cs) v b) (hp : (sctx B0 w0 inj0 σ0 cnt0).ptr l off v) (ha : σ0 l ≠ none) (hlk : ∀ o, σ0 l = some o → likeB o (.box ty cs') = true) :
    Backed w0 w ok key inj0 σ0 [l] i j ((l, .box ty cs') :: u) b := by
  obtain ⟨g, us, bs', rfl, rfl, hg, hxs, h1⟩ := hx
  obtain ⟨_, b0, hv, hb0⟩ := hp
  have hbx : ∃ ty0 cs0, σ0 l = some (.box ty0 cs0) := by
    cases hs : σ0 l with
    | none => exact absurd hs ha
    | some o =>
      have := hlk o hs
      cases o with
      | box ty0 cs0 => exact ⟨_, _, rfl⟩
      | arr => simp [likeB] at this
      | iter => simp [likeB] at this
  obtain ⟨ty0, cs0, hbx⟩ := hbx
  have hb := hb0 _ _ hbx
  have hgl : g = inj0 l := by
    injection hv with hv; injection hv with hv; injection hv with hv
    rw [hv, hb]
  obtain ⟨hk, Z, z1, z2, hZ⟩ := opnL_ok cs i cs' j u us bs' ho hxs
  refine ⟨hk.old l, fun e he hm hne e0 sz0 xs0 hs => ?_, (l, g) :: Z, by simp [z1], by simp [z2], fun z hz hm hne => ?_, fun B inj σ cnt f => ?_⟩
  · have : e.1 = l := List.mem_singleton.1 hm
    rw [this, hbx] at hs
    simp at hs
  · rcases List.mem_cons.1 hz with rfl | hz
    · exact hgl
    · have : z.1 ∈ u.map (·.1) := by rw [← z1]; exact List.mem_map_of_mem hz
      rcases hk.mem _ this with h1 | ⟨n, _, _, h1⟩
      · simp at h1
      · exact absurd h1 (hne n)
  · have hi : inj l = g := f.inj _ (List.mem_cons_self ..)
    have f' : Fin B w ok inj σ cnt u Z := ⟨fun z hz => f.inj z (List.mem_cons_of_mem _ hz), fun e he => f.obj e (List.mem_cons_of_mem _ he), f.ok⟩
    obtain ⟨hr, hob⟩ := hZ B inj σ cnt f'
    intro e he
    rcases List.mem_cons.1 he with rfl | he
    · exact ⟨us, by rw [hi]; exact hg, hr, h1⟩
    · exact hob e he
theorem backC_ok : ∀ (cs cs' : List T) (i j : Nat) (u : List (Loc × O)) (us : List Value) (b : List Nat), (∀ l ∈ oldsC cs, σ0 l ≠ none) → backC key i cs cs' = some (j, u) → (∀ e ∈ u, ∀ o, σ0 e.1 = some o → likeB o e.2 = true) → RepA (sctx B0 w0 inj0 σ0 cnt0) cs us → RepXL w ok cs' us b → Backed w0 w ok key inj0 σ0 (oldsC cs) i j u b := by
  intro cs
  induction cs with
  | nil =>
    intro cs' i j u us b hm hb hu hr hx
    cases cs' with
    | nil => simp [backC] at hb; obtain ⟨rfl, rfl⟩ := hb; exact Backed.nil _ _ _ _ _ _ _
    | cons => simp [backC] at hb
  | cons x r ih =>
    intro cs' i j u us b hm hb hu hr hx
    unfold backC at hb
    split at hb
    · rename_i e1; simp at e1
    · rename_i l off r0 ty cs1 r' e1
      injection e1 with e1 e2
      subst e1; subst e2
      cases hc : opnL key i cs1 with
      | mk cs2 q =>
        obtain ⟨j1, u1⟩ := q
        rw [hc] at hb
        simp only at hb
        cases hb2 : backC key j1 r r' with
        | none => rw [hb2] at hb; simp at hb
        | some q2 =>
          obtain ⟨k, u2⟩ := q2
          rw [hb2] at hb
          simp only [Option.some.injEq, Prod.mk.injEq] at hb
          obtain ⟨rfl, rfl⟩ := hb
          obtain ⟨v, vs, b1, b2, rfl, rfl, hx1, hx2⟩ := hx
          have hp : (sctx B0 w0 inj0 σ0 cnt0).ptr l off v := by have := hr.head; cases this; assumption
          exact Backed.append (m := [l]) (u := (l, .box ty cs2) :: u1) (back_box hc hx1 hp (hm l (List.mem_cons_self ..)) (fun o ho => hu (l, .box ty cs2) (List.mem_cons_self ..) o ho)) (ih r' j1 k u2 vs b2 (fun l' hl' => hm l' (List.mem_cons_of_mem _ hl')) hb2 (fun e he => hu e (List.mem_append_right _ he)) hr.tail hx2)
    · simp at hb
    · rename_i x0 r0 y0 r' hov hne e1
      injection e1 with e1 e2
      subst e1; subst e2
      obtain ⟨v, vs, b1, b2, rfl, rfl, hx1, hx2⟩ := hx
      have ho : oldsC (x :: r) = oldsC r := by cases x <;> first | rfl | exact absurd rfl (hne _ _)
      rw [ho] at hm ⊢
      exact (ih r' i j u vs b2 hm hb hu hr.tail hx2).wider (List.sublist_append_right _ _)
    · simp at hb
theorem backT_ok {mv : Bool} {x y : T} {i j : Nat} {u : List (Loc × O)} {v : Value} {b : List Nat} (hm : ∀ l ∈ oldsT mv x, σ0 l ≠ none) (hb : backT key mv i x y = some (j, u)) (hu : ∀ e ∈ u, ∀ o, σ0 e.1 = some o → likeB o e.2 = true) (hr : Rep (sctx B0 w0 inj0 σ0 cnt0) x v) (hx : RepX w ok y v b) : Backed w0 w ok key inj0 σ0 (oldsT mv x) i j u b := by
  unfold backT at hb
  split at hb
  · rename_i l off ty cs
    cases hc : opnL key i cs with
    | mk cs2 q =>
      obtain ⟨j1, u1⟩ := q
      rw [hc] at hb
      simp only [Option.some.injEq, Prod.mk.injEq] at hb
      obtain ⟨rfl, rfl⟩ := hb
      have hp : (sctx B0 w0 inj0 σ0 cnt0).ptr l off v := by cases hr; assumption
      exact back_box hc hx hp (hm l (List.mem_singleton.2 rfl)) (fun o ho => hu (l, .box ty cs2) (List.mem_cons_self ..) o ho)
  · rename_i l e sz xs
    split at hb
    · rename_i hc
      subst hc
      injection hb with hb; injection hb with e1 e2; subst e1; subst e2
      have hp : (sctx B0 w0 inj0 σ0 cnt0).own l v := by cases hr; assumption
      obtain ⟨g, c, cells, rfl, rfl, hz, hg, hcs, hn, hmx, hrow⟩ := hx
      obtain ⟨_, b0, n0, c0, hv, hnc, hb0⟩ := hp
      have hbx : ∃ xs0, σ0 l = some (.arr e sz xs0) := by
        cases hs : σ0 l with
        | none => exact absurd hs (hm l (by simp [oldsT]))
        | some o =>
          have := hu _ (List.mem_singleton.2 rfl) o hs
          cases o with
          | box => simp [likeB] at this
          | arr e0 sz0 xs0 =>
            simp only [likeB, Bool.and_eq_true, decide_eq_true_eq] at this
            obtain ⟨⟨rfl, rfl⟩, _⟩ := this
            exact ⟨xs0, rfl⟩
          | iter => simp [likeB] at this
      obtain ⟨xs0, hbx⟩ := hbx
      obtain ⟨_, hb1, cells0, hb2, hb3⟩ := hb0 _ _ _ hbx
      injection hv with hv1 _ hv2
      injection hv1 with hv1; injection hv1 with hv1
      subst hv2
      have hgl : g = inj0 l := by rw [hv1, hb1]
      refine ⟨by simpa [oldsT] using (KP.nil key i []).old l, fun e' he' hm' hne e0 sz0 xs1 hs cells1 ty hc1 => ?_, [(l, g)], rfl, List.Sublist.refl _, fun z hz _ _ => by rw [List.mem_singleton.1 hz]; exact hgl, fun B inj σ cnt f e he => ?_⟩
      · rw [List.mem_singleton.1 he'] at hc1 hs ⊢
        simp only at hc1 hs ⊢
        rw [hb2] at hc1
        injection hc1 with hc1; injection hc1 with hc1 hc2 _
        subst hc1; subst hc2
        exact ⟨cells, by rw [← hgl]; exact hg, by rw [hcs, hb3]⟩
      · have hi : inj l = g := f.inj _ (List.mem_singleton.2 rfl)
        rw [List.mem_singleton.1 he]
        exact ⟨hz, cells, c, by rw [hi]; exact hg, hcs, hn, hmx, hrow.mono (cctx_le rfl f.ok) (fun _ _ h => h)⟩
    · simp at hb
  · rename_i f fs cs f' fs' cs'
    obtain ⟨vf, vc, b1, b2, rfl, rfl, hx1, hx2⟩ := hx
    obtain ⟨vf', vc', hv, hr1, hr2⟩ := hr.fn_parts
    injection hv with hv1 hv2 hv3
    have e2 : vc = vc' := by simpa using hv3
    subst e2
    exact (backC_ok cs cs' i j u vc b2 hm hb hu hr2 hx2).wider (List.sublist_append_right _ _)
  · injection hb with hb; injection hb with e1 e2; subst e1; subst e2
    exact Backed.nil _ _ _ _ _ _ _
theorem backL_ok {mv : Bool} : ∀ (xs ys : List T) (i j : Nat) (u : List (Loc × O)) (vs : List Value) (b : List Nat), (∀ l ∈ oldsL mv xs, σ0 l ≠ none) → backL key mv i xs ys = some (j, u) → (∀ e ∈ u, ∀ o, σ0 e.1 = some o → likeB o e.2 = true) → RepA (sctx B0 w0 inj0 σ0 cnt0) xs vs → RepXL w ok ys vs b → Backed w0 w ok key inj0 σ0 (oldsL mv xs) i j u b
  | [], [], i, j, u, vs, b, hm, hb, hu, hr, hx => by simp [backL] at hb; obtain ⟨rfl, rfl⟩ := hb; exact Backed.nil _ _ _ _ _ _ _
  | [], _ :: _, i, j, u, vs, b, hm, hb, hu, hr, hx => by simp [backL] at hb
  | _ :: _, [], i, j, u, vs, b, hm, hb, hu, hr, hx => by simp [backL] at hb
  | x :: xs, y :: ys, i, j, u, vs, b, hm, hb, hu, hr, hx => by
    unfold backL at hb
    split at hb
    · rename_i j1 u1 he1
      split at hb
      · rename_i k u2 he2
        injection hb with hb; injection hb with e1 e2; subst e1; subst e2
        obtain ⟨v, vs', b1, b2, rfl, rfl, hx1, hx2⟩ := hx
        exact Backed.append (backT_ok (fun l hl => hm l (List.mem_append_left _ hl)) he1 (fun e he => hu e (List.mem_append_left _ he)) hr.head hx1)
          (backL_ok xs ys j1 k u2 vs' b2 (fun l hl => hm l (List.mem_append_right _ hl)) he2 (fun e he => hu e (List.mem_append_right _ he)) hr.tail hx2)
      · simp at hb
    · simp at hb
end
end
end Go.Proofs.YthcaodlfnlhfbaaDoorT
