/- The interpreter over trees: what makes memory, and what writes it. -/
import Derived.Test.YthcaodlfnlhfbaaDoorT6
namespace Go.Proofs.YthcaodlfnlhfbaaDoorT
open Go Go.RowKit
set_option linter.unusedVariables false

section
variable {P : Program} {B : Base} {w : World} {inj : Loc → Nat} {σ : Loc → Option O} {cnt : Nat → Nat}
/-! ### Frozen -/
theorem arr_parts (h : SR B w inj σ cnt) {l : Loc} {e : TypeId} {sz : Nat} {xs : List T} (hl : σ l = some (.arr e sz xs)) :
    0 < sz ∧ ∃ (cells : Array Value) (c : Nat), w.heap[inj l]? = some (.cells cells e (0, 0)) ∧ cells.size = c * sz ∧ xs.length ≤ c ∧ c ≤ maxLen ∧ RowOf (sctx B w inj σ cnt).ro sz xs (fun i => cells[i]?) := h.obj l _ hl
/-- What is read of frozen things: as before, and the blocks of the keys that were read. -/
def fctx (C : Ctx) (bs : Nat → Prop) : Ctx := { C.ro with ok := fun k => C.ok k ∨ bs k }
theorem fctx_le {C : Ctx} {bs bs' : Nat → Prop} (h : ∀ k, bs k → bs' k) : (fctx C bs).le (fctx C bs') := ⟨fun k hk => ⟨hk.imp id (h k), rfl⟩, fun _ _ h => h, fun _ _ _ h => h, fun _ _ _ _ _ h => h, fun _ _ h => h⟩
theorem ro_fctx {C : Ctx} (bs : Nat → Prop) : C.ro.le (fctx C bs) := ⟨fun k hk => ⟨.inl hk, rfl⟩, fun _ _ h => h, fun _ _ _ h => h, fun _ _ _ _ _ h => h, fun _ _ h => h⟩
def blks (inj : Loc → Nat) (r : List Loc) (k : Nat) : Prop := ∃ l ∈ r, inj l = k
/-- A row of one's own, read as a slice. -/
theorem own_sl (h : SR B w inj σ cnt) {l : Loc} {v : Value} (hv : Rep (sctx B w inj σ cnt) (.own l) v) {e : TypeId} {sz : Nat} {xs : List T} (hl : σ l = some (.arr e sz xs)) :
    ∃ c, v = .slice (some ⟨inj l, 0, none⟩) xs.length c ∧ xs.length ≤ c ∧ Rep (fctx (sctx B w inj σ cnt) (blks inj [l])) (.sl sz xs) v := by
  cases hv
  rename_i hp
  obtain ⟨h1, b, n, c, rfl, hnc, hb⟩ := hp
  obtain ⟨rfl, rfl, cells, hc1, hc2⟩ := hb _ _ _ hl
  obtain ⟨h0, cells', c', g1, g2, g3, g4, g5⟩ := arr_parts h hl
  rw [hc1] at g1
  injection g1 with g1; injection g1 with g1 _ _
  subst g1
  refine ⟨c, rfl, hnc, ?_⟩
  exact Rep.sl_mk (C := fctx (sctx B w inj σ cnt) (blks inj [l])) (sz := sz) (xs := xs) (A := some ⟨inj l, 0, none⟩) (c := c) hnc (.inr ⟨_, rfl, rfl, .inr ⟨l, List.mem_singleton.2 rfl, rfl⟩, g5.mono (ro_fctx (C := sctx B w inj σ cnt) _) (fun i u hu => by
    show w.cell? _ = _
    simp [World.cell?, hc1, hu])⟩)
theorem sl_ro {C : Ctx} {sz : Nat} {xs : List T} {v : Value} (h : Rep C (.sl sz xs) v) : Rep C.ro (.sl sz xs) v := by
  cases h with
  | sl hl hc h hs hm => exact .sl hl hc h hs hm
theorem ifc_ro {C : Ctx} {t : TypeId} {x : T} {v : Value} (h : Rep C (.ifc t x) v) : Rep C.ro (.ifc t x) v := by
  cases h with
  | ifc h0 h => exact .ifc h0 h
  | ifn => exact .ifn
theorem ep_ro {C : Ctx} {cs : List T} {v : Value} (h : Rep C (.ep cs) v) : Rep C.ro (.ep cs) v := by
  cases h with
  | ep hl h h1 hsp hok hm => exact .ep hl h h1 hsp hok hm
mutual
theorem frz_ok (h : SR B w inj σ cnt) : ∀ (t t' : T) (r : List Loc) (v : Value), frz σ t = some (t', r) → Rep (sctx B w inj σ cnt) t v → Rep (fctx (sctx B w inj σ cnt) (blks inj r)) t' v
  | .s u, t', r, v, hf, hr => by
    obtain rfl := rep_s hr
    have hp : plainV v = true := by cases hr; assumption
    unfold frz at hf
    split at hf
    · rename_i e
      injection e with e
      injection hf with hf; injection hf with h1 h2; subst h1; subst e
      exact Rep.sl_mk (Nat.le_refl _) (.inl rfl)
    · injection hf with hf; injection hf with h1 h2
      rename_i e
      injection e with e
      subst h1; subst e
      exact .s hp
    all_goals simp_all
  | .agg cs, t', r, v, hf, hr => by
    unfold frz at hf
    obtain ⟨vs, rfl, hl, hc, h1⟩ := hr.agg_parts
    split at hf
    · rename_i cs' r' he
      injection hf with hf; injection hf with e1 e2; subst e1; subst e2
      have := frzL_ok h cs cs' r' vs he ⟨hl, hc⟩
      exact .agg this.1 this.2 h1
    · simp at hf
  | .own l, t', r, v, hf, hr => by
    unfold frz at hf
    split at hf
    · rename_i e sz xs hl
      injection hf with hf; injection hf with e1 e2; subst e1; subst e2
      obtain ⟨c, rfl, hnc, hrep⟩ := own_sl h hr hl
      exact hrep
    · simp at hf
  | .sl sz xs, t', r, v, hf, hr => by
    simp [frz] at hf
    obtain ⟨rfl, rfl⟩ := hf
    exact (sl_ro hr).mono (ro_fctx _)
  | .ifc t x, t', r, v, hf, hr => by
    simp [frz] at hf
    obtain ⟨rfl, rfl⟩ := hf
    exact (ifc_ro hr).mono (ro_fctx _)
  | .ep cs, t', r, v, hf, hr => by
    simp [frz] at hf
    obtain ⟨rfl, rfl⟩ := hf
    exact (ep_ro hr).mono (ro_fctx _)
  | .tup _, t', r, v, hf, hr => by simp [frz] at hf
  | .ptr _ _, t', r, v, hf, hr => by simp [frz] at hf
  | .eptr _ _ _ _, t', r, v, hf, hr => by simp [frz] at hf
  | .fn _ _ _, t', r, v, hf, hr => by simp [frz] at hf
  | .it _, t', r, v, hf, hr => by simp [frz] at hf
  | .cown _ _ _, t', r, v, hf, hr => by simp [frz] at hf
  | .cbox _ _, t', r, v, hf, hr => by simp [frz] at hf
  | .dead, t', r, v, hf, hr => by simp [frz] at hf
theorem frzL_ok (h : SR B w inj σ cnt) : ∀ (cs cs' : List T) (r : List Loc) (us : List Value), frzL σ cs = some (cs', r) → RepA (sctx B w inj σ cnt) cs us → RepA (fctx (sctx B w inj σ cnt) (blks inj r)) cs' us
  | [], cs', r, us, hf, hr => by
    simp [frzL] at hf
    obtain ⟨rfl, rfl⟩ := hf
    have : us = [] := List.eq_nil_of_length_eq_zero hr.1.symm
    subst this
    exact RepA.nil _
  | x :: cs, cs', r, us, hf, hr => by
    unfold frzL at hf
    split at hf
    · rename_i x' a r' b he1 he2
      injection hf with hf; injection hf with e1 e2; subst e1; subst e2
      match us, hr with
      | u :: us, hr =>
        have h1 := frz_ok h x x' a u he1 hr.head
        have h2 := frzL_ok h cs r' b us he2 hr.tail
        exact (h2.mono (fctx_le (fun k ⟨l, hl, e⟩ => ⟨l, List.mem_append_right _ hl, e⟩))).cons (h1.mono (fctx_le (fun k ⟨l, hl, e⟩ => ⟨l, List.mem_append_left _ hl, e⟩)))
      | [], hr => exact absurd hr.1 (by simp)
    · simp at hf
end
theorem updL_append (σ : Loc → Option O) : ∀ (a b : List (Loc × Option O)), updL σ (a ++ b) = updL (updL σ a) b
  | [], b => rfl
  | e :: a, b => updL_append _ a b
theorem updL_kill (l : Loc) : ∀ (r : List Loc) (σ : Loc → Option O), updL σ (killL r) l = if l ∈ r then none else σ l
  | [], σ => by simp [killL, updL]
  | x :: r, σ => by
    have := updL_kill l r (fun l => if l = x then none else σ l)
    simp only [killL, List.map_cons, updL] at this ⊢
    rw [this]
    by_cases h1 : l ∈ r <;> by_cases h2 : l = x <;> simp [h1, h2]
theorem kill_some {r : List Loc} {l : Loc} {o : O} (h : updL σ (killL r) l = some o) : l ∉ r ∧ σ l = some o := by
  rw [updL_kill] at h
  split at h
  · simp at h
  · rename_i hn; exact ⟨hn, h⟩
theorem kill_le (h : SR B w inj σ cnt) (r : List Loc) : (sctx B w inj σ cnt).le (sctx B w inj (updL σ (killL r)) cnt) :=
  next_le (Fr.refl _ _) (fun _ => Nat.le_refl _) (fun l o' hl => .inl ⟨l, o', (kill_some hl).2, rfl⟩) (fun l o' _ hl => ⟨o', (kill_some hl).2, rfl, O.like_refl _, fun _ _ _ _ cells e hc => ⟨cells, hc, rfl⟩⟩)
theorem SR.kill (h : SR B w inj σ cnt) (r : List Loc) : SR B w inj (updL σ (killL r)) cnt :=
  h.next (Fr.refl _ _) (fun _ => Nat.le_refl _) (fun l o' hl => .inl ⟨l, o', (kill_some hl).2, rfl⟩) (fun l o' hl => h.lt l o' (kill_some hl).2)
    (fun l l' o o' h1 h2 he => h.uniq l l' o o' (kill_some h1).2 (kill_some h2).2 he) (fun l o' hl => h.fresh l o' (kill_some hl).2)
    (fun l o' hl => (h.obj l o' (kill_some hl).2).mono (kill_le h r) rfl)
/-- What was frozen may be read for good, once its keys are given up. -/
theorem fctx_kill (h : SR B w inj σ cnt) {r : List Loc} (hr : ∀ l ∈ r, σ l ≠ none) : (fctx (sctx B w inj σ cnt) (blks inj r)).le (sctx B w inj (updL σ (killL r)) cnt).ro := by
  refine ⟨?_, fun _ _ h => h.elim, fun _ _ _ h => h.elim, fun _ _ _ _ _ h => h.elim, fun _ _ h => h.elim⟩
  rintro k (hk | ⟨l, hl, rfl⟩)
  · exact (kill_le h r).ok k hk
  · cases ho : σ l with
    | none => exact absurd ho (hr l hl)
    | some o =>
      refine ⟨⟨?_, h.lt l o ho, ?_⟩, rfl⟩
      · rcases h.mine l o ho with h1 | h1
        · exact .inr (.inl h1)
        · exact .inr (.inr h1)
      · rintro ⟨l', o', ho', he⟩
        obtain ⟨hn, hs⟩ := kill_some ho'
        have := h.uniq l' l o' o hs ho he
        subst this
        exact hn hl
mutual
theorem frz_keys : ∀ (t t' : T) (r : List Loc), frz σ t = some (t', r) → ∀ l ∈ r, σ l ≠ none
  | .s u, t', r, hf => by
    unfold frz at hf
    split at hf <;> first | (injection hf with hf; injection hf with h1 h2; subst h2; simp; done) | simp_all
  | .agg cs, t', r, hf => by
    unfold frz at hf
    split at hf
    · rename_i cs' r' he
      injection hf with hf; injection hf with e1 e2; subst e2
      exact frzL_keys cs cs' r' he
    · simp at hf
  | .own l, t', r, hf => by
    unfold frz at hf
    split at hf
    · rename_i hl
      injection hf with hf; injection hf with e1 e2; subst e2
      intro l' hl'
      rw [List.mem_singleton.1 hl', hl]; simp
    · simp at hf
  | .sl sz xs, t', r, hf => by simp [frz] at hf; obtain ⟨rfl, rfl⟩ := hf; simp
  | .ifc t x, t', r, hf => by simp [frz] at hf; obtain ⟨rfl, rfl⟩ := hf; simp
  | .ep cs, t', r, hf => by simp [frz] at hf; obtain ⟨rfl, rfl⟩ := hf; simp
  | .tup _, t', r, hf => by simp [frz] at hf
  | .ptr _ _, t', r, hf => by simp [frz] at hf
  | .eptr _ _ _ _, t', r, hf => by simp [frz] at hf
  | .fn _ _ _, t', r, hf => by simp [frz] at hf
  | .it _, t', r, hf => by simp [frz] at hf
  | .cown _ _ _, t', r, hf => by simp [frz] at hf
  | .cbox _ _, t', r, hf => by simp [frz] at hf
  | .dead, t', r, hf => by simp [frz] at hf
theorem frzL_keys : ∀ (cs cs' : List T) (r : List Loc), frzL σ cs = some (cs', r) → ∀ l ∈ r, σ l ≠ none
  | [], cs', r, hf => by simp [frzL] at hf; obtain ⟨rfl, rfl⟩ := hf; simp
  | x :: cs, cs', r, hf => by
    unfold frzL at hf
    split at hf
    · rename_i x' a r' b he1 he2
      injection hf with hf; injection hf with e1 e2; subst e2
      intro l hl
      rcases List.mem_append.1 hl with hl | hl
      · exact frz_keys x x' a he1 l hl
      · exact frzL_keys cs r' b he2 l hl
    · simp at hf
end
theorem frzC_ok {P : Program} (h : SR B w inj σ cnt) {ty : TypeId} {t t' : T} {r : List Loc} {v : Value} (hf : frzC P ty σ t = some (t', r)) (hr : Rep (sctx B w inj σ cnt) t v) : Rep (fctx (sctx B w inj σ cnt) (blks inj r)) t' v := by
  unfold frzC at hf
  split at hf
  · rename_i y r' he
    injection hf with hf; injection hf with e1 e2; subst e1; subst e2
    exact canT_rep (frz_ok h t y r' v he hr)
  · simp at hf
theorem frzC_keys {P : Program} {ty : TypeId} {t t' : T} {r : List Loc} (hf : frzC P ty σ t = some (t', r)) : ∀ l ∈ r, σ l ≠ none := by
  unfold frzC at hf
  split at hf
  · rename_i y r' he
    injection hf with hf; injection hf with e1 e2; subst e2
    exact frz_keys t y r' he
  · simp at hf
/-- A step behind some keys' being given up. -/
theorem Stp.killed (h : SR B w inj σ cnt) {r : List Loc} {x : T} {u : List (Loc × Option O)} {b : List Nat} {rd rd' : List Loc} {v : Value} {w' : World} (hs : Stp B w inj (updL σ (killL r)) cnt ⟨x, u, b, rd⟩ v w') : Stp B w inj σ cnt ⟨x, killL r ++ u, b, rd'⟩ v w' := by
  obtain ⟨inj', h1, h2, h3⟩ := hs
  refine ⟨inj', ?_, (kill_le h r).trans ?_, ?_⟩ <;> simp only [updL_append]
  · exact h1
  · exact h2
  · exact h3
/-- A new variable. -/
theorem Stp.newbox (h : SR B w inj σ cnt) (site : Nat) (t : TypeId) {cs : List T} {us : List Value} (hr : RepA (sctx B w inj σ cnt) cs us) (h1 : ∀ u ∈ us, one u) :
    Stp B w inj σ cnt ⟨.ptr (site, cnt site) 0, [((site, cnt site), some (.box t cs))], [site], []⟩ (.pointer (some ⟨w.heap.size, 0, none⟩)) (w.alloc (.cells us.toArray t)) := by
  refine Stp.new h site (.box t cs) (.cells us.toArray t) _ _ [] (fun C le hb => ⟨us, hb, hr.mono le, h1⟩) ?_
  intro inj' σ' cnt' hi hs hc hb
  exact .ptr ⟨hc, _, rfl, fun ty' cs' _ => hi.symm⟩
/-- alloc -/
theorem alloc_ok (h : SR B w inj σ cnt) (site : Nat) {t : TypeId} {cs : List T} (hz : zeroOf P t = some cs) :
    ∃ v w', (Instr.alloc t true (.tuple #[])).run P w = .ok v w' ∧ Stp B w inj σ cnt ⟨.ptr (site, cnt site) 0, [((site, cnt site), some (.box t cs))], [site], []⟩ v w' := by
  obtain ⟨z, hz1, rfl, hp, _, _⟩ := run_zero hz w
  refine ⟨_, _, ?_, Stp.newbox h site t (rep_plains hp) (fun u hu => plain_one (hp u hu))⟩
  simp only [Instr.alloc, Sem.run_bind, hz1, Result.andThen_ok, newVar, newRow, run_newObj, Sem.run_pure, Array.toArray_toList]
  rfl
/-- box -/
theorem box_ok (h : SR B w inj σ cnt) (site : Nat) (t : TypeId) {x : T} {u : Value} (hx : Rep (sctx B w inj σ cnt) x u) (hk : x.ok1 = true) :
    ∃ v w', (Instr.box t u).run P w = .ok v w' ∧ Stp B w inj σ cnt ⟨.ptr (site, cnt site) 0, [((site, cnt site), some (.box t x.cells))], [site], []⟩ v w' := by
  obtain ⟨hra, h1⟩ := hx.cells (sctx_good _ _ _ _ _) hk
  refine ⟨_, _, ?_, Stp.newbox h site t hra h1⟩
  simp only [Instr.box, Sem.run_bind, newVar, newRow, run_newObj, Sem.run_pure, Result.andThen_ok, Array.toArray_toList]
  rfl
/-- An object that is there, turned. -/
theorem Stp.set (h : SR B w inj σ cnt) {l : Loc} {o o' : O} (hl : σ l = some o) (hk : o.like o') {w' : World} (hw : Fr (fun k => k = inj l) w w')
    (hsh : ∀ cells e, w.heap[inj l]? = some (.cells cells e (0, 0)) → ∃ cells', w'.heap[inj l]? = some (.cells cells' e (0, 0)) ∧ cells'.size = cells.size)
    (hob : ∀ C : Ctx, (sctx B w inj σ cnt).le C → C.w = w' → RepO C (inj l) o') {x : T} {v : Value} (hx : ∀ C : Ctx, (sctx B w inj σ cnt).le C → Rep C x v) (rd : List Loc) :
    Stp B w inj σ cnt ⟨x, [(l, some o')], [], rd⟩ v w' := by
  have hσ : ∀ l', updL σ [(l, some o')] l' = if l' = l then some o' else σ l' := fun _ => rfl
  have hlook : ∀ l' q, updL σ [(l, some o')] l' = some q → (l' = l ∧ q = o') ∨ (l' ≠ l ∧ σ l' = some q) := by
    intro l' q hq
    rw [hσ] at hq
    split at hq
    · rename_i e; injection hq with hq; exact .inl ⟨e, hq.symm⟩
    · rename_i e; exact .inr ⟨e, hq⟩
  have hlive : ∀ l' q, updL σ [(l, some o')] l' = some q → ∃ q', σ l' = some q' ∧ q'.like q := by
    intro l' q hq
    rcases hlook l' q hq with ⟨rfl, rfl⟩ | ⟨hne, hs⟩
    · exact ⟨o, hl, hk⟩
    · exact ⟨q, hs, O.like_refl _⟩
  have hfr : Fr (owned σ inj) w w' := hw.mono (by rintro i rfl; exact ⟨l, o, hl, rfl⟩)
  have hc : ∀ s, cnt s ≤ (if ([] : List Nat).contains s then cnt s + 1 else cnt s) := by intro s; simp
  have hnew : ∀ l' q, updL σ [(l, some o')] l' = some q → owned σ inj (inj l') ∨ w.heap.size ≤ inj l' := by
    intro l' q hq
    obtain ⟨q', hq', _⟩ := hlive l' q hq
    exact .inl ⟨l', q', hq', rfl⟩
  have le := next_le (B := B) (inj' := inj) (σ' := updL σ [(l, some o')]) hfr hc hnew (by
    intro l' q _ hq
    obtain ⟨q', hq', hlk⟩ := hlive l' q hq
    refine ⟨q', hq', rfl, hlk, fun _ _ _ _ cells e hcell => ?_⟩
    by_cases he : inj l' = inj l
    · rw [he] at hcell ⊢; exact hsh cells e hcell
    · exact ⟨cells, by rw [hw.block _ (h.lt l' q' hq') he]; exact hcell, rfl⟩)
  refine ⟨inj, h.next hfr hc hnew ?_ ?_ ?_ ?_, le, hx _ le⟩
  · intro l' q hq
    obtain ⟨q', hq', _⟩ := hlive l' q hq
    exact Nat.lt_of_lt_of_le (h.lt l' q' hq') hw.size
  · intro a b o1 o2 h1 h2 he
    obtain ⟨q1, hq1, _⟩ := hlive a o1 h1
    obtain ⟨q2, hq2, _⟩ := hlive b o2 h2
    exact h.uniq a b q1 q2 hq1 hq2 he
  · intro l' q hq
    obtain ⟨q', hq', _⟩ := hlive l' q hq
    exact Nat.lt_of_lt_of_le (h.fresh l' q' hq') (hc _)
  · intro l' q hq
    rcases hlook l' q hq with ⟨rfl, rfl⟩ | ⟨hne, hs⟩
    · exact hob _ le rfl
    · refine (h.obj l' q hs).mono le (hw.block _ (h.lt l' q hs) (fun he => hne (h.uniq l' l q o hs hl he)))
end
end Go.Proofs.YthcaodlfnlhfbaaDoorT
