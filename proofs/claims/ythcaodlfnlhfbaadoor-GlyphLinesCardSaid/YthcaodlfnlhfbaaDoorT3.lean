/- The interpreter over trees: the state's relation to the world, and how it goes on. -/
import Derived.Test.YthcaodlfnlhfbaaDoorT2
namespace Go.Proofs.YthcaodlfnlhfbaaDoorT
open Go Go.RowKit
set_option linter.unusedVariables false

/-- The world goes on: of what was there only blocks of M may have turned. -/
structure Fr (M : Nat → Prop) (w w' : World) : Prop where
  os : w'.os = w.os
  tape : w'.tape = w.tape
  output : w'.output = w.output
  size : w.heap.size ≤ w'.heap.size
  block : ∀ k, k < w.heap.size → ¬ M k → w'.heap[k]? = w.heap[k]?
theorem Fr.refl (M : Nat → Prop) (w : World) : Fr M w w := ⟨rfl, rfl, rfl, Nat.le_refl _, fun _ _ _ => rfl⟩
theorem Fr.trans {M N : Nat → Prop} {a b c : World} (h : Fr M a b) (k : Fr N b c) (hN : ∀ i, N i → M i ∨ a.heap.size ≤ i) : Fr M a c :=
  ⟨k.os.trans h.os, k.tape.trans h.tape, k.output.trans h.output, Nat.le_trans h.size k.size, fun i hi hM => (k.block i (Nat.lt_of_lt_of_le hi h.size) (fun hn => (hN i hn).elim hM (fun hle => by omega))).trans (h.block i hi hM)⟩
theorem Fr.mono {M N : Nat → Prop} {w w' : World} (h : Fr M w w') (hMN : ∀ i, M i → N i) : Fr N w w' := ⟨h.os, h.tape, h.output, h.size, fun i hi hn => h.block i hi (fun hm => hn (hMN i hm))⟩
theorem Fr.below {w w' : World} (h : Fr (fun _ => False) w w') : Below w.heap.size w w' := ⟨h.os, h.tape, h.output, h.size, fun k hk => h.block k hk id⟩
theorem Fr.drew (M : Nat → Prop) (w : World) : Fr M w { w with drawn := w.drawn + 1 } := ⟨rfl, rfl, rfl, Nat.le_refl _, fun _ _ _ => rfl⟩
theorem alloc_size (w : World) (o : Obj) : (w.alloc o).heap.size = w.heap.size + 1 := by show (w.heap.push o).size = _; simp
theorem alloc_new (w : World) (o : Obj) : (w.alloc o).heap[w.heap.size]? = some o := by show (w.heap.push o)[w.heap.size]? = _; simp
theorem Fr.alloc (M : Nat → Prop) (w : World) (o : Obj) : Fr M w (w.alloc o) :=
  ⟨rfl, rfl, rfl, by rw [alloc_size]; omega, fun k hk _ => Below.heap_alloc w o k hk⟩

/-- Where a call began: its world, the blocks that it was handed for its own, and those that it may read. -/
structure Base where
  w0 : World
  bs : List Nat
  ok0 : Nat → Prop
def Base.okb (B : Base) (k : Nat) : Prop := B.ok0 k ∨ k ∈ B.bs ∨ B.w0.heap.size ≤ k
def owned (σ : Loc → Option O) (inj : Loc → Nat) (k : Nat) : Prop := ∃ l o, σ l = some o ∧ inj l = k

def sctx (B : Base) (w : World) (inj : Loc → Nat) (σ : Loc → Option O) (cnt : Nat → Nat) : Ctx where
  w := w
  ok := fun k => B.okb k ∧ k < w.heap.size ∧ ¬ owned σ inj k
  own := fun l v => l.2 < cnt l.1 ∧ ∃ b n c, v = .slice (some ⟨b, 0, none⟩) n c ∧ n ≤ c ∧ ∀ e sz xs, σ l = some (.arr e sz xs) → n = xs.length ∧ b = inj l ∧ ∃ cells, w.heap[inj l]? = some (.cells cells e (0, 0)) ∧ cells.size = c * sz
  ptr := fun l off v => l.2 < cnt l.1 ∧ ∃ b, v = .pointer (some ⟨b, off, none⟩) ∧ ∀ ty cs, σ l = some (.box ty cs) → b = inj l
  eptr := fun l sz i off v => l.2 < cnt l.1 ∧ ∃ b, v = .pointer (some ⟨b, i * sz + off, none⟩) ∧ ∀ e sz' xs, σ l = some (.arr e sz' xs) → b = inj l
  it := fun l v => l.2 < cnt l.1 ∧ ∀ b pos, σ l = some (.iter b pos) → v = .pointer (some ⟨inj l, 0, none⟩)
theorem sctx_w (B : Base) (w : World) (inj : Loc → Nat) (σ : Loc → Option O) (cnt : Nat → Nat) : (sctx B w inj σ cnt).w = w := rfl
theorem ro_w (C : Ctx) : C.ro.w = C.w := rfl
theorem sctx_good (B : Base) (w : World) (inj : Loc → Nat) (σ : Loc → Option O) (cnt : Nat → Nat) : (sctx B w inj σ cnt).Good :=
  ⟨fun _ _ h => by obtain ⟨_, b, n, c, e, _⟩ := h; exact ⟨_, _, _, e⟩, fun _ _ _ h => by obtain ⟨_, b, e, _⟩ := h; exact ⟨_, e⟩, fun _ _ _ _ _ h => by obtain ⟨_, b, e, _⟩ := h; exact ⟨_, e⟩⟩

def RepO (C : Ctx) (b : Nat) : O → Prop
  | .box ty cs => ∃ us : List Value, C.w.heap[b]? = some (.cells us.toArray ty (0, 0)) ∧ RepA C cs us ∧ ∀ u ∈ us, one u
  | .arr e sz xs => 0 < sz ∧ ∃ (cells : Array Value) (c : Nat), C.w.heap[b]? = some (.cells cells e (0, 0)) ∧ cells.size = c * sz ∧ xs.length ≤ c ∧ c ≤ maxLen ∧ RowOf C.ro sz xs (fun i => cells[i]?)
  | .iter s pos => C.w.heap[b]? = some (.stringIter s pos)
theorem RepO.mono {C C' : Ctx} {b : Nat} {o : O} (h : RepO C b o) (le : C.le C') (hb : C'.w.heap[b]? = C.w.heap[b]?) : RepO C' b o := by
  cases o with
  | box ty cs => obtain ⟨us, h1, h2, h3⟩ := h; exact ⟨us, hb.trans h1, h2.mono le, h3⟩
  | arr e sz xs => obtain ⟨h0, cells, c, h1, h2, h3, h4, h5⟩ := h; exact ⟨h0, cells, c, hb.trans h1, h2, h3, h4, h5.mono le.roro (fun _ _ h => h)⟩
  | iter s pos => exact hb.trans h

structure SR (B : Base) (w : World) (inj : Loc → Nat) (σ : Loc → Option O) (cnt : Nat → Nat) : Prop where
  fr : Fr (· ∈ B.bs) B.w0 w
  lt : ∀ l o, σ l = some o → inj l < w.heap.size
  uniq : ∀ l l' o o', σ l = some o → σ l' = some o' → inj l = inj l' → l = l'
  obj : ∀ l o, σ l = some o → RepO (sctx B w inj σ cnt) (inj l) o
  fresh : ∀ l o, σ l = some o → l.2 < cnt l.1
  mine : ∀ l o, σ l = some o → inj l ∈ B.bs ∨ B.w0.heap.size ≤ inj l

def O.like : O → O → Prop
  | .box .., .box .. => True
  | .arr e sz xs, .arr e' sz' xs' => e = e' ∧ sz = sz' ∧ xs.length = xs'.length
  | .iter .., .iter .. => True
  | _, _ => False
theorem O.like_refl (o : O) : o.like o := by cases o <;> simp [O.like]

/-- What goes on keeps what is known. -/
theorem next_le {B : Base} {w w' : World} {inj inj' : Loc → Nat} {σ σ' : Loc → Option O} {cnt cnt' : Nat → Nat}
    (hfr : Fr (owned σ inj) w w') (hcnt : ∀ s, cnt s ≤ cnt' s)
    (hnew : ∀ l o', σ' l = some o' → owned σ inj (inj' l) ∨ w.heap.size ≤ inj' l)
    (hold : ∀ l o', l.2 < cnt l.1 → σ' l = some o' → ∃ o, σ l = some o ∧ inj' l = inj l ∧ o.like o' ∧
      ∀ e0 sz0 xs0, o = .arr e0 sz0 xs0 → ∀ cells e, w.heap[inj l]? = some (.cells cells e (0, 0)) → ∃ cells', w'.heap[inj l]? = some (.cells cells' e (0, 0)) ∧ cells'.size = cells.size) :
    (sctx B w inj σ cnt).le (sctx B w' inj' σ' cnt') := by
  refine ⟨?_, ?_, ?_, ?_, ?_⟩
  · rintro k ⟨h1, h2, h3⟩
    refine ⟨⟨h1, Nat.lt_of_lt_of_le h2 hfr.size, ?_⟩, hfr.block k h2 h3⟩
    rintro ⟨l, o', ho, rfl⟩
    rcases hnew l o' ho with h | h
    · exact h3 h
    · omega
  · rintro l v ⟨h1, b, n, c, hv, hnc, h3⟩
    refine ⟨Nat.lt_of_lt_of_le h1 (hcnt _), b, n, c, hv, hnc, fun e sz xs hx => ?_⟩
    obtain ⟨o, ho, hi, hlike, hsh⟩ := hold l _ h1 hx
    cases o with
    | box ty cs => simp [O.like] at hlike
    | iter s pos => simp [O.like] at hlike
    | arr e0 sz0 xs0 =>
      obtain ⟨rfl, rfl, hlen⟩ := hlike
      obtain ⟨gn, g0, cells, g1, g2⟩ := h3 e0 sz0 xs0 ho
      obtain ⟨cells', k1, k2⟩ := hsh e0 sz0 xs0 rfl cells e0 g1
      exact ⟨by omega, by rw [hi]; exact g0, cells', by rw [hi]; exact k1, by rw [k2]; exact g2⟩
  · rintro l n v ⟨h1, b, hv, h3⟩
    refine ⟨Nat.lt_of_lt_of_le h1 (hcnt _), b, hv, fun ty cs hx => ?_⟩
    obtain ⟨o, ho, hi, hlike, hsh⟩ := hold l _ h1 hx
    cases o with
    | arr e0 sz0 xs0 => simp [O.like] at hlike
    | iter s pos => simp [O.like] at hlike
    | box ty0 cs0 => rw [hi]; exact h3 ty0 cs0 ho
  · rintro l sz i n v ⟨h1, b, hv, h3⟩
    refine ⟨Nat.lt_of_lt_of_le h1 (hcnt _), b, hv, fun e sz' xs hx => ?_⟩
    obtain ⟨o, ho, hi, hlike, hsh⟩ := hold l _ h1 hx
    cases o with
    | box ty cs => simp [O.like] at hlike
    | iter s pos => simp [O.like] at hlike
    | arr e0 sz0 xs0 => rw [hi]; exact h3 e0 sz0 xs0 ho
  · rintro l v ⟨h1, h3⟩
    refine ⟨Nat.lt_of_lt_of_le h1 (hcnt _), fun b pos hx => ?_⟩
    obtain ⟨o, ho, hi, hlike, hsh⟩ := hold l _ h1 hx
    cases o with
    | box ty cs => simp [O.like] at hlike
    | arr e0 sz0 xs0 => simp [O.like] at hlike
    | iter s0 pos0 => rw [hi]; exact h3 s0 pos0 ho

theorem SR.next {B : Base} {w w' : World} {inj inj' : Loc → Nat} {σ σ' : Loc → Option O} {cnt cnt' : Nat → Nat} (h : SR B w inj σ cnt)
    (hfr : Fr (owned σ inj) w w') (hcnt : ∀ s, cnt s ≤ cnt' s)
    (hnew : ∀ l o', σ' l = some o' → owned σ inj (inj' l) ∨ w.heap.size ≤ inj' l)
    (hlt : ∀ l o', σ' l = some o' → inj' l < w'.heap.size)
    (hinj : ∀ l l' o o', σ' l = some o → σ' l' = some o' → inj' l = inj' l' → l = l')
    (hfresh : ∀ l o', σ' l = some o' → l.2 < cnt' l.1)
    (hobj : ∀ l o', σ' l = some o' → RepO (sctx B w' inj' σ' cnt') (inj' l) o') : SR B w' inj' σ' cnt' where
  fr := h.fr.trans hfr (by
    rintro i ⟨l, o, ho, rfl⟩
    exact h.mine l o ho)
  lt := hlt
  uniq := hinj
  obj := hobj
  fresh := hfresh
  mine := by
    intro l o' ho
    rcases hnew l o' ho with ⟨l0, o0, h0, e⟩ | hle
    · rw [← e]; exact h.mine l0 o0 h0
    · exact .inr (Nat.le_trans h.fr.size hle)

/-- A step: the state behind it, and a value. -/
structure Stp (B : Base) (w : World) (inj : Loc → Nat) (σ : Loc → Option O) (cnt : Nat → Nat) (d : Dl) (v : Value) (w' : World) : Prop where
  ex : ∃ inj', SR B w' inj' (updL σ d.upd) (fun s => if d.bump.contains s then cnt s + 1 else cnt s) ∧
    (sctx B w inj σ cnt).le (sctx B w' inj' (updL σ d.upd) (fun s => if d.bump.contains s then cnt s + 1 else cnt s)) ∧
    Rep (sctx B w' inj' (updL σ d.upd) (fun s => if d.bump.contains s then cnt s + 1 else cnt s)) d.v v
theorem Stp.pure {B : Base} {w : World} {inj : Loc → Nat} {σ : Loc → Option O} {cnt : Nat → Nat} (h : SR B w inj σ cnt) {x : T} {v : Value} (hx : Rep (sctx B w inj σ cnt) x v) (rd : List Loc) : Stp B w inj σ cnt ⟨x, [], [], rd⟩ v w :=
  ⟨inj, by simpa [updL] using h, by simpa [updL] using Ctx.le.refl _, by simpa [updL] using hx⟩

/-- A new object at a new key. -/
theorem Stp.newAt {B : Base} {w w' : World} {inj : Loc → Nat} {σ : Loc → Option O} {cnt : Nat → Nat} (h : SR B w inj σ cnt) (site : Nat) (o : O) (ob : Obj) (x : T) (v : Value) (rd : List Loc)
    (hfr0 : Fr (fun _ => False) w w') (hnewblk : w'.heap[w.heap.size]? = some ob)
    (hob : ∀ C : Ctx, (sctx B w inj σ cnt).le C → C.w.heap[w.heap.size]? = some ob → RepO C w.heap.size o)
    (hx : ∀ (inj' : Loc → Nat) (σ' : Loc → Option O) (cnt' : Nat → Nat), inj' (site, cnt site) = w.heap.size → σ' (site, cnt site) = some o → cnt site < cnt' site → Rep (sctx B w' inj' σ' cnt') x v) :
    Stp B w inj σ cnt ⟨x, [((site, cnt site), some o)], [site], rd⟩ v w' := by
  have hnone : σ (site, cnt site) = none := by
    cases hs : σ (site, cnt site) with
    | none => rfl
    | some o0 => have := h.fresh _ _ hs; simp at this
  have hc : ∀ s, cnt s ≤ (if [site].contains s then cnt s + 1 else cnt s) := by intro s; split <;> omega
  have hσ : ∀ l, updL σ [((site, cnt site), some o)] l = if l = (site, cnt site) then some o else σ l := fun l => rfl
  have hlook : ∀ l o', updL σ [((site, cnt site), some o)] l = some o' → (l = (site, cnt site) ∧ o' = o) ∨ (l ≠ (site, cnt site) ∧ σ l = some o') := by
    intro l o' hl
    rw [hσ] at hl
    split at hl
    · rename_i e; injection hl with hl; exact .inl ⟨e, hl.symm⟩
    · rename_i e; exact .inr ⟨e, hl⟩
  have hfr : Fr (owned σ inj) w w' := hfr0.mono (fun _ h => h.elim)
  have hnew : ∀ l o', updL σ [((site, cnt site), some o)] l = some o' → owned σ inj ((fun l => if l = (site, cnt site) then w.heap.size else inj l) l) ∨ w.heap.size ≤ (fun l => if l = (site, cnt site) then w.heap.size else inj l) l := by
    intro l o' hl
    rcases hlook l o' hl with ⟨rfl, rfl⟩ | ⟨hne, hs⟩
    · right; simp
    · left; simp only [hne, if_false]; exact ⟨l, o', hs, rfl⟩
  have le := next_le (B := B) (inj' := fun l => if l = (site, cnt site) then w.heap.size else inj l) (σ' := updL σ [((site, cnt site), some o)]) hfr hc hnew (by
    intro l o' hlt hl
    rcases hlook l o' hl with ⟨rfl, rfl⟩ | ⟨hne, hs⟩
    · simp at hlt
    · refine ⟨o', hs, by simp [hne], O.like_refl _, fun _ _ _ _ cells e hcell => ⟨cells, ?_, rfl⟩⟩
      rw [hfr0.block _ (h.lt l o' hs) id]; exact hcell)
  refine ⟨_, h.next hfr hc hnew ?_ ?_ ?_ ?_, le, hx _ _ _ (by simp) (by simp [hσ]) (by simp)⟩
  · intro l o' hl
    rcases hlook l o' hl with ⟨rfl, rfl⟩ | ⟨hne, hs⟩
    · simpa using (Array.getElem?_eq_some_iff.1 hnewblk).1
    · simp only [hne, if_false]; exact Nat.lt_of_lt_of_le (h.lt l o' hs) hfr0.size
  · intro l l' o1 o2 h1 h2 he
    rcases hlook l o1 h1 with ⟨rfl, rfl⟩ | ⟨hne, hs⟩ <;> rcases hlook l' o2 h2 with ⟨rfl, rfl⟩ | ⟨hne', hs'⟩
    · rfl
    · have := h.lt l' o2 hs'; simp [hne'] at he; omega
    · have := h.lt l o1 hs; simp [hne] at he; omega
    · simp only [hne, hne', if_false] at he; exact h.uniq l l' o1 o2 hs hs' he
  · intro l o' hl
    rcases hlook l o' hl with ⟨rfl, rfl⟩ | ⟨hne, hs⟩
    · simp
    · exact Nat.lt_of_lt_of_le (h.fresh l o' hs) (hc _)
  · intro l o' hl
    rcases hlook l o' hl with ⟨rfl, rfl⟩ | ⟨hne, hs⟩
    · simp only [if_true]; exact hob _ le hnewblk
    · simp only [hne, if_false]; exact (h.obj l o' hs).mono le (hfr0.block _ (h.lt l o' hs) id)
theorem Stp.new {B : Base} {w : World} {inj : Loc → Nat} {σ : Loc → Option O} {cnt : Nat → Nat} (h : SR B w inj σ cnt) (site : Nat) (o : O) (ob : Obj) (x : T) (v : Value) (rd : List Loc)
    (hob : ∀ C : Ctx, (sctx B w inj σ cnt).le C → C.w.heap[w.heap.size]? = some ob → RepO C w.heap.size o)
    (hx : ∀ (inj' : Loc → Nat) (σ' : Loc → Option O) (cnt' : Nat → Nat), inj' (site, cnt site) = w.heap.size → σ' (site, cnt site) = some o → cnt site < cnt' site → (w.alloc ob).heap[w.heap.size]? = some ob → Rep (sctx B (w.alloc ob) inj' σ' cnt') x v) :
    Stp B w inj σ cnt ⟨x, [((site, cnt site), some o)], [site], rd⟩ v (w.alloc ob) :=
  Stp.newAt h site o ob x v rd (Fr.alloc _ w ob) (alloc_new w ob) hob (fun inj' σ' cnt' h1 h2 h3 => hx inj' σ' cnt' h1 h2 h3 (alloc_new w ob))
end Go.Proofs.YthcaodlfnlhfbaaDoorT
