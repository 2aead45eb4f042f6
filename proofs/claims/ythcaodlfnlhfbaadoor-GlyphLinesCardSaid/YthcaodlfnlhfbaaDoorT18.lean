/- The interpreter over trees: regions of open order. -/
import Derived.Test.YthcaodlfnlhfbaaDoorT17
namespace Go.Proofs.YthcaodlfnlhfbaaDoorT
open Go Go.RowKit
set_option linter.unusedVariables false

/-! ### What comes before what -/
theorem bitsRow_acc {bs : List Nat} {j : Nat} : ∀ (es : List Edge) (acc : Nat), (es.foldl (fun acc e => if Region.binds .any e then acc ||| (1 <<< e.on) ||| bs.getD e.on 0 else acc) acc).testBit j = true → acc.testBit j = true ∨ ∃ e ∈ es, Region.binds .any e = true ∧ (e.on = j ∨ (bs.getD e.on 0).testBit j = true)
  | [], acc, h => .inl h
  | e :: es, acc, h => by
    simp only [List.foldl_cons] at h
    rcases bitsRow_acc es _ h with h1 | ⟨e', he', h1⟩
    · split at h1
      · rename_i hb
        rw [Nat.testBit_or, Nat.testBit_or, Bool.or_eq_true, Bool.or_eq_true] at h1
        rcases h1 with (h1 | h1) | h1
        · exact .inl h1
        · refine .inr ⟨e, List.mem_cons_self .., hb, .inl ?_⟩
          rw [Nat.testBit_shiftLeft, Bool.and_eq_true, decide_eq_true_eq, Nat.testBit_one_eq_true_iff_self_eq_zero] at h1
          omega
        · exact .inr ⟨e, List.mem_cons_self .., hb, .inr h1⟩
      · exact .inl h1
    · exact .inr ⟨e', List.mem_cons_of_mem _ he', h1⟩
theorem bitsRow_bit {bs : List Nat} {j : Nat} {es : List Edge} (h : (bitsRow bs es).testBit j = true) : ∃ e ∈ es, Region.binds .any e = true ∧ (e.on = j ∨ (bs.getD e.on 0).testBit j = true) := by
  rcases bitsRow_acc es 0 h with h1 | h1
  · simp at h1
  · exact h1
theorem bitsGo_old : ∀ (r : List Oper) (bs : List Nat) (i : Nat), i < bs.length → (bitsGo r bs).getD i 0 = bs.getD i 0
  | [], bs, i, h => rfl
  | o :: r, bs, i, h => by
    simp only [bitsGo]
    rw [bitsGo_old r _ i (by simp; omega)]
    simp only [List.getD_eq_getElem?_getD, List.getElem?_append_left h]
theorem bitsGo_at : ∀ (r : List Oper) (bs : List Nat) (i : Nat) (o : Oper), r[i]? = some o → ∃ pre : List Nat, pre.length = bs.length + i ∧ (bitsGo r bs).getD (bs.length + i) 0 = bitsRow pre o.after.toList ∧ ∀ k, k < bs.length + i → pre.getD k 0 = (bitsGo r bs).getD k 0
  | [], bs, i, o, h => by simp at h
  | p :: r, bs, 0, o, h => by
    simp at h; subst h
    refine ⟨bs, rfl, ?_, fun k hk => ?_⟩
    · simp only [bitsGo, Nat.add_zero]
      rw [bitsGo_old r _ _ (by simp)]
      simp [List.getD_eq_getElem?_getD]
    · rw [bitsGo_old (p :: r) bs k (by omega)]
  | p :: r, bs, i + 1, o, h => by
    simp at h
    obtain ⟨pre, h1, h2, h3⟩ := bitsGo_at r (bs ++ [bitsRow bs p.after.toList]) i o h
    simp only [List.length_append, List.length_singleton] at h1 h2 h3
    refine ⟨pre, by omega, ?_, fun k hk => ?_⟩
    · simp only [bitsGo]
      rw [show bs.length + (i + 1) = bs.length + 1 + i by omega]
      exact h2
    · simp only [bitsGo]
      exact h3 k (by omega)
theorem bits_edge {ops : Array Oper} {i j : Nat} {o : Oper} (ho : ops[i]? = some o) (h : ((bitsOf ops).getD i 0).testBit j = true) : ∃ e ∈ o.after, Region.binds .any e = true ∧ (e.on = j ∨ ((bitsOf ops).getD e.on 0).testBit j = true) := by
  obtain ⟨pre, h1, h2, h3⟩ := bitsGo_at ops.toList [] i o (by simpa using ho)
  simp only [List.length_nil, Nat.zero_add] at h1 h2 h3
  unfold bitsOf at h
  rw [h2] at h
  obtain ⟨e, he, hb, hj⟩ := bitsRow_bit h
  refine ⟨e, by simpa using he, hb, hj.imp id (fun hj => ?_)⟩
  by_cases hk : e.on < i
  · rw [h3 _ hk] at hj; exact hj
  · rw [List.getD_eq_getElem?_getD, List.getElem?_eq_none (by omega)] at hj
    simp at hj
/-! ### States -/
def dstAt (ops : Array Oper) (i : Nat) : Option Nat := (ops[i]?).bind (·.dst)
def stt (ops : Array Oper) (D : Nat → Dl) (S0 : St) (X : Nat → Bool) : Nat → St
  | 0 => S0
  | m + 1 => if X m then (stt ops D S0 X m).ap (dstAt ops m) (D m) else stt ops D S0 X m
def keysOf (d : Dl) : List Loc := d.upd.map (·.1)
section
variable {ops : Array Oper} {D : Nat → Dl} {S0 : St} {X Y : Nat → Bool}
theorem ap_nt (S : St) (dst : Option Nat) (d : Dl) : (S.ap dst d).nt = S.nt := rfl
theorem ap_τ (S : St) (dst : Option Nat) (d : Dl) (t : Nat) : (S.ap dst d).τ t = if dst = some t ∧ t < S.nt then d.v else S.τ t := by
  cases dst with
  | none => simp [St.ap]
  | some i =>
    show (if i < S.nt then putT S.τ i d.v else S.τ) t = _
    by_cases hi : i < S.nt
    · rw [if_pos hi]
      unfold putT
      by_cases ht : t = i
      · subst ht; simp [hi]
      · rw [if_neg ht, if_neg (by rintro ⟨h, _⟩; injection h with h; exact ht h.symm)]
    · rw [if_neg hi, if_neg (by rintro ⟨h, h2⟩; injection h with h; exact hi (h ▸ h2))]
theorem updL_congr {l : Loc} : ∀ {u : List (Loc × Option O)} {σ σ' : Loc → Option O}, σ l = σ' l → updL σ u l = updL σ' u l
  | [], σ, σ', h => h
  | e :: r, σ, σ', h => updL_congr (u := r) (by show (if l = e.1 then e.2 else σ l) = if l = e.1 then e.2 else σ' l; rw [h])
theorem updL_indep {l : Loc} : ∀ {u : List (Loc × Option O)} {σ σ' : Loc → Option O}, l ∈ u.map (·.1) → updL σ u l = updL σ' u l
  | [], σ, σ', h => by simp at h
  | e :: r, σ, σ', h => by
    by_cases hr : l ∈ r.map (·.1)
    · exact updL_indep (u := r) hr
    · rcases List.mem_cons.1 h with h | h
      · refine updL_congr (u := r) ?_
        show (if l = e.1 then e.2 else σ l) = if l = e.1 then e.2 else σ' l
        rw [if_pos h, if_pos h]
      · exact absurd h hr
theorem ap_σ (S : St) (dst : Option Nat) (d : Dl) : (S.ap dst d).σ = updL S.σ d.upd := rfl
theorem ap_cnt (S : St) (dst : Option Nat) (d : Dl) (s : Nat) : (S.ap dst d).cnt s = if d.bump.contains s then S.cnt s + 1 else S.cnt s := rfl
theorem stt_nt : ∀ m, (stt ops D S0 X m).nt = S0.nt
  | 0 => rfl
  | m + 1 => by
    unfold stt
    split
    · rw [ap_nt]; exact stt_nt m
    · exact stt_nt m
theorem stt_τ {t : Nat} : ∀ m, (∀ j, j < m → dstAt ops j = some t → X j = Y j) → (stt ops D S0 X m).τ t = (stt ops D S0 Y m).τ t
  | 0, _ => rfl
  | m + 1, h => by
    have ih := stt_τ m (fun j hj => h j (by omega))
    unfold stt
    by_cases hd : dstAt ops m = some t
    · rw [← h m (by omega) hd]
      split
      · rw [ap_τ, ap_τ, stt_nt, stt_nt, ih]
      · exact ih
    · have e : ∀ Z, (if Z m = true then (stt ops D S0 Z m).ap (dstAt ops m) (D m) else stt ops D S0 Z m).τ t = (stt ops D S0 Z m).τ t := by
        intro Z
        split
        · rw [ap_τ, if_neg (fun hh => hd hh.1)]
        · rfl
      rw [e X, e Y]; exact ih
theorem stt_σ {l : Loc} : ∀ m, (∀ j, j < m → l ∈ keysOf (D j) → X j = Y j) → (stt ops D S0 X m).σ l = (stt ops D S0 Y m).σ l
  | 0, _ => rfl
  | m + 1, h => by
    have ih := stt_σ m (fun j hj => h j (by omega))
    unfold stt
    by_cases hd : l ∈ keysOf (D m)
    · rw [← h m (by omega) hd]
      split
      · rw [ap_σ, ap_σ]; exact updL_congr ih
      · exact ih
    · have e : ∀ Z, (if Z m = true then (stt ops D S0 Z m).ap (dstAt ops m) (D m) else stt ops D S0 Z m).σ l = (stt ops D S0 Z m).σ l := by
        intro Z
        split
        · rw [ap_σ, updL_not hd]
        · rfl
      rw [e X, e Y]; exact ih
theorem stt_cnt {s : Nat} : ∀ m, (∀ j, j < m → s ∈ (D j).bump → X j = Y j) → (stt ops D S0 X m).cnt s = (stt ops D S0 Y m).cnt s
  | 0, _ => rfl
  | m + 1, h => by
    have ih := stt_cnt m (fun j hj => h j (by omega))
    unfold stt
    by_cases hd : s ∈ (D m).bump
    · rw [← h m (by omega) hd]
      split
      · rw [ap_cnt, ap_cnt, ih]
      · exact ih
    · have e : ∀ Z, (if Z m = true then (stt ops D S0 Z m).ap (dstAt ops m) (D m) else stt ops D S0 Z m).cnt s = (stt ops D S0 Z m).cnt s := by
        intro Z
        split
        · rw [ap_cnt, if_neg (by simpa using hd)]
        · rfl
      rw [e X, e Y]; exact ih
theorem stt_eq {m : Nat} (h : ∀ j, j < m → X j = Y j) : stt ops D S0 X m = stt ops D S0 Y m := by
  induction m with
  | zero => rfl
  | succ m ih =>
    unfold stt
    rw [h m (by omega), ih (fun j hj => h j (by omega))]
/-- Only what is below i. -/
theorem stt_below {i : Nat} : ∀ m, i ≤ m → stt ops D S0 (fun j => decide (j < i)) m = stt ops D S0 (fun _ => true) i
  | 0, h => by
    have : i = 0 := by omega
    subst this; rfl
  | m + 1, h => by
    by_cases hi : i = m + 1
    · subst hi
      exact stt_eq (fun j hj => by simp [hj])
    · have hm := stt_below (i := i) m (by omega)
      show (if decide (m < i) = true then _ else _) = _
      have hn : ¬ (decide (m < i) = true) := by simp; omega
      rw [if_neg hn]
      exact hm
/-- One more, at a place where nothing later that is there touches what it does. -/
theorem stt_up {i n : Nat} (hi : i < n) (hX : X i = false)
    (h1 : ∀ j, i < j → j < n → X j = true → ∀ t, dstAt ops i = some t → dstAt ops j ≠ some t)
    (h2 : ∀ j, i < j → j < n → X j = true → ∀ l ∈ keysOf (D i), l ∉ keysOf (D j)) :
    (stt ops D S0 X n).ap (dstAt ops i) (D i) = stt ops D S0 (fun j => if j = i then true else X j) n := by
  have key : ∀ m, i < m → m ≤ n → (stt ops D S0 X m).ap (dstAt ops i) (D i) = stt ops D S0 (fun j => if j = i then true else X j) m := by
    intro m
    induction m with
    | zero => intro h; omega
    | succ m ih =>
      intro him hmn
      by_cases hm : i = m
      · subst hm
        show (if X i = true then _ else stt ops D S0 X i).ap _ _ = if (if i = i then true else X i) = true then _ else _
        rw [hX, if_neg (by simp), if_pos (by simp)]
        rw [stt_eq (Y := X) (X := fun j => if j = i then true else X j) (fun j hj => by simp [Nat.ne_of_lt hj])]
      · have ih := ih (by omega) (by omega)
        show (if X m = true then (stt ops D S0 X m).ap (dstAt ops m) (D m) else stt ops D S0 X m).ap (dstAt ops i) (D i) = if (if m = i then true else X m) = true then (stt ops D S0 _ m).ap (dstAt ops m) (D m) else stt ops D S0 _ m
        have hmi : (if m = i then true else X m) = X m := if_neg (fun e => hm e.symm)
        rw [← ih, hmi]
        by_cases hXm : X m = true
        · rw [if_pos hXm, if_pos hXm]
          generalize stt ops D S0 X m = S
          have a1 := h1 m (by omega) (by omega) hXm
          have a2 := h2 m (by omega) (by omega) hXm
          have eτ : ((S.ap (dstAt ops m) (D m)).ap (dstAt ops i) (D i)).τ = ((S.ap (dstAt ops i) (D i)).ap (dstAt ops m) (D m)).τ := by
            funext t
            simp only [ap_τ, ap_nt]
            by_cases c1 : dstAt ops i = some t ∧ t < S.nt
            · rw [if_pos c1, if_neg (fun c2 => a1 t c1.1 c2.1), if_pos c1]
            · rw [if_neg c1]
              by_cases c2 : dstAt ops m = some t ∧ t < S.nt
              · rw [if_pos c2, if_pos c2]
              · rw [if_neg c2, if_neg c2, if_neg c1]
          have eσ : ((S.ap (dstAt ops m) (D m)).ap (dstAt ops i) (D i)).σ = ((S.ap (dstAt ops i) (D i)).ap (dstAt ops m) (D m)).σ := by
            funext l
            simp only [ap_σ]
            by_cases c1 : l ∈ keysOf (D i)
            · rw [updL_not (u := (D m).upd) (a2 l c1)]
              exact updL_indep c1
            · rw [updL_not (u := (D i).upd) c1]
              exact updL_congr (updL_not c1).symm
          have ec : ((S.ap (dstAt ops m) (D m)).ap (dstAt ops i) (D i)).cnt = ((S.ap (dstAt ops i) (D i)).ap (dstAt ops m) (D m)).cnt := by
            funext s
            simp only [ap_cnt]
            by_cases c1 : (D i).bump.contains s = true <;> by_cases c2 : (D m).bump.contains s = true <;> simp only [c1, c2, if_true, if_false, Bool.false_eq_true]
          show St.mk _ _ _ _ = St.mk _ _ _ _
          simp only [St.mk.injEq]
          exact ⟨eτ, eσ, ec, rfl⟩
        · rw [if_neg hXm, if_neg hXm]
  exact key n hi (Nat.le_refl _)
end
theorem guardT_congr {ops : Array Oper} {S S' : St} {o : Oper} (h : ∀ t ∈ guardSlot ops o, S'.τ t = S.τ t) : guardT ops S' o = guardT ops S o := by
  unfold guardT
  unfold guardSlot at h
  cases hg : o.guard with
  | none => rfl
  | some p =>
    obtain ⟨j, want⟩ := p
    simp only [hg] at h ⊢
    cases hp : ops[j]? with
    | none => rfl
    | some q =>
      simp only [hp] at h ⊢
      cases hd : q.dst with
      | none => rfl
      | some t =>
        simp only
        rw [h t (by simp [hd])]
theorem opd_congr {S S' : St} : ∀ {xs : List Operand}, (∀ t ∈ tmpsOf xs, S'.τ t = S.τ t) → ∀ x ∈ xs, opd S' x = opd S x
  | [], h, x, hx => by simp at hx
  | y :: r, h, x, hx => by
    rcases List.mem_cons.1 hx with rfl | hx
    · cases x with
      | tmp t => exact h t (by simp [tmpsOf])
      | _ => rfl
    · refine opd_congr (xs := r) (fun t ht => h t ?_) x hx
      cases y <;> simp [tmpsOf, ht]
/-- What the evaluator has seen of a region of open order. -/
structure Seen (P : Program) (call : Nat → FuncId → List T → Option (T × List T)) (mv : FuncId → Bool) (id : Nat) (ops : Array Oper) (D : Nat → Dl) (S0 : St) (i : Nat) (o : Oper) : Prop where
  run : ∃ b, guardT ops (stt ops D S0 (fun _ => true) i) o = some b ∧ (b = true → evOp P (call (siteOf id i)) mv (siteOf id i) (stt ops D S0 (fun _ => true) i) o = some (D i)) ∧ (b = false → D i = ⟨.tup [], [], [], []⟩)
  log : ∀ j, j < i → ((bitsOf ops).getD i 0).testBit j = true ∨ indep (D j) (D i) = true
theorem stt_D {ops : Array Oper} {D D' : Nat → Dl} {S0 : St} {X : Nat → Bool} : ∀ m, (∀ j, j < m → D j = D' j) → stt ops D S0 X m = stt ops D' S0 X m
  | 0, _ => rfl
  | m + 1, h => by
    unfold stt
    rw [h m (by omega), stt_D m (fun j hj => h j (by omega))]
theorem indep_dead (d : Dl) : indep d ⟨.tup [], [], [], []⟩ = true := by
  simp [indep, apartL]
theorem evOpsD_seen {P : Program} {call : Nat → FuncId → List T → Option (T × List T)} {mv : FuncId → Bool} {id : Nat} {ops : Array Oper} {S0 S' : St} :
    ∀ (rest : List Oper) (i : Nat) (log : List (Nat × Dl)) (D0 : Nat → Dl), ops.toList.drop i = rest → (∀ j, j < i → (j, D0 j) ∈ log) → evOpsD P call mv id (bitsOf ops) ops i log rest (stt ops D0 S0 (fun _ => true) i) = some S' →
      ∃ D : Nat → Dl, (∀ j, j < i → D j = D0 j) ∧ (∀ k o, i ≤ k → ops[k]? = some o → Seen P call mv id ops D S0 k o) ∧ S' = stt ops D S0 (fun _ => true) (i + rest.length)
  | [], i, log, D0, hd, hlog, he => by
    simp only [evOpsD, Option.some.injEq] at he
    refine ⟨D0, fun _ _ => rfl, fun k o hk ho => ?_, by simpa using he.symm⟩
    have : ops.toList[k]? = none := by
      have h1 : ops.toList.length ≤ i := by
        have := congrArg List.length hd
        simp at this
        simpa using by omega
      exact List.getElem?_eq_none (by omega)
    simp at this
    rw [Array.getElem?_eq_none this] at ho
    simp at ho
  | o :: rest, i, log, D0, hd, hlog, he => by
    have ho : ops[i]? = some o := by
      have := congrArg (·[0]?) hd
      simpa [List.getElem?_drop] using this
    have hd' : ops.toList.drop (i + 1) = rest := by
      have := congrArg (List.drop 1) hd
      simpa [List.drop_drop, Nat.add_comm] using this
    have step : ∀ (d : Dl), (∃ b, guardT ops (stt ops D0 S0 (fun _ => true) i) o = some b ∧ (b = true → evOp P (call (siteOf id i)) mv (siteOf id i) (stt ops D0 S0 (fun _ => true) i) o = some d) ∧ (b = false → d = ⟨.tup [], [], [], []⟩)) →
        (∀ j, j < i → ((bitsOf ops).getD i 0).testBit j = true ∨ indep (D0 j) d = true) →
        evOpsD P call mv id (bitsOf ops) ops (i + 1) ((i, d) :: log) rest ((stt ops D0 S0 (fun _ => true) i).ap o.dst d) = some S' →
        ∃ D : Nat → Dl, (∀ j, j < i → D j = D0 j) ∧ (∀ k o, i ≤ k → ops[k]? = some o → Seen P call mv id ops D S0 k o) ∧ S' = stt ops D S0 (fun _ => true) (i + (o :: rest).length) := by
      intro d hrun hlg hev
      let D1 : Nat → Dl := fun j => if j = i then d else D0 j
      have hD1 : ∀ j, j < i → D1 j = D0 j := fun j hj => by simp [D1, Nat.ne_of_lt hj]
      have hst : stt ops D1 S0 (fun _ => true) (i + 1) = (stt ops D0 S0 (fun _ => true) i).ap o.dst d := by
        show (if true = true then _ else _) = _
        rw [if_pos rfl, stt_D i hD1]
        have h1 : dstAt ops i = o.dst := by simp [dstAt, ho]
        have h2 : D1 i = d := by simp [D1]
        rw [h1, h2]
      obtain ⟨D, e1, e2, e3⟩ := evOpsD_seen rest (i + 1) ((i, d) :: log) D1 hd' (fun j hj => by
        by_cases hji : j = i
        · subst hji; simp [D1]
        · have hlt : j < i := by omega
          rw [hD1 j hlt]
          exact List.mem_cons_of_mem _ (hlog j hlt)) (by rw [hst]; exact hev)
      have hDi : D i = d := by rw [e1 i (by omega)]; simp [D1]
      have hDlt : ∀ j, j < i → D j = D0 j := fun j hj => by rw [e1 j (by omega), hD1 j hj]
      refine ⟨D, hDlt, fun k q hk hq => ?_, by rw [e3]; congr 1; simp only [List.length_cons]; omega⟩
      by_cases hki : k = i
      · subst hki
        rw [ho] at hq
        injection hq with hq; subst hq
        refine ⟨?_, fun j hj => ?_⟩
        · rw [stt_D k hDlt, hDi]; exact hrun
        · rw [hDi, hDlt j hj]; exact hlg j hj
      · exact e2 k q (by omega) hq
    unfold evOpsD at he
    split at he
    · rename_i hg
      split at he
      · rename_i d hev
        split at he
        · rename_i hlg
          rw [List.all_eq_true] at hlg
          refine step d ⟨true, hg, fun _ => hev, fun h => by simp at h⟩ (fun j hj => ?_) he
          have := hlg _ (hlog j hj)
          simpa using this
        · simp at he
      · simp at he
    · rename_i hg
      exact step _ ⟨false, hg, fun h => by simp at h, fun _ => rfl⟩ (fun j hj => .inr (indep_dead _)) he
    · simp at he
section
variable {P : Program} {call : Nat → FuncId → List T → Option (T × List T)} {mv : FuncId → Bool} {id : Nat} {ops : Array Oper} {D : Nat → Dl} {S0 : St}
theorem okD_parts (h : okD (bitsOf ops) ops = true) {i : Nat} {o : Oper} (ho : ops[i]? = some o) :
    (∀ e ∈ o.after, Region.binds .any e = true → e.on < i) ∧ (∀ cs b, o.op ≠ .select cs b) ∧ ∀ t, o.dst = some t → ∀ j p, j ≠ i → ops[j]? = some p → t ∈ slotsOf ops p → inOrder (bitsOf ops) i j = true := by
  have hi : i < ops.size := (Array.getElem?_eq_some_iff.1 ho).1
  have h1 := List.all_eq_true.1 h i (List.mem_range.2 hi)
  rw [ho] at h1
  simp only [Bool.and_eq_true] at h1
  obtain ⟨⟨h1, h2⟩, h3⟩ := h1
  refine ⟨fun e he hb => ?_, fun cs b hs => ?_, fun t ht j p hji hp hsl => ?_⟩
  · have := List.all_eq_true.1 h1 e (by simpa using he)
    simpa [hb] using this
  · rw [hs] at h2; simp at h2
  · rw [ht] at h3
    have hj : j < ops.size := (Array.getElem?_eq_some_iff.1 hp).1
    have := List.all_eq_true.1 h3 j (List.mem_range.2 hj)
    simp only [hp, Bool.or_eq_true, decide_eq_true_eq, Bool.not_eq_true', List.contains_eq_mem, decide_eq_false_iff_not] at this
    rcases this with (h4 | h4) | h4
    · exact absurd h4 hji
    · exact h4
    · exact absurd hsl h4
/-- What is listed is closed. -/
def ClosedX (ops : Array Oper) (X : Nat → Bool) : Prop := ∀ i o, ops[i]? = some o → X i = true → ∀ e ∈ o.after, Region.binds .any e = true → X e.on = true
theorem bits_lt (h : okD (bitsOf ops) ops = true) : ∀ (i : Nat) (j : Nat), ((bitsOf ops).getD i 0).testBit j = true → i < ops.size → j < i := by
  intro i
  induction i using Nat.strongRecOn with
  | _ i ih =>
    intro j hb hi
    have ho : ops[i]? = some ops[i] := Array.getElem?_eq_getElem hi
    obtain ⟨e, he, hbn, hj⟩ := bits_edge ho hb
    have hlt := (okD_parts h ho).1 e he hbn
    rcases hj with rfl | hj
    · exact hlt
    · have := ih e.on hlt j hj (by omega)
      omega
theorem closed_bits (h : okD (bitsOf ops) ops = true) {X : Nat → Bool} (hX : ClosedX ops X) : ∀ (d : Nat) (i : Nat), ((bitsOf ops).getD d 0).testBit i = true → d < ops.size → X d = true → X i = true := by
  intro d
  induction d using Nat.strongRecOn with
  | _ d ih =>
    intro i hb hd hXd
    have ho : ops[d]? = some ops[d] := Array.getElem?_eq_getElem hd
    obtain ⟨e, he, hbn, hj⟩ := bits_edge ho hb
    have hlt := (okD_parts h ho).1 e he hbn
    have hXe := hX d _ ho hXd e he hbn
    rcases hj with rfl | hj
    · exact hXe
    · exact ih e.on hlt i hj (by omega) hXe
theorem apartL_spec {a b : List Loc} (h : apartL a b = true) {l : Loc} (ha : l ∈ a) : l ∉ b := by
  have := List.all_eq_true.1 h l ha
  simpa using this
theorem indep_spec {d e : Dl} (h : indep d e = true) : (∀ l ∈ keysOf d, l ∉ e.rd ∧ l ∉ keysOf e) ∧ (∀ l ∈ keysOf e, l ∉ d.rd) ∧ ∀ s ∈ d.bump, s ∉ e.bump := by
  simp only [indep, Bool.and_eq_true] at h
  obtain ⟨⟨h1, h2⟩, h3⟩ := h
  refine ⟨fun l hl => ?_, fun l hl => apartL_spec h2 hl, fun s hs => ?_⟩
  · have := apartL_spec h1 hl
    simp only [List.mem_append, not_or] at this
    exact this
  · have := List.all_eq_true.1 h3 s hs
    simpa using this
/-- One operation that may come up now. -/
theorem draw_step (hok : okD (bitsOf ops) ops = true) (hseen : ∀ k o, ops[k]? = some o → Seen P call mv id ops D S0 k o) {X : Nat → Bool} (hX : ClosedX ops X) (hXn : ∀ j, X j = true → j < ops.size) {i : Nat} {o : Oper} (ho : ops[i]? = some o) (hi : X i = false) (hedges : ∀ e ∈ o.after, Region.binds .any e = true → X e.on = true) :
    (∃ b, guardT ops (stt ops D S0 X ops.size) o = some b ∧ (b = true → evOp P (call (siteOf id i)) mv (siteOf id i) (stt ops D S0 X ops.size) o = some (D i)) ∧ (b = false → D i = ⟨.tup [], [], [], []⟩)) ∧
      (stt ops D S0 X ops.size).ap o.dst (D i) = stt ops D S0 (fun j => if j = i then true else X j) ops.size := by
  have hin : i < ops.size := (Array.getElem?_eq_some_iff.1 ho).1
  have hB : ∀ j, ((bitsOf ops).getD i 0).testBit j = true → X j = true := by
    intro j hb
    obtain ⟨e, he, hbn, hj⟩ := bits_edge ho hb
    have hXe := hedges e he hbn
    rcases hj with rfl | hj
    · exact hXe
    · exact closed_bits hok hX e.on j hj (hXn _ hXe) hXe
  -- in order: what is listed is what is earlier
  have hord : ∀ j, j < ops.size → inOrder (bitsOf ops) i j = true → X j = decide (j < i) := by
    intro j hj hio
    simp only [inOrder, Bool.or_eq_true] at hio
    rcases hio with hb | hb
    · rw [hB j hb]; simp [bits_lt hok i j hb hin]
    · have hlt := bits_lt hok j i hb hj
      cases hXj : X j with
      | false => simp; omega
      | true => rw [closed_bits hok hX j i hb hj hXj] at hi; simp at hi
  have hself : X i = decide (i < i) := by rw [hi]; simp
  have hunord : ∀ j, j < ops.size → j ≠ i → inOrder (bitsOf ops) i j = false → (j < i ∧ indep (D j) (D i) = true) ∨ (i < j ∧ indep (D i) (D j) = true) := by
    intro j hj hji hio
    simp only [inOrder, Bool.or_eq_false_iff] at hio
    by_cases hlt : j < i
    · have := (hseen i o ho).log j hlt
      rw [hio.1] at this
      exact .inl ⟨hlt, this.resolve_left (by simp)⟩
    · have hlt' : i < j := by omega
      have := (hseen j ops[j] (Array.getElem?_eq_getElem hj)).log i hlt'
      rw [hio.2] at this
      exact .inr ⟨hlt', this.resolve_left (by simp)⟩
  have hbelow := stt_below (ops := ops) (D := D) (S0 := S0) (i := i) ops.size (by omega)
  have aσ : ∀ l, l ∈ (D i).rd → (stt ops D S0 X ops.size).σ l = (stt ops D S0 (fun _ => true) i).σ l := by
    intro l hl
    rw [← hbelow]
    refine stt_σ ops.size (fun j hj hk => ?_)
    by_cases hji : j = i
    · subst hji; exact hself
    · cases hio : inOrder (bitsOf ops) i j with
      | true => exact hord j hj hio
      | false =>
        rcases hunord j hj hji hio with ⟨_, h1⟩ | ⟨_, h1⟩
        · exact absurd hl ((indep_spec h1).1 l hk).1
        · exact absurd hl ((indep_spec h1).2.1 l hk)
  have ac : ∀ s, s ∈ (D i).bump → (stt ops D S0 X ops.size).cnt s = (stt ops D S0 (fun _ => true) i).cnt s := by
    intro s hs
    rw [← hbelow]
    refine stt_cnt ops.size (fun j hj hk => ?_)
    by_cases hji : j = i
    · subst hji; exact hself
    · cases hio : inOrder (bitsOf ops) i j with
      | true => exact hord j hj hio
      | false =>
        rcases hunord j hj hji hio with ⟨_, h1⟩ | ⟨_, h1⟩
        · exact absurd hs ((indep_spec h1).2.2 s hk)
        · exact absurd hk ((indep_spec h1).2.2 s hs)
  have aτ : ∀ t, t ∈ slotsOf ops o → (stt ops D S0 X ops.size).τ t = (stt ops D S0 (fun _ => true) i).τ t := by
    intro t ht
    rw [← hbelow]
    refine stt_τ ops.size (fun j hj hk => ?_)
    by_cases hji : j = i
    · subst hji; exact hself
    · have hoj : ops[j]? = some ops[j] := Array.getElem?_eq_getElem hj
      have hdj : ops[j].dst = some t := by simpa [dstAt, hoj] using hk
      have := (okD_parts hok hoj).2.2 t hdj i o (fun e => hji e.symm) ho ht
      refine hord j hj ?_
      simp only [inOrder, Bool.or_eq_true] at this ⊢
      exact this.symm
  have hdst : dstAt ops i = o.dst := by simp [dstAt, ho]
  refine ⟨?_, ?_⟩
  · obtain ⟨b, hg, h1, h2⟩ := (hseen i o ho).run
    refine ⟨b, ?_, fun hb => ?_, h2⟩
    · rw [← hg]
      exact guardT_congr (fun t ht => aτ t (List.mem_append_left _ (List.mem_append_right _ ht)))
    · have hev := evOp_mem (σ' := (stt ops D S0 X ops.size).σ) (cnt' := (stt ops D S0 X ops.size).cnt) (h1 hb) aσ ac
      rw [← hev]
      have hnt : (stt ops D S0 X ops.size).nt = (stt ops D S0 (fun _ => true) i).nt := by rw [stt_nt, stt_nt]
      have hS : stt ops D S0 X ops.size = { ({ (stt ops D S0 (fun _ => true) i) with σ := (stt ops D S0 X ops.size).σ, cnt := (stt ops D S0 X ops.size).cnt } : St) with τ := (stt ops D S0 X ops.size).τ } := by
        show _ = St.mk _ _ _ _
        rw [← hnt]
      have hsl := evOp_slots (P := P) (call := call (siteOf id i)) (mv := mv) (site := siteOf id i) (S := { (stt ops D S0 (fun _ => true) i) with σ := (stt ops D S0 X ops.size).σ, cnt := (stt ops D S0 X ops.size).cnt }) (τ' := (stt ops D S0 X ops.size).τ) (okD_parts hok ho).2.1 (fun x hx => by
        refine opd_congr (xs := o.op.operands.toList) (fun t ht => aτ t (List.mem_append_left _ (List.mem_append_left _ ht))) x (by simpa using hx))
      rw [← hsl, ← hS]
  · rw [← hdst]
    refine stt_up hin hi (fun j hij hj hXj t hdi hdj => ?_) (fun j hij hj hXj l hli hlj => ?_)
    · have hoj : ops[j]? = some ops[j] := Array.getElem?_eq_getElem hj
      have hdo : o.dst = some t := by rw [← hdst]; exact hdi
      have hsl : t ∈ slotsOf ops ops[j] := List.mem_append_right _ (by
        have : ops[j].dst = some t := by simpa [dstAt, hoj] using hdj
        simp [this])
      have := (okD_parts hok ho).2.2 t hdo j _ (by omega) hoj hsl
      have h1 := hord j hj this
      rw [hXj] at h1
      simp at h1
      omega
    · cases hio : inOrder (bitsOf ops) i j with
      | true =>
        have h1 := hord j hj hio
        rw [hXj] at h1
        simp at h1
        omega
      | false =>
        rcases hunord j hj (by omega) hio with ⟨h0, _⟩ | ⟨_, h1⟩
        · omega
        · exact ((indep_spec h1).1 l hli).2 hlj
/-- How many are not listed. -/
def openX (X : Nat → Bool) (n : Nat) : Nat := (List.range n).countP (fun j => !X j)
theorem countP_up {X : Nat → Bool} {i : Nat} (hi : X i = false) : ∀ (l : List Nat), i ∈ l → l.countP (fun j => !(if j = i then true else X j)) < l.countP (fun j => !X j) := by
  have hle : ∀ l : List Nat, l.countP (fun j => !(if j = i then true else X j)) ≤ l.countP (fun j => !X j) := fun l => List.countP_mono_left (fun j _ h => by
    by_cases hj : j = i
    · subst hj; simp at h
    · simpa [hj] using h)
  intro l
  induction l with
  | nil => intro h; simp at h
  | cons x r ih =>
    intro h
    simp only [List.countP_cons]
    by_cases hx : x = i
    · subst hx
      have := hle r
      simp [hi]
      simp at this
      omega
    · have := ih (by simpa [Ne.symm hx] using h)
      simp only [hx, if_false] at this ⊢
      omega
theorem any_ok {C0 : Ctx} {B : Base} {Q : Exit → Act → World → Prop} {S' : St} (hC : ∀ s, Known P (call s)) (hok : okD (bitsOf ops) ops = true) (hseen : ∀ k o, ops[k]? = some o → Seen P call mv id ops D S0 k o) (hS' : S' = stt ops D S0 (fun _ => true) ops.size) (hQ : ∀ a' w', Hold C0 B S' a' w' → Q .normal a' w') :
    ∀ (fuel : Nat) (listed : Array Bool) (a : Act) (w : World), listed.size = ops.size → ClosedX ops (fun j => listed.getD j false) → openX (fun j => listed.getD j false) ops.size ≤ fuel → Hold C0 B (stt ops D S0 (fun j => listed.getD j false) ops.size) a w → wpAny P .any ops Q fuel listed a w := by
  have done : ∀ (listed : Array Bool) (a : Act) (w : World), (∀ j, j < ops.size → listed.getD j false = true) → Hold C0 B (stt ops D S0 (fun j => listed.getD j false) ops.size) a w → Q .normal a w := by
    intro listed a w hall hh
    refine hQ a w ?_
    rw [hS', ← stt_eq (X := fun j => listed.getD j false) (fun j hj => hall j hj)]
    exact hh
  have full : ∀ (listed : Array Bool), listed.size = ops.size → Region.ready .any ops listed = [] → ∀ j, j < ops.size → listed.getD j false = true := by
    intro listed hsz hr j
    induction j using Nat.strongRecOn with
    | _ j ih =>
      intro hj
      cases hX : listed.getD j false with
      | true => rfl
      | false =>
        exfalso
        have : j ∈ Region.ready .any ops listed := mem_ready.2 ⟨by
          rw [Array.getD_eq_getD_getElem?] at hX ⊢
          have hl : listed[j]? = some listed[j] := Array.getElem?_eq_getElem (by omega)
          rw [hl] at hX ⊢
          exact hX, ops[j], Array.getElem?_eq_getElem hj, fun e he hb => by
          have hlt := (okD_parts hok (Array.getElem?_eq_getElem hj)).1 e he hb
          exact ih e.on hlt (by omega)⟩
        rw [hr] at this
        simp at this
  intro fuel
  induction fuel with
  | zero =>
    intro listed a w hsz hcl hop hh
    have hall : ∀ j, j < ops.size → listed.getD j false = true := by
      intro j hj
      have h0 : openX (fun j => listed.getD j false) ops.size = 0 := by omega
      have := List.countP_eq_zero.1 h0 j (List.mem_range.2 hj)
      simpa using this
    refine ⟨?_, done listed a w hall hh⟩
    apply List.eq_nil_iff_forall_not_mem.2
    intro j hj
    obtain ⟨h1, o, ho, _⟩ := mem_ready.1 hj
    have hlt := (Array.getElem?_eq_some_iff.1 ho).1
    have h2 := hall j hlt
    rw [Array.getD_eq_getD_getElem?] at h1 h2
    have hl : listed[j]? = some listed[j] := Array.getElem?_eq_getElem (by omega)
    rw [hl] at h1 h2
    simp at h1 h2
    rw [h1] at h2
    simp at h2
  | succ fuel ih =>
    intro listed a w hsz hcl hop hh
    refine ⟨fun hr => done listed a w (full listed hsz hr) hh, fun i hi => ?_⟩
    obtain ⟨h1, o, ho, hedges⟩ := mem_ready.1 hi
    have hin : i < ops.size := (Array.getElem?_eq_some_iff.1 ho).1
    have hXi : listed.getD i false = false := by
      rw [Array.getD_eq_getD_getElem?] at h1 ⊢
      have hl : listed[i]? = some listed[i] := Array.getElem?_eq_getElem (by omega)
      rw [hl] at h1 ⊢
      exact h1
    have hXn : ∀ j, listed.getD j false = true → j < ops.size := by
      intro j hj
      rcases Nat.lt_or_ge j listed.size with h | h
      · omega
      · rw [Array.getD_eq_getD_getElem?, Array.getElem?_eq_none h] at hj; simp at hj
    obtain ⟨⟨b, hg, hev, hdead⟩, hap⟩ := draw_step hok hseen hcl hXn ho hXi hedges
    have hX' : (fun j => (listed.setIfInBounds i true).getD j false) = fun j => if j = i then true else listed.getD j false := by
      funext j
      by_cases hj : j = i
      · subst hj
        rw [if_pos rfl, Array.getD_eq_getD_getElem?, Array.getElem?_setIfInBounds_self_of_lt (by omega)]
        rfl
      · rw [if_neg hj]; exact getD_set_ne false (fun e => hj e.symm)
    have next : ∀ a' w', Hold C0 B ((stt ops D S0 (fun j => listed.getD j false) ops.size).ap o.dst (D i)) a' w' → wpAny P .any ops Q fuel (listed.setIfInBounds i true) a' w' := by
      intro a' w' hh'
      refine ih _ a' w' (by simpa using hsz) ?_ ?_ ?_
      · rw [hX']
        intro k p hp hk e he hb
        by_cases hke : e.on = i
        · simp [hke]
        · simp only [hke, if_false]
          by_cases hki : k = i
          · subst hki
            rw [ho] at hp
            injection hp with hp; subst hp
            exact hedges e he hb
          · simp only [hki, if_false] at hk
            exact hcl k p hp hk e he hb
      · rw [hX']
        have := countP_up (X := fun j => listed.getD j false) hXi (List.range ops.size) (List.mem_range.2 hin)
        exact Nat.le_of_lt_succ (Nat.lt_of_lt_of_le this hop)
      · rw [hX', ← hap]; exact hh'
    have hh2 := hh
    obtain ⟨inj, k1, k2, k3⟩ := hh2
    have hw := guard_ok k2 hg
    unfold wpOp
    rw [ho]
    simp only [hw]
    cases b with
    | true =>
      rw [if_pos rfl]
      exact .inl (op_ok (hC _) k1 k2 (hev rfl) (fun v w' hst => next _ _ (hold_ap hh k1 k2 k3 hst)))
    | false =>
      rw [if_neg (by simp)]
      refine next _ _ ?_
      rw [hdead rfl]
      exact hold_skip hh o.dst
end
theorem hold_drew {C0 : Ctx} {B : Base} {S : St} {a : Act} {w : World} (h : Hold C0 B S a w) : Hold C0 B S a { w with drawn := w.drawn + 1 } := by
  obtain ⟨inj, h1, h2, h3⟩ := h
  have le := next_le (B := B) (w := w) (w' := { w with drawn := w.drawn + 1 }) (inj := inj) (inj' := inj) (σ := S.σ) (σ' := S.σ) (cnt := S.cnt) (cnt' := S.cnt) (Fr.drew _ w) (fun _ => Nat.le_refl _) (fun l o' hl => .inl ⟨l, o', hl, rfl⟩) (fun l o' _ hl => ⟨o', hl, rfl, O.like_refl _, fun _ _ _ _ cells e hc => ⟨cells, hc, rfl⟩⟩)
  exact ⟨inj, h1.next (Fr.drew _ w) (fun _ => Nat.le_refl _) (fun l o' hl => .inl ⟨l, o', hl, rfl⟩) (fun l o' hl => h1.lt l o' hl) h1.uniq (fun l o' hl => h1.fresh l o' hl) (fun l o' hl => (h1.obj l o' hl).mono le rfl), ⟨h2.size, h2.defers, fun i => (h2.rep i).mono le, h2.glob.le le⟩, h3.trans le⟩
/-- Regions of open order are sound. -/
theorem draw_ok {P : Program} (hm : P.follows .mixedOrders = true) {call : Nat → FuncId → List T → Option (T × List T)} (hC : ∀ s, Known P (call s)) (mv : FuncId → Bool) : DrawOk P call mv bitsOf := by
  intro id ops C0 B S S' a w Q hok he hh hQ
  obtain ⟨D, _, hseen, hS'⟩ := evOpsD_seen (S0 := S) ops.toList 0 [] (fun _ => default) rfl (fun j hj => by omega) he
  simp only [Nat.zero_add, Array.length_toList] at hS'
  refine wp_region_any hm (any_ok hC hok (fun k o ho => hseen k o (Nat.zero_le _) ho) hS' hQ ops.size _ a _ (by simp) ?_ ?_ ?_)
  · intro i o ho hi
    have hlt := (Array.getElem?_eq_some_iff.1 ho).1
    simp [hlt] at hi
  · unfold openX
    exact Nat.le_trans List.countP_le_length (by simp)
  · have e : stt ops D S (fun j => (Array.replicate ops.size false).getD j false) ops.size = S := by
      have : ∀ m, m ≤ ops.size → stt ops D S (fun j => (Array.replicate ops.size false).getD j false) m = S := by
        intro m
        induction m with
        | zero => intro _; rfl
        | succ m ih =>
          intro hm
          show (if (Array.replicate ops.size false).getD m false = true then _ else _) = _
          have hf : (Array.replicate ops.size false).getD m false = false := by
            rw [Array.getD_eq_getD_getElem?, Array.getElem?_replicate]
            split <;> rfl
          rw [hf, if_neg (by simp)]
          exact ih (by omega)
      exact this _ (Nat.le_refl _)
    rw [e]
    exact hold_drew hh
end Go.Proofs.YthcaodlfnlhfbaaDoorT
