/- The interpreter over trees: an operation looks only at its operands, at the keys that it reads, at the counts of what it makes. -/
import Derived.Test.YthcaodlfnlhfbaaDoorT16
namespace Go.Proofs.YthcaodlfnlhfbaaDoorT
open Go Go.RowKit
set_option linter.unusedVariables false

section
variable {P : Program} {σ σ' : Loc → Option O}
mutual
theorem frz_loc : ∀ (t t' : T) (r : List Loc), frz σ t = some (t', r) → (∀ l ∈ r, σ' l = σ l) → frz σ' t = some (t', r)
  | .s u, t', r, h, ha => by
    have e : frz σ' (.s u) = frz σ (.s u) := by
      unfold frz
      split <;> simp_all
    rw [e]; exact h
  | .agg cs, t', r, h, ha => by
    unfold frz at h ⊢
    split at h
    · rename_i cs' r' he
      injection h with h; injection h with e1 e2; subst e1; subst e2
      rw [frzL_loc cs cs' r' he ha]
    · simp at h
  | .own l, t', r, h, ha => by
    unfold frz at h ⊢
    split at h
    · rename_i e sz xs hl
      injection h with h; injection h with e1 e2; subst e1; subst e2
      rw [ha l (List.mem_singleton.2 rfl), hl]
    · simp at h
  | .sl sz xs, t', r, h, ha => by unfold frz at h ⊢; exact h
  | .ifc t x, t', r, h, ha => by unfold frz at h ⊢; exact h
  | .ep cs, t', r, h, ha => by unfold frz at h ⊢; exact h
  | .tup _, t', r, h, ha => by simp [frz] at h
  | .ptr _ _, t', r, h, ha => by simp [frz] at h
  | .eptr _ _ _ _, t', r, h, ha => by simp [frz] at h
  | .fn _ _ _, t', r, h, ha => by simp [frz] at h
  | .it _, t', r, h, ha => by simp [frz] at h
  | .cown _ _ _, t', r, h, ha => by simp [frz] at h
  | .cbox _ _, t', r, h, ha => by simp [frz] at h
  | .dead, t', r, h, ha => by simp [frz] at h
theorem frzL_loc : ∀ (cs cs' : List T) (r : List Loc), frzL σ cs = some (cs', r) → (∀ l ∈ r, σ' l = σ l) → frzL σ' cs = some (cs', r)
  | [], cs', r, h, ha => by unfold frzL at h ⊢; exact h
  | x :: cs, cs', r, h, ha => by
    unfold frzL at h ⊢
    split at h
    · rename_i x' a r' b he1 he2
      injection h with h; injection h with e1 e2; subst e1; subst e2
      rw [frz_loc x x' a he1 (fun l hl => ha l (List.mem_append_left _ hl)), frzL_loc cs r' b he2 (fun l hl => ha l (List.mem_append_right _ hl))]
    · simp at h
end
def RecLoc (σ σ' : Loc → Option O) (rec rec' : List T → Option (List T × List Loc)) : Prop := ∀ (cs cs' : List T) (m : List Loc), rec cs = some (cs', m) → (∀ l ∈ m, σ' l = σ l) → rec' cs = some (cs', m)
mutual
theorem clsT_loc {rec rec' : List T → Option (List T × List Loc)} (hrec : RecLoc σ σ' rec rec') : ∀ (t t' : T) (m : List Loc), clsT σ rec t = some (t', m) → (∀ l ∈ m, σ' l = σ l) → clsT σ' rec' t = some (t', m)
  | .s u, t', m, h, ha => by unfold clsT at h ⊢; exact h
  | .agg cs, t', m, h, ha => by
    unfold clsT at h ⊢
    split at h
    · rename_i cs' m' he
      injection h with h; injection h with e1 e2; subst e1; subst e2
      rw [clsTL_loc hrec cs cs' m' he ha]
    · simp at h
  | .tup cs, t', m, h, ha => by
    unfold clsT at h ⊢
    split at h
    · rename_i cs' m' he
      injection h with h; injection h with e1 e2; subst e1; subst e2
      rw [clsTL_loc hrec cs cs' m' he ha]
    · simp at h
  | .fn f fs cs, t', m, h, ha => by
    unfold clsT at h ⊢
    split at h
    · rename_i fs' a cs' b he1 he2
      injection h with h; injection h with e1 e2; subst e1; subst e2
      rw [clsTL_loc hrec fs fs' a he1 (fun l hl => ha l (List.mem_append_left _ hl)), clsTL_loc hrec cs cs' b he2 (fun l hl => ha l (List.mem_append_right _ hl))]
    · simp at h
  | .own l, t', m, h, ha => by
    unfold clsT at h ⊢
    split at h
    · rename_i e sz xs hl
      injection h with h; injection h with e1 e2; subst e1; subst e2
      rw [ha l (List.mem_singleton.2 rfl), hl]
    · simp at h
  | .ptr l off, t', m, h, ha => by
    unfold clsT at h ⊢
    split at h
    · rename_i ho
      rw [if_pos ho]
      split at h
      · rename_i ty cs hl
        split at h
        · rename_i cs' m' he
          injection h with h; injection h with e1 e2; subst e1; subst e2
          rw [ha l (List.mem_cons_self ..), hl]
          simp only [hrec cs cs' m' he (fun l' hl' => ha l' (List.mem_cons_of_mem _ hl'))]
        · simp at h
      · simp at h
    · simp at h
  | .sl sz xs, t', m, h, ha => by unfold clsT at h ⊢; exact h
  | .ifc t x, t', m, h, ha => by unfold clsT at h ⊢; exact h
  | .ep cs, t', m, h, ha => by unfold clsT at h ⊢; exact h
  | .eptr _ _ _ _, t', m, h, ha => by simp [clsT] at h
  | .it _, t', m, h, ha => by simp [clsT] at h
  | .cown _ _ _, t', m, h, ha => by simp [clsT] at h
  | .cbox _ _, t', m, h, ha => by simp [clsT] at h
  | .dead, t', m, h, ha => by simp [clsT] at h
theorem clsTL_loc {rec rec' : List T → Option (List T × List Loc)} (hrec : RecLoc σ σ' rec rec') : ∀ (cs cs' : List T) (m : List Loc), clsTL σ rec cs = some (cs', m) → (∀ l ∈ m, σ' l = σ l) → clsTL σ' rec' cs = some (cs', m)
  | [], cs', m, h, ha => by unfold clsTL at h ⊢; exact h
  | x :: cs, cs', m, h, ha => by
    unfold clsTL at h ⊢
    split at h
    · rename_i x' a r' b he1 he2
      injection h with h; injection h with e1 e2; subst e1; subst e2
      rw [clsT_loc hrec x x' a he1 (fun l hl => ha l (List.mem_append_left _ hl)), clsTL_loc hrec cs r' b he2 (fun l hl => ha l (List.mem_append_right _ hl))]
    · simp at h
end
theorem clsL_loc : ∀ d, RecLoc σ σ' (clsL σ d) (clsL σ' d)
  | 0 => fun cs cs' m h ha => by
    unfold clsL at h ⊢
    exact clsTL_loc (fun _ _ _ hh => by simp at hh) cs cs' m h ha
  | d + 1 => fun cs cs' m h ha => by
    unfold clsL at h ⊢
    exact clsTL_loc (clsL_loc d) cs cs' m h ha
theorem cls_loc (t t' : T) (m : List Loc) (h : cls σ t = some (t', m)) (ha : ∀ l ∈ m, σ' l = σ l) : cls σ' t = some (t', m) := clsT_loc (clsL_loc 4) t t' m h ha
theorem argC_loc {mv : Bool} {t t' : T} {m r : List Loc} (h : argC σ mv t = some (t', m, r)) (ha : ∀ l ∈ m ++ r, σ' l = σ l) : argC σ' mv t = some (t', m, r) := by
  have viaC : ∀ t, (match cls σ t with | some (t, m) => some (t, m, []) | none => none) = some (t', m, r) → (match cls σ' t with | some (t, m) => some (t, m, []) | none => none) = some (t', m, r) := by
    intro t h
    split at h
    · rename_i t1 m1 he
      injection h with h; injection h with e1 e2; injection e2 with e2 e3; subst e1; subst e2; subst e3
      rw [cls_loc _ _ _ he (fun l hl => ha l (List.mem_append_left _ hl))]
    · simp at h
  have viaF : ∀ t, (match frz σ t with | some (t, r) => some (t, [], r) | none => none) = some (t', m, r) → (match frz σ' t with | some (t, r) => some (t, [], r) | none => none) = some (t', m, r) := by
    intro t h
    split at h
    · rename_i t1 m1 he
      injection h with h; injection h with e1 e2; injection e2 with e2 e3; subst e1; subst e2; subst e3
      rw [frz_loc _ _ _ he (fun l hl => ha l (List.mem_append_right _ hl))]
    · simp at h
  unfold argC at h ⊢
  split at h
  · exact viaC _ h
  · exact viaC _ h
  · split at h
    · rename_i hmv; simp only [hmv, if_true]; exact viaC _ h
    · rename_i hmv; simp only [hmv, if_false]; exact viaF _ h
  · exact viaF _ h
theorem argCL_loc {mv : Bool} : ∀ (ts ts' : List T) (m r : List Loc), argCL σ mv ts = some (ts', m, r) → (∀ l ∈ m ++ r, σ' l = σ l) → argCL σ' mv ts = some (ts', m, r)
  | [], ts', m, r, h, ha => by unfold argCL at h ⊢; exact h
  | x :: ts, ts', m, r, h, ha => by
    unfold argCL at h ⊢
    split at h
    · rename_i x' m1 a1 r' m2 a2 he1 he2
      injection h with h; injection h with e1 e2; injection e2 with e2 e3; subst e1; subst e2; subst e3
      rw [argC_loc he1 (fun l hl => ha l (by simp only [List.mem_append] at hl ⊢; rcases hl with hl | hl <;> simp [hl])), argCL_loc ts r' m2 a2 he2 (fun l hl => ha l (by simp only [List.mem_append] at hl ⊢; rcases hl with hl | hl <;> simp [hl]))]
    · simp at h
theorem srcOf_loc {sz : Nat} {x : T} {ys : List T} {r : List Loc} (h : srcOf σ sz x = some (ys, r)) (ha : ∀ l ∈ r, σ' l = σ l) : srcOf σ' sz x = some (ys, r) := by
  unfold srcOf at h ⊢
  split at h
  · exact h
  · rename_i l
    split at h
    · rename_i e sz' ys' hl
      split at h
      · rename_i hc
        injection h with h; injection h with e1 e2; subst e1; subst e2
        simp only [ha l (List.mem_singleton.2 rfl), hl, if_pos hc]
      · simp at h
    · simp at h
  · exact h
  · simp at h
/-! ### New keys -/
variable {key key' : Nat → Loc}
mutual
theorem opn_le : ∀ (t : T) (i : Nat), i ≤ (opn key i t).2.1
    | .cown e sz xs, i => Nat.le_succ i
    | .cbox ty cs, i => Nat.le_trans (Nat.le_succ i) (opnL_le cs (i + 1))
    | .agg cs, i => opnL_le cs i
    | .tup cs, i => opnL_le cs i
    | .fn f fs cs, i => Nat.le_trans (opnL_le fs i) (opnL_le cs _)
    | .s _, i => Nat.le_refl i
    | .ifc _ _, i => Nat.le_refl i
    | .sl _ _, i => Nat.le_refl i
    | .own _, i => Nat.le_refl i
    | .ptr _ _, i => Nat.le_refl i
    | .ep _, i => Nat.le_refl i
    | .eptr _ _ _ _, i => Nat.le_refl i
    | .it _, i => Nat.le_refl i
    | .dead, i => Nat.le_refl i
theorem opnL_le : ∀ (ts : List T) (i : Nat), i ≤ (opnL key i ts).2.1
    | [], i => Nat.le_refl i
    | x :: r, i => Nat.le_trans (opn_le x i) (opnL_le r _)
end
mutual
theorem opn_loc : ∀ (t : T) (i : Nat), (∀ n, i ≤ n → n < (opn key i t).2.1 → key' n = key n) → opn key' i t = opn key i t
  | .cown e sz xs, i, h => by
    have := h i (Nat.le_refl _) (Nat.lt_succ_self i)
    simp only [opn, this]
  | .cbox ty cs, i, h => by
    have hle := opnL_le (key := key) cs (i + 1)
    have h1 := h i (Nat.le_refl _) hle
    have h2 := opnL_loc cs (i + 1) (fun n hn hlt => h n (by omega) hlt)
    simp only [opn, h1, h2]
  | .agg cs, i, h => by
    have h2 := opnL_loc cs i (fun n hn hlt => h n hn hlt)
    simp only [opn, h2]
  | .tup cs, i, h => by
    have h2 := opnL_loc cs i (fun n hn hlt => h n hn hlt)
    simp only [opn, h2]
  | .fn f fs cs, i, h => by
    have l1 := opnL_le (key := key) fs i
    have l2 := opnL_le (key := key) cs (opnL key i fs).2.1
    have h1 := opnL_loc fs i (fun n hn hlt => h n hn (Nat.lt_of_lt_of_le hlt l2))
    have h2 := opnL_loc cs (opnL key i fs).2.1 (fun n hn hlt => h n (Nat.le_trans l1 hn) hlt)
    simp only [opn, h1, h2]
  | .s _, i, h => rfl
  | .ifc _ _, i, h => rfl
  | .sl _ _, i, h => rfl
  | .own _, i, h => rfl
  | .ptr _ _, i, h => rfl
  | .ep _, i, h => rfl
  | .eptr _ _ _ _, i, h => rfl
  | .it _, i, h => rfl
  | .dead, i, h => rfl
theorem opnL_loc : ∀ (ts : List T) (i : Nat), (∀ n, i ≤ n → n < (opnL key i ts).2.1 → key' n = key n) → opnL key' i ts = opnL key i ts
  | [], i, h => rfl
  | x :: r, i, h => by
    have l1 := opn_le (key := key) x i
    have l2 := opnL_le (key := key) r (opn key i x).2.1
    have h1 := opn_loc x i (fun n hn hlt => h n hn (Nat.lt_of_lt_of_le hlt l2))
    have h2 := opnL_loc r (opn key i x).2.1 (fun n hn hlt => h n (Nat.le_trans l1 hn) hlt)
    simp only [opnL, h1, h2]
end
theorem opn_loc' {t t' : T} {i j : Nat} {u : List (Loc × O)} (h : opn key i t = (t', j, u)) (ha : ∀ n, i ≤ n → n < j → key' n = key n) : opn key' i t = (t', j, u) := by
  rw [opn_loc t i (by rw [h]; exact ha), h]
theorem opnL_loc' {t t' : List T} {i j : Nat} {u : List (Loc × O)} (h : opnL key i t = (t', j, u)) (ha : ∀ n, i ≤ n → n < j → key' n = key n) : opnL key' i t = (t', j, u) := by
  rw [opnL_loc t i (by rw [h]; exact ha), h]
theorem backC_le : ∀ (cs cs' : List T) (i j : Nat) (u : List (Loc × O)), backC key i cs cs' = some (j, u) → i ≤ j := by
  intro cs
  induction cs with
  | nil =>
    intro cs' i j u hb
    cases cs' with
    | nil => simp [backC] at hb; omega
    | cons => simp [backC] at hb
  | cons x r ih =>
    intro cs' i j u hb
    unfold backC at hb
    split at hb
    · rename_i e1; simp at e1
    · rename_i l off r0 ty cs1 r' e1
      injection e1 with e1 e2
      subst e1; subst e2
      cases hc : opnL key i cs1 with
      | mk cs2 q =>
        obtain ⟨j1, u1⟩ := q
        rw [hc] at hb
        simp only at hb
        cases hb2 : backC key j1 r r' with
        | none => rw [hb2] at hb; simp at hb
        | some q2 =>
          obtain ⟨k, u2⟩ := q2
          rw [hb2] at hb
          simp only [Option.some.injEq, Prod.mk.injEq] at hb
          obtain ⟨rfl, rfl⟩ := hb
          have := opnL_le (key := key) cs1 i
          rw [hc] at this
          exact Nat.le_trans this (ih r' j1 k u2 hb2)
    · simp at hb
    · rename_i x0 r0 y0 r' hov hne e1
      injection e1 with e1 e2
      subst e1; subst e2
      exact ih r' i j u hb
    · simp at hb
theorem backC_loc : ∀ (cs cs' : List T) (i j : Nat) (u : List (Loc × O)), backC key i cs cs' = some (j, u) → (∀ n, i ≤ n → n < j → key' n = key n) → backC key' i cs cs' = some (j, u) := by
  intro cs
  induction cs with
  | nil =>
    intro cs' i j u hb ha
    cases cs' with
    | nil => exact hb
    | cons => simp [backC] at hb
  | cons x r ih =>
    intro cs' i j u hb ha
    unfold backC at hb
    split at hb
    · rename_i e1; simp at e1
    · rename_i l off r0 ty cs1 r' e1
      injection e1 with e1 e2
      subst e1; subst e2
      cases hc : opnL key i cs1 with
      | mk cs2 q =>
        obtain ⟨j1, u1⟩ := q
        rw [hc] at hb
        simp only at hb
        cases hb2 : backC key j1 r r' with
        | none => rw [hb2] at hb; simp at hb
        | some q2 =>
          obtain ⟨k, u2⟩ := q2
          rw [hb2] at hb
          simp only [Option.some.injEq, Prod.mk.injEq] at hb
          obtain ⟨rfl, rfl⟩ := hb
          have l1 := opnL_le (key := key) cs1 i
          rw [hc] at l1
          have l2 := backC_le r r' j1 k u2 hb2
          have h1 := opnL_loc' hc (fun n hn hlt => ha n hn (Nat.lt_of_lt_of_le hlt l2))
          have h2 := ih r' j1 k u2 hb2 (fun n hn hlt => ha n (Nat.le_trans l1 hn) hlt)
          simp only [backC, h1, h2]
    · simp at hb
    · rename_i x0 r0 y0 r' hov hne e1
      injection e1 with e1 e2
      subst e1; subst e2
      have h2 := ih r' i j u hb ha
      cases x <;> first | exact absurd rfl (hne _ _) | simp only [backC, h2]
    · simp at hb
theorem backT_le {mv : Bool} {x y : T} {i j : Nat} {u : List (Loc × O)} (hb : backT key mv i x y = some (j, u)) : i ≤ j := by
  unfold backT at hb
  split at hb
  · rename_i l off ty cs
    cases hc : opnL key i cs with
    | mk cs2 q =>
      obtain ⟨j1, u1⟩ := q
      rw [hc] at hb
      simp only [Option.some.injEq, Prod.mk.injEq] at hb
      obtain ⟨rfl, rfl⟩ := hb
      have := opnL_le (key := key) cs i
      rw [hc] at this
      exact this
  · split at hb
    · injection hb with hb; injection hb with e1 e2; omega
    · simp at hb
  · exact backC_le _ _ _ _ _ hb
  · injection hb with hb; injection hb with e1 e2; omega
theorem backT_loc {mv : Bool} {x y : T} {i j : Nat} {u : List (Loc × O)} (hb : backT key mv i x y = some (j, u)) (ha : ∀ n, i ≤ n → n < j → key' n = key n) : backT key' mv i x y = some (j, u) := by
  unfold backT at hb ⊢
  split at hb
  · rename_i l off ty cs
    cases hc : opnL key i cs with
    | mk cs2 q =>
      obtain ⟨j1, u1⟩ := q
      rw [hc] at hb
      simp only [Option.some.injEq, Prod.mk.injEq] at hb
      obtain ⟨rfl, rfl⟩ := hb
      simp only [opnL_loc' hc ha]
  · exact hb
  · exact backC_loc _ _ _ _ _ hb ha
  · exact hb
theorem backL_le {mv : Bool} : ∀ (xs ys : List T) (i j : Nat) (u : List (Loc × O)), backL key mv i xs ys = some (j, u) → i ≤ j
  | [], [], i, j, u, hb => by simp [backL] at hb; omega
  | [], _ :: _, i, j, u, hb => by simp [backL] at hb
  | _ :: _, [], i, j, u, hb => by simp [backL] at hb
  | x :: xs, y :: ys, i, j, u, hb => by
    unfold backL at hb
    split at hb
    · rename_i j1 u1 he1
      split at hb
      · rename_i k u2 he2
        injection hb with hb; injection hb with e1 e2; subst e1
        exact Nat.le_trans (backT_le he1) (backL_le xs ys j1 k u2 he2)
      · simp at hb
    · simp at hb
theorem backL_loc {mv : Bool} : ∀ (xs ys : List T) (i j : Nat) (u : List (Loc × O)), backL key mv i xs ys = some (j, u) → (∀ n, i ≤ n → n < j → key' n = key n) → backL key' mv i xs ys = some (j, u)
  | [], [], i, j, u, hb, ha => hb
  | [], _ :: _, i, j, u, hb, ha => by simp [backL] at hb
  | _ :: _, [], i, j, u, hb, ha => by simp [backL] at hb
  | x :: xs, y :: ys, i, j, u, hb, ha => by
    unfold backL at hb
    split at hb
    · rename_i j1 u1 he1
      split at hb
      · rename_i k u2 he2
        injection hb with hb; injection hb with e1 e2; subst e1; subst e2
        have l1 := backT_le he1
        have l2 := backL_le xs ys j1 k u2 he2
        simp only [backL, backT_loc he1 (fun n hn hlt => ha n hn (Nat.lt_of_lt_of_le hlt l2)), backL_loc xs ys j1 k u2 he2 (fun n hn hlt => ha n (Nat.le_trans l1 hn) hlt)]
      · simp at hb
    · simp at hb
theorem frzC_loc {P : Program} {ty : TypeId} {t t' : T} {r : List Loc} (h : frzC P ty σ t = some (t', r)) (ha : ∀ l ∈ r, σ' l = σ l) : frzC P ty σ' t = some (t', r) := by
  unfold frzC at h ⊢
  split at h
  · rename_i y r' he
    injection h with h; injection h with e1 e2; subst e1; subst e2
    rw [frz_loc t y r' he ha]
  · simp at h
/-- A call looks at what it moves and reads, and at its own counts. -/
theorem evCall_loc {S S' : St} {call : FuncId → List T → Option (T × List T)} {mv : FuncId → Bool} {site : Nat} {f : FuncId} {args : List T} {d : Dl} (hd : evCall S call mv site f args = some d) (hσ : ∀ l ∈ d.rd, S'.σ l = S.σ l) (hc : ∀ s ∈ d.bump, S'.cnt s = S.cnt s) : evCall S' call mv site f args = some d := by
  unfold evCall at hd
  split at hd
  · rename_i cargs m r harg
    split at hd
    · rename_i hnd
      split at hd
      · rename_i res outs hcall
        split at hd
        · rename_i j u hback
          cases hop : opn (ckey site S.cnt) j res with
          | mk res' q =>
          obtain ⟨k, u'⟩ := q
          rw [hop] at hd
          simp only at hd
          split at hd
          · rename_i hchk
            injection hd with hd
            have hrd : d.rd = m ++ r ++ u.map (·.1) := by rw [← hd]
            have hbm : d.bump = (List.range k).map (site + 1 + ·) := by rw [← hd]
            rw [hrd] at hσ
            rw [hbm] at hc
            have hk : ∀ n, n < k → ckey site S'.cnt n = ckey site S.cnt n := fun n hn => by
              unfold ckey
              rw [hc (site + 1 + n) (List.mem_map.2 ⟨n, List.mem_range.2 hn, rfl⟩)]
            have l2 := opn_le (key := ckey site S.cnt) res j
            rw [hop] at l2
            have h1 := argCL_loc (σ' := S'.σ) args cargs m r harg (fun l hl => hσ l (List.mem_append_left _ hl))
            have h2 := backL_loc (key' := ckey site S'.cnt) args outs 0 j u hback (fun n _ hlt => hk n (Nat.lt_of_lt_of_le hlt l2))
            have h3 := opn_loc' (key' := ckey site S'.cnt) hop (fun n _ hlt => hk n hlt)
            have h4 : (u.all fun e => match S'.σ e.1 with | some o => likeB o e.2 | none => true) = u.all fun e => match S.σ e.1 with | some o => likeB o e.2 | none => true := by
              refine Bool.eq_iff_iff.2 ?_
              simp only [List.all_eq_true]
              constructor
              · intro hh e he
                have := hh e he
                rw [hσ e.1 (List.mem_append_right _ (List.mem_map_of_mem he))] at this
                exact this
              · intro hh e he
                rw [hσ e.1 (List.mem_append_right _ (List.mem_map_of_mem he))]
                exact hh e he
            unfold evCall
            simp only [h1, hnd, if_true, hcall, h2, h3]
            rw [hd]
            exact if_pos ((congrArg (decide (k ≤ 62) && ·) h4).trans hchk)
          · simp at hd
        · simp at hd
      · simp at hd
    · simp at hd
  · simp at hd
/-- An operation looks at its operands. -/
theorem mem_fst {α β : Type} {ps : List (α × β)} {f g : β → T} (h : ∀ p ∈ ps, f p.2 = g p.2) : (ps.map fun p => (p.1, f p.2)) = ps.map fun p => (p.1, g p.2) := List.map_congr_left fun p hp => by rw [h p hp]
theorem evOp_slots {call : FuncId → List T → Option (T × List T)} {mv : FuncId → Bool} {site : Nat} {S : St} {τ' : Nat → T} {o : Oper} (hs : ∀ cs b, o.op ≠ .select cs b) (h : ∀ x ∈ o.op.operands, opd { S with τ := τ' } x = opd S x) :
    evOp P call mv site { S with τ := τ' } o = evOp P call mv site S o := by
  obtain ⟨dst, op, type, pos, after, guard⟩ := o
  cases op <;> simp only [Op.operands] at h <;> simp only [evOp]
  case move x => rw [h x (by simp)]
  case assign x => rw [h x (by simp)]
  case pick c p q => rw [h c (by simp), h p (by simp), h q (by simp)]
  case box t x => rw [h x (by simp)]
  case build t ps => rw [mem_fst (fun p hp => h p.2 (by simpa using ⟨p.1, Array.mem_toList_iff.1 hp⟩))]
  case buildSlice t n ps =>
    have e : (ps.toList.map fun p => opd { S with τ := τ' } p.2) = ps.toList.map fun p => opd S p.2 := List.map_congr_left fun p hp => h p.2 (by simpa using ⟨p.1, Array.mem_toList_iff.1 hp⟩)
    rw [e]
  case load t x => rw [h x (by simp)]; rfl
  case store t p x => rw [h x (by simp), h p (by simp)]; rfl
  case nilCheck x => rw [h x (by simp)]
  case binOp op t x y c => rw [h x (by simp), h y (by simp)]
  case unOp op t x => rw [h x (by simp)]
  case convert p q x => rw [h x (by simp)]
  case makeInterface t x => rw [h x (by simp)]
  case makeFunc f fs cs =>
    have e1 : fs.toList.map (opd { S with τ := τ' }) = fs.toList.map (opd S) := List.map_congr_left fun x hx => h x (by simp at hx ⊢; exact .inl hx)
    have e2 : cs.toList.map (opd { S with τ := τ' }) = cs.toList.map (opd S) := List.map_congr_left fun x hx => h x (by simp at hx ⊢; exact .inr hx)
    have e3 : (fs.toList ++ cs.toList).all (fun x => (opd { S with τ := τ' } x).ok1) = (fs.toList ++ cs.toList).all (fun x => (opd S x).ok1) := by
      refine Bool.eq_iff_iff.2 ?_
      simp only [List.all_eq_true]
      constructor
      · intro hh x hx
        rw [← h x (by simpa using hx)]; exact hh x hx
      · intro hh x hx
        rw [h x (by simpa using hx)]; exact hh x hx
    rw [e1, e2, e3]
  case slice t x lo hi mx =>
    have e1 : lo.map (opd { S with τ := τ' }) = lo.map (opd S) := by cases lo with | none => rfl | some y => simp [h y (by simp)]
    have e2 : hi.map (opd { S with τ := τ' }) = hi.map (opd S) := by cases hi with | none => rfl | some y => simp [h y (by simp)]
    cases mx with
    | none => simp only [e1, e2]; rw [h x (by simp)]; rfl
    | some y => rfl
  case fieldAddr t x i => rw [h x (by simp)]
  case field t x i => rw [h x (by simp)]
  case indexAddr t x i => rw [h x (by simp), h i (by simp)]; rfl
  case index t x i => rw [h x (by simp), h i (by simp)]
  case range t x => rw [h x (by simp)]
  case next x b => cases b with
    | true => simp only; rw [h x (by simp)]
    | false => rfl
  case typeAssert x xt t ok => rw [h x (by simp)]
  case extract x i => rw [h x (by simp)]
  case call c =>
    have ha : ∀ x ∈ c.args, opd { S with τ := τ' } x = opd S x := fun x hx => h x (by simp [Call.operands, hx])
    have hm : c.args.toList.map (opd { S with τ := τ' }) = c.args.toList.map (opd S) := List.map_congr_left fun x hx => ha x (by simpa using hx)
    cases hcal : c.callee with
    | builtin b =>
      cases b with
      | len =>
        simp only
        split
        · rename_i x hx
          rw [ha x (by have : x ∈ c.args.toList := by rw [hx]; simp
                       simpa using this)]
        · rfl
      | append =>
        simp only
        split
        · rename_i s x hx
          rw [ha s (by have : s ∈ c.args.toList := by rw [hx]; simp
                       simpa using this), ha x (by have : x ∈ c.args.toList := by rw [hx]; simp
                                                   simpa using this)]
          rfl
        · rfl
      | min => simp only [hm]
      | max => simp only [hm]
      | _ => rfl
    | value f =>
      have hf : opd { S with τ := τ' } f = opd S f := h f (by simp [Call.operands, hcal])
      simp only [hf, hm]
      rfl
    | invoke f m =>
      have hf : opd { S with τ := τ' } f = opd S f := h f (by simp [Call.operands, hcal])
      simp only [hf, hm]
      rfl
/-- An operation looks at the keys that it reads, and at the counts of what it makes. -/
theorem evOp_mem {call : FuncId → List T → Option (T × List T)} {mv : FuncId → Bool} {site : Nat} {S : St} {σ' : Loc → Option O} {cnt' : Nat → Nat} {o : Oper} {d : Dl} (hd : evOp P call mv site S o = some d) (hσ : ∀ l ∈ d.rd, σ' l = S.σ l) (hc : ∀ s ∈ d.bump, cnt' s = S.cnt s) :
    evOp P call mv site { S with σ := σ', cnt := cnt' } o = some d := by
  have ho : ∀ x, opd { S with σ := σ', cnt := cnt' } x = opd S x := fun x => by cases x <;> rfl
  have hof : opd { S with σ := σ', cnt := cnt' } = opd S := funext ho
  unfold evOp at hd ⊢
  rw [hof]
  split at hd <;> try exact hd
  · -- alloc
    split at hd
    · rename_i cs hz
      injection hd with hd; subst hd
      have := hc site (List.mem_singleton.2 rfl)
      simp only [hz, this]
    · simp at hd
  · -- box
    split at hd
    · rename_i hk
      injection hd with hd; subst hd
      have := hc site (List.mem_singleton.2 rfl)
      simp only [hk, if_true, this]
    · simp at hd
  · -- buildSlice
    split at hd
    · rename_i e he
      split at hd
      · rename_i sz z hsz hz
        split at hd
        · simp at hd
        · rename_i hno
          split at hd
          · rename_i ze hze
            split at hd
            · rename_i ys r hf
              split at hd
              · rename_i xs hset
                injection hd with hd; subst hd
                have h1 := hc site (List.mem_singleton.2 rfl)
                have h2 := frzL_loc (σ' := σ') _ _ _ hf hσ
                simp only [he, hsz, hz, if_neg hno, hze, h2, hset, h1]
              · simp at hd
            · simp at hd
          · simp at hd
      · simp at hd
    · simp at hd
  · -- load
    unfold evLoad at hd ⊢
    split at hd
    · rename_i l off hv
      split at hd
      · rename_i ty cs hl
        split at hd
        · rename_i x hx
          injection hd with hd; subst hd
          have := hσ l (List.mem_singleton.2 rfl)
          simp only [this, hl, hx]
        · simp at hd
      · simp at hd
    · exact hd
    · rename_i l sz i off hv
      split at hd
      · rename_i e sz' xs hl
        split at hd
        · rename_i x hx
          split at hd
          · rename_i hk
            split at hd
            · rename_i y hy
              injection hd with hd; subst hd
              have := hσ l (List.mem_singleton.2 rfl)
              simp only [this, hl, hx, hk, if_true, hy]
            · simp at hd
          · simp at hd
        · simp at hd
      · simp at hd
    · simp at hd
  · -- store
    unfold evStore at hd ⊢
    split at hd
    · rename_i l off hv
      split at hd
      · rename_i ty cs n hl hs
        split at hd
        · rename_i hk
          injection hd with hd; subst hd
          have := hσ l (List.mem_singleton.2 rfl)
          simp only [this, hl, hs, hk, if_true]
        · simp at hd
      · simp at hd
    · rename_i l sz i off hv
      split at hd
      · rename_i e sz' xs n w r hl hs hf
        split at hd
        · rename_i x hx
          split at hd
          · rename_i hk
            have hrd : d.rd = l :: r := by
              split at hd
              · injection hd with hd; rw [← hd]
              · split at hd
                · simp at hd
                · injection hd with hd; rw [← hd]
            rw [hrd] at hσ
            have h1 := hσ l (List.mem_cons_self ..)
            have h2 := frzC_loc (σ' := σ') hf (fun l' hl' => hσ l' (List.mem_cons_of_mem _ hl'))
            simp only [h1, hl, hs, h2, hx, hk, if_true]
            exact hd
          · simp at hd
        · simp at hd
      · simp at hd
    · simp at hd
  · -- makeInterface
    split at hd
    · simp at hd
    · simp at hd
    · rename_i dd hni hu
      split at hd
      · rename_i y r hf
        split at hd
        · rename_i hk
          injection hd with hd; subst hd
          have h2 := frzC_loc (σ' := σ') hf hσ
          simp only [h2, hk, if_true]
        · simp at hd
      · simp at hd
  · -- slice
    unfold evSlice at hd ⊢
    split at hd <;> try exact hd
    rename_i l e hv hu
    split at hd
    · rename_i z e' sz xs hs hl
      split at hd
      · rename_i h' e1
        split at hd
        · rename_i k e2
          split at hd
          · rename_i hk
            injection hd with hd; subst hd
            have h1 := hσ l (List.mem_singleton.2 rfl)
            have h2 := hc l.1 (List.mem_singleton.2 rfl)
            simp only [h1, hl, hs, e1, e2, if_pos hk, h2]
          · simp at hd
        · simp at hd
      · simp at hd
    · simp at hd
  · -- indexAddr
    unfold evIndexAddr at hd ⊢
    split at hd <;> try exact hd
    rename_i e k n he hv
    split at hd
    · rename_i sz hs
      split at hd
      · exact hd
      · rename_i l hl
        split at hd
        · rename_i e2 sz2 xs hlx
          split at hd
          · rename_i hn
            injection hd with hd; subst hd
            have h1 := hσ l (List.mem_singleton.2 rfl)
            simp only [hs, h1, hlx, if_pos hn]
          · simp at hd
        · simp at hd
      · simp at hd
    · simp at hd
  · -- range
    split at hd
    · rename_i b hu hv
      injection hd with hd; subst hd
      have := hc site (List.mem_singleton.2 rfl)
      simp only [this]
    · simp at hd
  · -- next
    split at hd
    · rename_i l hv
      split at hd
      · rename_i b pos hl
        have hrd : d.rd = [l] := by
          split at hd
          · injection hd with hd; rw [← hd]
          · injection hd with hd; rw [← hd]
        rw [hrd] at hσ
        have := hσ l (List.mem_singleton.2 rfl)
        simp only [this, hl]
        exact hd
      · simp at hd
    · simp at hd
  · -- a call
    rename_i c hop
    split at hd <;> try exact hd
    · -- len
      split at hd <;> try exact hd
      unfold evLen at hd ⊢
      split at hd <;> try exact hd
      split at hd <;> try exact hd
      split at hd <;> try exact hd
      rename_i hns
      split at hd
      · rename_i n r hl
        injection hd with hd; subst hd
        have : ∀ (x : T), lenT S.σ x = some (n, r) → lenT σ' x = some (n, r) := by
          intro x hx
          unfold lenT at hx ⊢
          split at hx <;> try exact hx
          rename_i l
          split at hx
          · rename_i hll
            injection hx with hx; injection hx with hx1 hx2; subst hx1; subst hx2
            simp only [hσ l (List.mem_singleton.2 rfl), hll]
          · simp at hx
        simp only [this _ hl]
      · simp at hd
    · -- append
      split at hd
      · rename_i s x hxs
        split at hd
        · rename_i t ht
          unfold evAppend at hd ⊢
          split at hd
          · rename_i e t1 het
            split at hd
            · rename_i e1 sz by_ z he1 hsz hby hz
              split at hd
              · simp at hd
              · rename_i hnz
                split at hd
                · rename_i ys r hsrc
                  split at hd
                  · rename_i hok
                    split at hd
                    · split at hd
                      · rename_i hbytes
                        split at hd
                        · injection hd with hd; subst hd
                          have h2 := srcOf_loc (σ' := σ') hsrc hσ
                          simp only [if_neg hnz, h2, hok, if_true, if_pos hbytes]
                        · rename_i hne
                          injection hd with hd; subst hd
                          have h2 := srcOf_loc (σ' := σ') (r := r) hsrc hσ
                          have h1 := hc site (List.mem_singleton.2 rfl)
                          simp only [if_neg hnz, h2, hok, if_true, if_pos hbytes, h1]
                      · simp at hd
                    · rename_i l hv
                      split at hd
                      · rename_i e' sz' xs hl
                        split at hd
                        · rename_i hcnd
                          injection hd with hd; subst hd
                          have h0 := hσ l (List.mem_cons_self ..)
                          have h2 := srcOf_loc (σ' := σ') hsrc (fun l' hl' => hσ l' (List.mem_cons_of_mem _ hl'))
                          have h1 := hc l.1 (List.mem_singleton.2 rfl)
                          simp only [if_neg hnz, h2, hok, if_true, h0, hl, if_pos hcnd, h1]
                        · simp at hd
                      · simp at hd
                    · simp at hd
                  · simp at hd
                · simp at hd
            · simp at hd
          · simp at hd
        · simp at hd
      · simp at hd
    · -- a function value
      split at hd
      · rename_i g p q hv
        split at hd
        · rename_i hemp
          simp only [hemp, if_true]
          exact evCall_loc (S' := { S with σ := σ', cnt := cnt' }) hd hσ hc
        · simp at hd
      · exact evCall_loc (S' := { S with σ := σ', cnt := cnt' }) hd hσ hc
      · simp at hd
    · -- a method
      split at hd
      · split at hd
        · simp at hd
        · rename_i h0
          rw [if_neg h0]
          split at hd
          · rename_i g hg
            exact evCall_loc (S' := { S with σ := σ', cnt := cnt' }) hd hσ hc
          · simp at hd
      · simp at hd
end
end Go.Proofs.YthcaodlfnlhfbaaDoorT
