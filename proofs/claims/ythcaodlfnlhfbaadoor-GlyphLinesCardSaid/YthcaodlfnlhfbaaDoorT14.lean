/- The interpreter over trees: a call. -/
import Derived.Test.YthcaodlfnlhfbaaDoorT13
namespace Go.Proofs.YthcaodlfnlhfbaaDoorT
open Go Go.RowKit
set_option linter.unusedVariables false

/-- What may be read behind a call. -/
def okOut (w w' : World) (ok : Nat → Prop) (bs bb : List Nat) (k : Nat) : Prop := (ok k ∨ k ∈ bs ∨ w.heap.size ≤ k) ∧ k < w'.heap.size ∧ k ∉ bb
/-- What a function does, at closed arguments: its closed result, and what becomes of what was handed over. -/
def Contract (P : Program) (f : FuncId) (cargs : List T) (res : T) (outs : List T) : Prop :=
  ∀ (w : World) (ok : Nat → Prop) (vals : List Value) (bs : List Nat), RepXL w ok cargs vals bs → bs.Nodup → (∀ k ∈ bs, k < w.heap.size ∧ ¬ ok k) → (∀ k, ok k → k < w.heap.size) → Glob w ok →
    Calls P f vals.toArray w (fun e w' => ∃ (v : Value) (b1 b2 : List Nat), e = .returned v ∧ (b1 ++ b2).Nodup ∧ (∀ k ∈ b1 ++ b2, (k ∈ bs ∨ w.heap.size ≤ k) ∧ k < w'.heap.size) ∧ Fr (· ∈ bs) w w' ∧
      RepX w' (okOut w w' ok bs (b1 ++ b2)) res v b1 ∧ RepXL w' (okOut w w' ok bs (b1 ++ b2)) outs vals b2)

section
variable {P : Program} {B : Base} {w : World} {inj : Loc → Nat} {σ : Loc → Option O} {cnt : Nat → Nat}
theorem nodupL_ok : ∀ {m : List Loc}, nodupL m = true → m.Nodup
  | [], _ => .nil
  | l :: r, h => by
    simp only [nodupL, Bool.and_eq_true, Bool.not_eq_true', List.contains_eq_mem, decide_eq_false_iff_not] at h
    exact List.nodup_cons.2 ⟨h.1, nodupL_ok h.2⟩
theorem kblks_nodup (h : SR B w inj σ cnt) : ∀ {m : List Loc}, m.Nodup → (∀ l ∈ m, σ l ≠ none) → (kblks inj m).Nodup
  | [], _, _ => .nil
  | l :: r, hn, ha => by
    obtain ⟨h1, h2⟩ := List.nodup_cons.1 hn
    refine List.nodup_cons.2 ⟨fun hi => ?_, kblks_nodup h h2 (fun x hx => ha x (List.mem_cons_of_mem _ hx))⟩
    obtain ⟨l', hl', he⟩ := List.mem_map.1 hi
    have a1 := ha l (List.mem_cons_self ..)
    have a2 := ha l' (List.mem_cons_of_mem _ hl')
    cases e1 : σ l with
    | none => exact a1 e1
    | some o =>
      cases e2 : σ l' with
      | none => exact a2 e2
      | some o' =>
        have := h.uniq l' l o' o e2 e1 he
        subst this
        exact h1 hl'
theorem updL_not {l : Loc} : ∀ {u : List (Loc × Option O)} {σ : Loc → Option O}, l ∉ u.map (·.1) → updL σ u l = σ l
  | [], σ, _ => rfl
  | e :: r, σ, h => by
    simp only [List.map_cons, List.mem_cons, not_or] at h
    show updL _ r l = _
    rw [updL_not h.2, if_neg h.1]
theorem updL_in : ∀ {u : List (Loc × Option O)} {σ : Loc → Option O} {e : Loc × Option O}, (u.map (·.1)).Nodup → e ∈ u → updL σ u e.1 = e.2
  | [], σ, e, _, h => by simp at h
  | x :: r, σ, e, hn, h => by
    simp only [List.map_cons, List.nodup_cons] at hn
    show updL _ r e.1 = _
    rcases List.mem_cons.1 h with rfl | h
    · rw [updL_not hn.1, if_pos rfl]
    · exact updL_in hn.2 h
/-- Blocks for some keys. -/
def asg (f : Loc → Nat) : List (Loc × Nat) → Loc → Nat
  | [] => f
  | z :: r => fun l => if l = z.1 then z.2 else asg f r l
theorem asg_in {f : Loc → Nat} : ∀ {Z : List (Loc × Nat)} {z : Loc × Nat}, (Z.map (·.1)).Nodup → z ∈ Z → asg f Z z.1 = z.2
  | [], z, _, h => by simp at h
  | x :: r, z, hn, h => by
    simp only [List.map_cons, List.nodup_cons] at hn
    rcases List.mem_cons.1 h with rfl | h
    · simp [asg]
    · have : z.1 ≠ x.1 := fun e => hn.1 (by rw [← e]; exact List.mem_map_of_mem h)
      simp only [asg, if_neg this]
      exact asg_in hn.2 h
theorem asg_not {f : Loc → Nat} {l : Loc} : ∀ {Z : List (Loc × Nat)}, l ∉ Z.map (·.1) → asg f Z l = f l
  | [], _ => rfl
  | x :: r, h => by
    simp only [List.map_cons, List.mem_cons, not_or] at h
    simp only [asg, if_neg h.1]
    exact asg_not h.2
theorem snd_uniq : ∀ {Z : List (Loc × Nat)}, (Z.map (·.2)).Nodup → ∀ {y z : Loc × Nat}, y ∈ Z → z ∈ Z → y.2 = z.2 → y = z
  | [], _, y, z, hy, _, _ => by simp at hy
  | x :: r, hn, y, z, hy, hz, he => by
    simp only [List.map_cons, List.nodup_cons] at hn
    rcases List.mem_cons.1 hy with h1 | h1 <;> rcases List.mem_cons.1 hz with h2 | h2
    · rw [h1, h2]
    · exact absurd (by rw [← h1, he]; exact List.mem_map_of_mem h2) hn.1
    · exact absurd (by rw [← h2, ← he]; exact List.mem_map_of_mem h1) hn.1
    · exact snd_uniq hn.2 h1 h2 he
theorem likeB_ok {o o' : O} (h : likeB o o' = true) : o.like o' := by
  cases o <;> cases o' <;> simp [likeB] at h <;> simp [O.like, h]
mutual
theorem noRo_ok {C : Ctx} {ok : Nat → Prop} : ∀ (t : T) (v : Value) (b : List Nat), noRo t = true → RepX w ok t v b → Rep C t v
  | .s u, v, b, h, hx => by obtain ⟨_, hx⟩ := hx; cases hx; exact .s (by assumption)
  | .agg cs, v, b, h, hx => by
    obtain ⟨vs, rfl, hx, h1⟩ := hx
    have := noRoL_ok (C := C) cs vs b h hx
    exact .agg this.1 this.2 h1
  | .tup cs, v, b, h, hx => by
    obtain ⟨vs, rfl, hx⟩ := hx
    have := noRoL_ok (C := C) cs vs b h hx
    exact .tup this.1 this.2
  | .ifc _ _, v, b, h, hx => by simp [noRo] at h
  | .sl _ _, v, b, h, hx => by simp [noRo] at h
  | .own _, v, b, h, hx => by simp [noRo] at h
  | .ptr _ _, v, b, h, hx => by simp [noRo] at h
  | .ep _, v, b, h, hx => by simp [noRo] at h
  | .eptr _ _ _ _, v, b, h, hx => by simp [noRo] at h
  | .fn _ _ _, v, b, h, hx => by simp [noRo] at h
  | .it _, v, b, h, hx => by simp [noRo] at h
  | .cown _ _ _, v, b, h, hx => by simp [noRo] at h
  | .cbox _ _, v, b, h, hx => by simp [noRo] at h
  | .dead, v, b, h, hx => by simp [noRo] at h
theorem noRoL_ok {C : Ctx} {ok : Nat → Prop} : ∀ (ts : List T) (vs : List Value) (b : List Nat), noRoL ts = true → RepXL w ok ts vs b → RepA C ts vs
  | [], vs, b, h, hx => by obtain ⟨rfl, _⟩ := hx; exact RepA.nil _
  | x :: ts, vs, b, h, hx => by
    obtain ⟨v, vs', b1, b2, rfl, rfl, h1, h2⟩ := hx
    simp only [noRoL, Bool.and_eq_true] at h
    exact (noRoL_ok ts vs' b2 h.2 h2).cons (noRo_ok x v b1 h.1 h1)
end
mutual
theorem noRo_opn {key : Nat → Loc} : ∀ (t : T) (i : Nat), noRo t = true → opn key i t = (t, i, [])
  | .s u, i, h => rfl
  | .agg cs, i, h => by simp only [opn, noRoL_opn cs i h]
  | .tup cs, i, h => by simp only [opn, noRoL_opn cs i h]
  | .ifc _ _, i, h => rfl
  | .sl _ _, i, h => rfl
  | .own _, i, h => rfl
  | .ptr _ _, i, h => rfl
  | .ep _, i, h => rfl
  | .eptr _ _ _ _, i, h => rfl
  | .fn _ _ _, i, h => by simp [noRo] at h
  | .it _, i, h => rfl
  | .cown _ _ _, i, h => by simp [noRo] at h
  | .cbox _ _, i, h => by simp [noRo] at h
  | .dead, i, h => rfl
theorem noRoL_opn {key : Nat → Loc} : ∀ (ts : List T) (i : Nat), noRoL ts = true → opnL key i ts = (ts, i, [])
  | [], i, h => rfl
  | x :: ts, i, h => by
    simp only [noRoL, Bool.and_eq_true] at h
    simp only [opnL, noRo_opn x i h.1, noRoL_opn ts i h.2, List.append_nil]
end
theorem ckey_inj (site : Nat) (cnt : Nat → Nat) (a b : Nat) (h : ckey site cnt a = ckey site cnt b) : a = b := by
  have := congrArg Prod.fst h
  simp only [ckey] at this
  omega
/-- A call. -/
theorem call_ok {call : FuncId → List T → Option (T × List T)} (hC : ∀ g cargs res outs, call g cargs = some (res, outs) → Contract P g cargs res outs) {S : St} (h : SR B w inj S.σ S.cnt) (hG : Glob w (sctx B w inj S.σ S.cnt).ok)
    {args : List T} {vals : List Value} (ha : RepA (sctx B w inj S.σ S.cnt) args vals) {mv : FuncId → Bool} {site : Nat} {f : FuncId} {d : Dl} (hd : evCall S call mv site f args = some d) :
    Calls P f vals.toArray w (fun e w' => ∃ v, e = .returned v ∧ Stp B w inj S.σ S.cnt d v w') := by
  unfold evCall at hd
  split at hd
  · rename_i cargs m r harg
    split at hd
    · rename_i hnd
      simp only [Bool.and_eq_true, List.all_eq_true, Bool.not_eq_true', List.contains_eq_mem, decide_eq_false_iff_not] at hnd
      obtain ⟨hnd, hrm⟩ := hnd
      have hmn := nodupL_ok hnd
      split at hd
      · rename_i res outs hcall
        split at hd
        · rename_i j u hback
          cases hop : opn (ckey site S.cnt) j res with
          | mk res' q =>
          obtain ⟨k, u'⟩ := q
          rw [hop] at hd
          simp only at hd
          split at hd
          · rename_i hchk
            simp only [Bool.and_eq_true, decide_eq_true_eq, List.all_eq_true] at hchk
            obtain ⟨hk62, hlike⟩ := hchk
            injection hd with hd
            -- the contract
            have hargs := argCL_ok (ok := fun k => (sctx B w inj S.σ S.cnt).ok k ∨ blks inj r k) h (fun k hk => .inl hk) args cargs m r vals (fun k hk => .inr hk) harg ha
            obtain ⟨hxl, hma, hra⟩ := hargs
            have halive : ∀ l, S.σ l ≠ none → ∃ o, S.σ l = some o := fun l hl => by
              cases hs : S.σ l with
              | none => exact absurd hs hl
              | some o => exact ⟨o, rfl⟩
            have hbs := kblks_nodup h hmn hma
            have hbk : ∀ k ∈ kblks inj m, k < w.heap.size ∧ ¬ ((sctx B w inj S.σ S.cnt).ok k ∨ blks inj r k) := by
              intro k hk
              obtain ⟨l, hl, rfl⟩ := List.mem_map.1 hk
              obtain ⟨o, ho⟩ := halive l (hma l hl)
              refine ⟨h.lt l o ho, ?_⟩
              rintro (⟨_, _, h3⟩ | ⟨l', hl', he⟩)
              · exact h3 ⟨l, o, ho, rfl⟩
              · obtain ⟨o', ho'⟩ := halive l' (hra l' hl')
                have := h.uniq l' l o' o ho' ho he
                subst this
                exact hrm l' hl' hl
            refine (hC f cargs res outs hcall w _ vals _ hxl hbs hbk ?_ (hG.mono fun k hk => ⟨.inl hk, rfl⟩)).mono ?_
            · rintro k (⟨_, h2, _⟩ | ⟨l, hl, rfl⟩)
              · exact h2
              · obtain ⟨o, ho⟩ := halive l (hra l hl)
                exact h.lt l o ho
            rintro e w' ⟨v, b1, b2, rfl, hbb, hbin, hfr, hres, houts⟩
            refine ⟨v, rfl, ?_⟩
            have hcnt : ∀ s, S.cnt s ≤ (if ((List.range k).map (site + 1 + ·)).contains s then S.cnt s + 1 else S.cnt s) := by intro s; split <;> omega
            have hfro : Fr (owned S.σ inj) w w' := hfr.mono (fun i hi => by
              obtain ⟨l, hl, rfl⟩ := List.mem_map.1 hi
              obtain ⟨o, ho⟩ := halive l (hma l hl)
              exact ⟨l, o, ho, rfl⟩)
            by_cases hkeep : r ≠ [] ∧ (r.isEmpty || (noRo res && m.isEmpty && u.isEmpty)) = true
            · -- what was frozen is the call's own again
              obtain ⟨hr0, hkp⟩ := hkeep
              have hrf : r.isEmpty = false := by cases r with | nil => exact absurd rfl hr0 | cons => rfl
              rw [hkp] at hd
              simp only [hrf, Bool.false_or, Bool.and_eq_true, List.isEmpty_iff] at hkp
              obtain ⟨⟨hno, rfl⟩, rfl⟩ := hkp
              rw [noRo_opn res j hno] at hop
              simp only [Prod.mk.injEq] at hop
              obtain ⟨rfl, rfl, rfl⟩ := hop
              subst hd
              have hsame : ∀ l o, S.σ l = some o → w'.heap[inj l]? = w.heap[inj l]? := fun l o ho => hfr.block _ (h.lt l o ho) (by simp [kblks])
              have le := next_le (B := B) (inj' := inj) (σ' := S.σ) hfro hcnt (fun l o' hl => .inl ⟨l, o', hl, rfl⟩) (fun l o' _ hl => ⟨o', hl, rfl, O.like_refl _, fun _ _ _ _ cells e hc => ⟨cells, by rw [hsame l o' hl]; exact hc, rfl⟩⟩)
              refine ⟨inj, ?_, ?_, noRo_ok res v b1 hno hres⟩
              · exact h.next hfro hcnt (fun l o' hl => .inl ⟨l, o', hl, rfl⟩) (fun l o' hl => Nat.lt_of_lt_of_le (h.lt l o' hl) hfr.size) h.uniq (fun l o' hl => Nat.lt_of_lt_of_le (h.fresh l o' hl) (hcnt _)) (fun l o' hl => (h.obj l o' hl).mono le (hsame l o' hl))
              · exact le
            · -- all that was read or moved is given up
              have hM : ∃ M : List Loc, d = ⟨res', killL M ++ (u ++ u').map (fun e => (e.1, some e.2)), (List.range k).map (site + 1 + ·), m ++ r ++ u.map (·.1)⟩ ∧ (∀ l ∈ m, l ∈ M) ∧ (∀ l ∈ r, l ∈ M) := by
                refine ⟨_, hd.symm, fun l hl => List.mem_append_left _ hl, fun l hl => ?_⟩
                cases r with
                | nil => simp at hl
                | cons x r =>
                  have : ((x :: r).isEmpty || (noRo res && m.isEmpty && u.isEmpty)) = false := by
                    cases hq : ((x :: r).isEmpty || (noRo res && m.isEmpty && u.isEmpty)) with
                    | false => rfl
                    | true => exact absurd ⟨by simp, hq⟩ hkeep
                  rw [this]
                  exact List.mem_append_right _ hl
              obtain ⟨M, rfl, hmM, hrM⟩ := hM
              have holds := oldsL_sub args cargs m r harg
              have hold_m : ∀ l ∈ oldsL (mv f) args, l ∈ m := fun l hl => holds.subset hl
              have hlikeO : ∀ e ∈ u, ∀ o, S.σ e.1 = some o → likeB o e.2 = true := fun e he o ho => by
                have := hlike e he
                rw [ho] at this
                exact this
              obtain ⟨hkp, hshape, Zb, zb1, zb2, zb3, hZb⟩ := backL_ok (w := w') (key := ckey site S.cnt) args outs 0 j u vals b2 (fun l hl => hma l (hold_m l hl)) hback hlikeO ha houts
              obtain ⟨hkp', Z1, z11, z12, hZ1⟩ := opn_ok (w := w') (key := ckey site S.cnt) res j res' k u' v b1 hop hres
              have hKP := hkp.append hkp'
              have hkne : ∀ l, S.σ l ≠ none → ∀ n, l ≠ ckey site S.cnt n := by
                rintro l hl n rfl
                obtain ⟨o, ho⟩ := halive _ hl
                have := h.fresh _ _ ho
                simp [ckey] at this
              have hks : ((u ++ u').map (·.1)).Nodup := by
                rw [List.map_append]
                refine hKP.nd (ckey_inj site S.cnt) (by rw [List.append_nil]; exact hmn.sublist holds) (fun l hl => hkne l (hma l (hold_m l (by simpa using hl))))
              have hZk : (Zb ++ Z1).map (·.1) = (u ++ u').map (·.1) := by simp [zb1, z11]
              have hZs : ((Zb ++ Z1).map (·.2)).Nodup := by
                have h1 : ((Zb ++ Z1).map (·.2)).Sublist (b2 ++ b1) := by rw [List.map_append, z12]; exact zb2.append (List.Sublist.refl _)
                refine List.Nodup.sublist h1 ?_
                exact (List.perm_append_comm.nodup_iff).1 hbb
              have hZin : ∀ z ∈ Zb ++ Z1, z.2 ∈ b1 ++ b2 := by
                intro z hz
                rcases List.mem_append.1 hz with hz | hz
                · exact List.mem_append_right _ (zb2.subset (List.mem_map_of_mem hz))
                · exact List.mem_append_left _ (by rw [← z12]; exact List.mem_map_of_mem hz)
              generalize hinj' : asg inj (Zb ++ Z1) = inj'
              have hin : ∀ z ∈ Zb ++ Z1, inj' z.1 = z.2 := fun z hz => by rw [← hinj']; exact asg_in (by rw [hZk]; exact hks) hz
              have hout : ∀ l, l ∉ (u ++ u').map (·.1) → inj' l = inj l := fun l hl => by rw [← hinj']; exact asg_not (by rw [hZk]; exact hl)
              have hkeyz : ∀ l ∈ (u ++ u').map (·.1), ∃ z ∈ Zb ++ Z1, z.1 = l := fun l hl => by
                rw [← hZk] at hl
                obtain ⟨z, hz, he⟩ := List.mem_map.1 hl
                exact ⟨z, hz, he⟩
              generalize hcnt' : (fun s => if ((List.range k).map (site + 1 + ·)).contains s then S.cnt s + 1 else S.cnt s) = cnt' at hcnt ⊢
              have hcnt : ∀ s, S.cnt s ≤ cnt' s := fun s => by rw [← hcnt']; exact hcnt s
              generalize hσ' : updL S.σ (killL M ++ (u ++ u').map (fun e => (e.1, some e.2))) = σ'
              have hmm : ((u ++ u').map (fun e => (e.1, some e.2))).map (·.1) = (u ++ u').map (·.1) := by simp [List.map_map, Function.comp_def]
              have hσin : ∀ e ∈ u ++ u', σ' e.1 = some e.2 := fun e he => by
                rw [← hσ', updL_append]
                exact updL_in (e := (e.1, some e.2)) (by rw [hmm]; exact hks) (List.mem_map_of_mem (f := fun e : Loc × O => (e.1, some e.2)) he)
              have hσout : ∀ l o, l ∉ (u ++ u').map (·.1) → σ' l = some o → l ∉ M ∧ S.σ l = some o := fun l o hl ho => by
                rw [← hσ', updL_append, updL_not (by rw [hmm]; exact hl)] at ho
                exact kill_some ho
              have hcase : ∀ l o, σ' l = some o → (∃ e ∈ u ++ u', e.1 = l ∧ e.2 = o ∧ ∃ z ∈ Zb ++ Z1, z.1 = l ∧ inj' l = z.2) ∨ (l ∉ (u ++ u').map (·.1) ∧ l ∉ M ∧ S.σ l = some o ∧ inj' l = inj l) := by
                intro l o ho
                by_cases hl : l ∈ (u ++ u').map (·.1)
                · left
                  obtain ⟨e, he, rfl⟩ := List.mem_map.1 hl
                  obtain ⟨z, hz, hze⟩ := hkeyz _ hl
                  have := hσin e he
                  rw [ho] at this
                  injection this with this
                  exact ⟨e, he, rfl, this.symm, z, hz, hze, by rw [← hze]; exact hin z hz⟩
                · right
                  obtain ⟨h1, h2⟩ := hσout l o hl ho
                  exact ⟨hl, h1, h2, hout l hl⟩
              have hnotin : ∀ l o, l ∉ M → S.σ l = some o → inj l ∉ kblks inj m := by
                intro l o hlM ho hi
                obtain ⟨l', hl', he⟩ := List.mem_map.1 hi
                obtain ⟨o', ho'⟩ := halive l' (hma l' hl')
                have := h.uniq l' l o' o ho' ho he
                subst this
                exact hlM (hmM l' hl')
              have hsame : ∀ l o, l ∉ M → S.σ l = some o → w'.heap[inj l]? = w.heap[inj l]? := fun l o hlM ho => hfr.block _ (h.lt l o ho) (hnotin l o hlM ho)
              have hokN : ∀ k, okOut w w' (fun k => (sctx B w inj S.σ S.cnt).ok k ∨ blks inj r k) (kblks inj m) (b1 ++ b2) k → (sctx B w' inj' σ' cnt').ok k := by
                rintro k0 ⟨hk1, hk2, hk3⟩
                have hkb : B.okb k0 ∧ ∀ l o, l ∉ M → S.σ l = some o → inj l ≠ k0 := by
                  rcases hk1 with (⟨g1, g2, g3⟩ | ⟨l, hl, rfl⟩) | hk1 | hk1
                  · exact ⟨g1, fun l o _ ho he => g3 ⟨l, o, ho, he⟩⟩
                  · obtain ⟨o, ho⟩ := halive l (hra l hl)
                    refine ⟨(h.mine l o ho).elim (fun x => .inr (.inl x)) (fun x => .inr (.inr x)), fun l' o' hlM ho' he => ?_⟩
                    have := h.uniq l' l o' o ho' ho he
                    subst this
                    exact hlM (hrM l' hl)
                  · obtain ⟨l, hl, rfl⟩ := List.mem_map.1 hk1
                    obtain ⟨o, ho⟩ := halive l (hma l hl)
                    refine ⟨(h.mine l o ho).elim (fun x => .inr (.inl x)) (fun x => .inr (.inr x)), fun l' o' hlM ho' he => ?_⟩
                    have := h.uniq l' l o' o ho' ho he
                    subst this
                    exact hlM (hmM l' hl)
                  · exact ⟨.inr (.inr (Nat.le_trans h.fr.size hk1)), fun l o _ ho he => by have := h.lt l o ho; omega⟩
                refine ⟨hkb.1, hk2, ?_⟩
                rintro ⟨l, o, ho, he⟩
                rcases hcase l o ho with ⟨_, _, _, _, z, hz, _, hiz⟩ | ⟨_, hlM, hs, hi⟩
                · exact hk3 (by rw [← he, hiz]; exact hZin z hz)
                · exact hkb.2 l o hlM hs (by rw [← hi]; exact he)
              have hfresh' : ∀ e ∈ u ++ u', e.1.2 < cnt' e.1.1 := by
                intro e he
                have : e.1 ∈ u.map (·.1) ++ u'.map (·.1) := by rw [← List.map_append]; exact List.mem_map_of_mem he
                rcases hKP.mem _ this with hm' | ⟨n, _, hn, hk'⟩
                · obtain ⟨o, ho⟩ := halive e.1 (hma _ (hold_m _ (by simpa using hm')))
                  exact Nat.lt_of_lt_of_le (h.fresh _ _ ho) (hcnt _)
                · rw [hk', ← hcnt']
                  have hin : ((List.range k).map (site + 1 + ·)).contains (ckey site S.cnt n).1 = true := by
                    simp only [List.contains_eq_mem, decide_eq_true_eq, List.mem_map, List.mem_range]
                    exact ⟨n, hn, rfl⟩
                  show (ckey site S.cnt n).2 < if ((List.range k).map (site + 1 + ·)).contains (ckey site S.cnt n).1 = true then _ else _
                  rw [if_pos hin]
                  exact Nat.lt_succ_self _
              have hFin : Fin B w' (okOut w w' (fun k => (sctx B w inj S.σ S.cnt).ok k ∨ blks inj r k) (kblks inj m) (b1 ++ b2)) inj' σ' cnt' (u ++ u') (Zb ++ Z1) := ⟨hin, fun e he => ⟨hσin e he, hfresh' e he⟩, hokN⟩
              have hobU := hZb B inj' σ' cnt' hFin.left
              obtain ⟨hrep', hobU'⟩ := hZ1 B inj' σ' cnt' hFin.right
              have hob : ∀ e ∈ u ++ u', RepO (sctx B w' inj' σ' cnt') (inj' e.1) e.2 := fun e he => (List.mem_append.1 he).elim (hobU e) (hobU' e)
              have hnew : ∀ l o', σ' l = some o' → owned S.σ inj (inj' l) ∨ w.heap.size ≤ inj' l := by
                intro l o' ho
                rcases hcase l o' ho with ⟨_, _, _, _, z, hz, _, hiz⟩ | ⟨_, hlM, hs, hi⟩
                · rw [hiz]
                  rcases (hbin z.2 (hZin z hz)).1 with hb | hb
                  · obtain ⟨l', hl', he⟩ := List.mem_map.1 hb
                    obtain ⟨o2, ho2⟩ := halive l' (hma l' hl')
                    exact .inl ⟨l', o2, ho2, he⟩
                  · exact .inr hb
                · rw [hi]; exact .inl ⟨l, o', hs, rfl⟩
              have le : (sctx B w inj S.σ S.cnt).le (sctx B w' inj' σ' cnt') := next_le hfro hcnt hnew (by
                intro l o' hlt ho
                rcases hcase l o' ho with ⟨e, he, rfl, rfl, z, hz, hze, hiz⟩ | ⟨_, hlM, hs, hi⟩
                · have hne : ∀ n, e.1 ≠ ckey site S.cnt n := by
                    intro n hn
                    rw [hn] at hlt
                    simp [ckey] at hlt
                  have heu : e ∈ u := by
                    rcases List.mem_append.1 he with he | he
                    · exact he
                    · rcases hkp'.mem _ (List.mem_map_of_mem he) with hx | ⟨n, _, _, hx⟩
                      · simp at hx
                      · exact absurd hx (hne n)
                  have hold : e.1 ∈ oldsL (mv f) args := (hkp.mem _ (List.mem_map_of_mem heu)).elim id (fun ⟨n, _, _, hx⟩ => absurd hx (hne n))
                  obtain ⟨o, ho0⟩ := halive e.1 (hma _ (hold_m _ hold))
                  have hzb : z ∈ Zb := by
                    rcases List.mem_append.1 hz with hz | hz
                    · exact hz
                    · have : z.1 ∈ u'.map (·.1) := by rw [← z11]; exact List.mem_map_of_mem hz
                      rcases hkp'.mem _ this with hx | ⟨n, _, _, hx⟩
                      · simp at hx
                      · exact absurd (hze.symm.trans hx) (hne n)
                  have hzi := zb3 z hzb (by rw [hze]; exact hold) (by rw [hze]; exact hne)
                  refine ⟨o, ho0, by rw [hiz, hzi, hze], likeB_ok (hlikeO e heu o ho0), fun e0 sz0 xs0 hos cells ty hc => ?_⟩
                  subst hos
                  exact hshape e heu hold hne e0 sz0 xs0 ho0 cells ty hc
                · refine ⟨o', hs, hi, O.like_refl _, fun _ _ _ _ cells e hc => ⟨cells, by rw [hsame l o' hlM hs]; exact hc, rfl⟩⟩)
              refine ⟨inj', ?_⟩
              show SR B w' inj' (updL S.σ (killL M ++ (u ++ u').map (fun e => (e.1, some e.2)))) (fun s => if ((List.range k).map (site + 1 + ·)).contains s then S.cnt s + 1 else S.cnt s) ∧ (sctx B w inj S.σ S.cnt).le (sctx B w' inj' (updL S.σ (killL M ++ (u ++ u').map (fun e => (e.1, some e.2)))) (fun s => if ((List.range k).map (site + 1 + ·)).contains s then S.cnt s + 1 else S.cnt s)) ∧ Rep (sctx B w' inj' (updL S.σ (killL M ++ (u ++ u').map (fun e => (e.1, some e.2)))) (fun s => if ((List.range k).map (site + 1 + ·)).contains s then S.cnt s + 1 else S.cnt s)) res' v
              rw [hσ', hcnt']
              refine ⟨h.next hfro hcnt hnew ?_ ?_ ?_ ?_, le, hrep'⟩
              · intro l o' ho
                rcases hcase l o' ho with ⟨_, _, _, _, z, hz, _, hiz⟩ | ⟨_, hlM, hs, hi⟩
                · rw [hiz]; exact (hbin z.2 (hZin z hz)).2
                · rw [hi]; exact Nat.lt_of_lt_of_le (h.lt l o' hs) hfr.size
              · intro l l' o1 o2 h1 h2 he
                rcases hcase l o1 h1 with ⟨_, _, _, _, z, hz, hzl, hiz⟩ | ⟨_, hlM, hs, hi⟩ <;> rcases hcase l' o2 h2 with ⟨_, _, _, _, z', hz', hzl', hiz'⟩ | ⟨_, hlM', hs', hi'⟩
                · have := snd_uniq hZs hz hz' (by rw [← hiz, ← hiz']; exact he)
                  rw [← hzl, ← hzl', this]
                · rw [hiz, hi'] at he
                  rcases (hbin z.2 (hZin z hz)).1 with hb | hb
                  · exact absurd (he ▸ hb) (hnotin l' o2 hlM' hs')
                  · have := h.lt l' o2 hs'; omega
                · rw [hi, hiz'] at he
                  rcases (hbin z'.2 (hZin z' hz')).1 with hb | hb
                  · exact absurd (he ▸ hb) (hnotin l o1 hlM hs)
                  · have := h.lt l o1 hs; omega
                · rw [hi, hi'] at he
                  exact h.uniq l l' o1 o2 hs hs' he
              · intro l o' ho
                rcases hcase l o' ho with ⟨e, he, rfl, _, _⟩ | ⟨_, hlM, hs, hi⟩
                · exact hfresh' e he
                · exact Nat.lt_of_lt_of_le (h.fresh l o' hs) (hcnt _)
              · intro l o' ho
                rcases hcase l o' ho with ⟨e, he, rfl, rfl, _⟩ | ⟨_, hlM, hs, hi⟩
                · exact hob e he
                · rw [hi]; exact (h.obj l o' hs).mono le (hsame l o' hlM hs)
          · simp at hd
        · simp at hd
      · simp at hd
    · simp at hd
  · simp at hd
end
end Go.Proofs.YthcaodlfnlhfbaaDoorT
