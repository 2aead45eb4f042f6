/- The interpreter over trees: a state brought to a normal form: what lives on, its keys renamed. -/
import Derived.Test.YthcaodlfnlhfbaaDoorT20
namespace Go.Proofs.YthcaodlfnlhfbaaDoorT
open Go Go.RowKit
set_option linter.unusedVariables false

def eqL (a b : Loc) : Bool := Nat.beq a.1 b.1 && Nat.beq a.2 b.2
theorem eqL_iff {a b : Loc} : eqL a b = true ↔ a = b := by
  obtain ⟨a1, a2⟩ := a
  obtain ⟨b1, b2⟩ := b
  simp [eqL, Nat.beq_eq]
theorem eqL_not {a b : Loc} : eqL a b = false ↔ a ≠ b := by
  constructor
  · intro h e
    rw [eqL_iff.2 e] at h
    simp at h
  · intro h
    cases hb : eqL a b with
    | false => rfl
    | true => exact absurd (eqL_iff.1 hb) h
/-- What stands at a key. -/
def lkL {α : Type} : List (Loc × α) → Loc → Option α
  | [], _ => none
  | e :: r, l => cond (eqL e.1 l) (some e.2) (lkL r l)
def lkN : List (Nat × T) → Nat → T
  | [], _ => .dead
  | e :: r, i => cond (Nat.beq e.1 i) e.2 (lkN r i)
def cntS (s : Nat) : Nat := cond (Nat.ble 1000 s && Nat.ble (s + 1) 1000000000) 0 1
/-- A state in normal form: slots, things. -/
def mkSt (nt : Nat) (ls : List (Nat × T)) (hp : List (Loc × O)) : St := { τ := lkN ls, σ := lkL hp, cnt := cntS, nt := nt }
mutual
/-- The keys that stand in a tree, and where. -/
def keysAt : Nat → T → List (Loc × Nat)
  | p, .own l => [(l, p)]
  | p, .ptr l _ => [(l, p)]
  | p, .eptr l _ _ _ => [(l, p)]
  | p, .it l => [(l, p)]
  | p, .agg cs => keysAtL (p * 128 + 1) cs
  | p, .tup cs => keysAtL (p * 128 + 1) cs
  | p, .fn _ fs cs => keysAtL (p * 128 + 1) fs ++ keysAtL (p * 128 + 65) cs
  | _, _ => []
def keysAtL : Nat → List T → List (Loc × Nat)
  | _, [] => []
  | p, x :: r => keysAt p x ++ keysAtL (p + 1) r
end
def keysO (p : Nat) : O → List (Loc × Nat)
  | .box _ cs => keysAtL (p * 128 + 1) cs
  | _ => []
/-- All that is reached, each under its new key. -/
def reach (σ : Loc → Option O) : Nat → List (Loc × Nat) → List (Loc × Loc × O) → Option (List (Loc × Loc × O))
  | _, [], acc => some acc
  | 0, _ :: _, _ => none
  | n + 1, (l, p) :: r, acc => match lkL acc l with
    | some _ => reach σ n r acc
    | none => match σ l with
      | none => none
      | some o => reach σ n (r ++ keysO p o) (acc ++ [(l, (cond (Nat.ble (l.1 + 1) 1000) l (1000000000 + p, 0), o))])
def renOf (acc : List (Loc × Loc × O)) (l : Loc) : Loc := match lkL acc l with
  | some e => e.1
  | none => l
/-- Is a key one of these, or one of the entry? -/
def keyB (acc : List (Loc × Loc × O)) (l : Loc) : Bool := (lkL acc l).isSome || (Nat.ble (l.1 + 1) 1000 && Nat.beq l.2 0)
mutual
def keysB (acc : List (Loc × Loc × O)) : T → Bool
  | .own l => keyB acc l
  | .ptr l _ => keyB acc l
  | .eptr l _ _ _ => keyB acc l
  | .it l => keyB acc l
  | .agg cs => keysBL acc cs
  | .tup cs => keysBL acc cs
  | .fn _ fs cs => keysBL acc fs && keysBL acc cs
  | _ => true
def keysBL (acc : List (Loc × Loc × O)) : List T → Bool
  | [] => true
  | x :: r => keysB acc x && keysBL acc r
end
def keysBO (acc : List (Loc × Loc × O)) : O → Bool
  | .box _ cs => keysBL acc cs
  | _ => true
/-- A new key is an entry's own, or one of the normal form's. -/
def newOk (e : Loc × Loc × O) : Bool := Nat.beq e.2.1.2 0 && ((Nat.ble (e.1.1 + 1) 1000 && eqL e.2.1 e.1) || (Nat.ble 1000 e.1.1 && Nat.ble 1000000000 e.2.1.1))
def nodB : List Loc → Bool
  | [] => true
  | l :: r => !(r.any (eqL l)) && nodB r
def nrm (ls : List Nat) (S : St) : Option St := match reach S.σ 1000 (ls.flatMap fun i => keysAt (i + 1) (S.τ i)) [] with
  | some acc => cond (acc.all newOk && nodB (acc.map fun e => e.2.1) && ls.all (fun i => keysB acc (S.τ i)) && acc.all (fun e => keysBO acc e.2.2 && (match S.σ e.1 with | some _ => true | none => false)))
      (some (mkSt S.nt (ls.map fun i => (i, (S.τ i).ren (renOf acc))) (acc.map fun e => (e.2.1, e.2.2.ren (renOf acc))))) none
  | none => none

/-! ### Sound -/
theorem lkL_mem {α : Type} : ∀ {hp : List (Loc × α)} {l : Loc} {x : α}, lkL hp l = some x → (l, x) ∈ hp
  | [], _, _, h => by simp [lkL] at h
  | e :: r, l, x, h => by
    unfold lkL at h
    cases hb : eqL e.1 l with
    | true =>
      rw [hb] at h
      simp only [cond_true, Option.some.injEq] at h
      have := eqL_iff.1 hb
      subst h; subst this
      exact List.mem_cons_self ..
    | false =>
      rw [hb] at h
      exact List.mem_cons_of_mem _ (lkL_mem h)
theorem lkL_some {α : Type} : ∀ {hp : List (Loc × α)} {l : Loc} {x : α}, (l, x) ∈ hp → ∃ y, lkL hp l = some y
  | [], _, _, h => by simp at h
  | e :: r, l, x, h => by
    unfold lkL
    cases hb : eqL e.1 l with
    | true => exact ⟨_, rfl⟩
    | false =>
      rcases List.mem_cons.1 h with h | h
      · subst h
        exact absurd rfl (eqL_not.1 hb)
      · exact lkL_some h
theorem reach_σ {σ : Loc → Option O} : ∀ (n : Nat) (td : List (Loc × Nat)) (acc acc' : List (Loc × Loc × O)), reach σ n td acc = some acc' → (∀ e ∈ acc, σ e.1 = some e.2.2) → ∀ e ∈ acc', σ e.1 = some e.2.2
  | _, [], acc, acc', h, ha => by
    have : acc = acc' := by cases ‹Nat› <;> simpa [reach] using h
    subst this; exact ha
  | 0, _ :: _, acc, acc', h, ha => by simp [reach] at h
  | n + 1, (l, p) :: r, acc, acc', h, ha => by
    unfold reach at h
    split at h
    · exact reach_σ n r acc acc' h ha
    · split at h
      · simp at h
      · rename_i o ho
        refine reach_σ n _ _ acc' h (fun e he => ?_)
        rcases List.mem_append.1 he with he | he
        · exact ha e he
        · rw [List.mem_singleton.1 he]; exact ho
theorem reach_nd (σ : Loc → Option O) : ∀ (n : Nat) (td : List (Loc × Nat)) (acc acc' : List (Loc × Loc × O)), reach σ n td acc = some acc' → (acc.map (·.1)).Nodup → (acc'.map (·.1)).Nodup ∧ ∀ a b, a ∈ acc' → b ∈ acc' → a.1 = b.1 → a.2.1 = b.2.1 := by
  have fin : ∀ (acc : List (Loc × Loc × O)), (acc.map (·.1)).Nodup → ∀ a b, a ∈ acc → b ∈ acc → a.1 = b.1 → a.2.1 = b.2.1 := by
    intro acc hn a b ha hb he
    have hp : acc.Pairwise (fun x y => x.1 ≠ y.1) := List.pairwise_map.1 hn
    obtain ⟨i, hi, hxi⟩ := List.getElem_of_mem ha
    obtain ⟨j, hj, hej⟩ := List.getElem_of_mem hb
    by_cases hij : i = j
    · subst hij
      rw [← hxi, ← hej]
    · exfalso
      rcases Nat.lt_or_gt_of_ne hij with hlt | hlt
      · have := List.pairwise_iff_getElem.1 hp i j hi hj hlt
        rw [hxi, hej] at this
        exact this he
      · have := List.pairwise_iff_getElem.1 hp j i hj hi hlt
        rw [hxi, hej] at this
        exact this he.symm
  intro n
  induction n with
  | zero =>
    intro td acc acc' h hn
    cases td with
    | nil => simp [reach] at h; subst h; exact ⟨hn, fin _ hn⟩
    | cons => simp [reach] at h
  | succ n ih =>
    intro td acc acc' h hn
    cases td with
    | nil => simp [reach] at h; subst h; exact ⟨hn, fin _ hn⟩
    | cons x r =>
      obtain ⟨l, p⟩ := x
      unfold reach at h
      split at h
      · exact ih _ _ _ h hn
      · rename_i hl
        split at h
        · simp at h
        · refine ih _ _ _ h ?_
          rw [List.map_append]
          refine List.nodup_append.2 ⟨hn, by simp, fun a ha b hb => ?_⟩
          simp only [List.map_cons, List.map_nil, List.mem_singleton] at hb
          subst hb
          rintro rfl
          obtain ⟨e, he, rfl⟩ := List.mem_map.1 ha
          obtain ⟨y, hy⟩ := lkL_some (hp := acc) (l := e.1) (x := e.2) he
          rw [hl] at hy; simp at hy
theorem lkN_some {ls : List (Nat × T)} {i : Nat} : lkN ls i = .dead ∨ (i, lkN ls i) ∈ ls := by
  induction ls with
  | nil => exact .inl rfl
  | cons e r ih =>
    unfold lkN
    cases hb : Nat.beq e.1 i with
    | true =>
      right
      have : e.1 = i := Nat.eq_of_beq_eq_true hb
      subst this
      exact List.mem_cons_self ..
    | false =>
      rcases ih with ih | ih
      · exact .inl ih
      · exact .inr (List.mem_cons_of_mem _ ih)
theorem nodB_ok : ∀ {ls : List Loc}, nodB ls = true → ls.Nodup
  | [], _ => .nil
  | l :: r, h => by
    simp only [nodB, Bool.and_eq_true, Bool.not_eq_true', List.any_eq_false] at h
    refine List.nodup_cons.2 ⟨fun hm => ?_, nodB_ok h.2⟩
    exact h.1 l hm (eqL_iff.2 rfl)
def keyP (acc : List (Loc × Loc × O)) (l : Loc) : Prop := keyB acc l = true
mutual
theorem keysB_ok {acc : List (Loc × Loc × O)} : ∀ (t : T), keysB acc t = true → t.keysIn (keyP acc)
  | .own l, h => h
  | .ptr l _, h => h
  | .eptr l _ _ _, h => h
  | .it l, h => h
  | .agg cs, h => keysBL_ok cs h
  | .tup cs, h => keysBL_ok cs h
  | .fn _ fs cs, h => by
    have h : (keysBL acc fs && keysBL acc cs) = true := h
    simp only [Bool.and_eq_true] at h
    exact ⟨keysBL_ok fs h.1, keysBL_ok cs h.2⟩
  | .s _, _ | .ifc _ _, _ | .sl _ _, _ | .ep _, _ | .cown _ _ _, _ | .cbox _ _, _ | .dead, _ => trivial
theorem keysBL_ok {acc : List (Loc × Loc × O)} : ∀ (ts : List T), keysBL acc ts = true → keysInL (keyP acc) ts
  | [], _ => trivial
  | x :: r, h => by
    have h : (keysB acc x && keysBL acc r) = true := h
    simp only [Bool.and_eq_true] at h
    exact ⟨keysB_ok x h.1, keysBL_ok r h.2⟩
end
def invOf (acc : List (Loc × Loc × O)) (l' : Loc) : Loc := match acc.find? (fun e => eqL e.2.1 l') with
  | some e => e.1
  | none => l'
theorem cntS_low {s : Nat} (h : s < 1000) : cntS s = 1 := by
  have : Nat.ble 1000 s = false := by
    cases hb : Nat.ble 1000 s with
    | false => rfl
    | true => have := Nat.le_of_ble_eq_true hb; omega
  simp [cntS, this]
theorem cntS_high {s : Nat} (h : 1000000000 ≤ s) : cntS s = 1 := by
  have : Nat.ble (s + 1) 1000000000 = false := by
    cases hb : Nat.ble (s + 1) 1000000000 with
    | false => rfl
    | true => have := Nat.le_of_ble_eq_true hb; omega
  simp [cntS, this]
theorem nrm_ok {ls : List Nat} {S S' : St} (h : nrm ls S = some S') : ∃ ρ π K, Renames S S' ρ π K := by
  unfold nrm at h
  split at h
  · rename_i acc hacc
    cases hb : (acc.all newOk && nodB (acc.map fun e => e.2.1) && ls.all (fun i => keysB acc (S.τ i)) && acc.all (fun e => keysBO acc e.2.2 && (match S.σ e.1 with | some _ => true | none => false))) with
    | false => rw [hb] at h; simp at h
    | true =>
      rw [hb] at h
      simp only [cond_true, Option.some.injEq] at h
      subst h
      simp only [Bool.and_eq_true, List.all_eq_true] at hb
      obtain ⟨⟨⟨hnew, hnod⟩, hslot⟩, hobj⟩ := hb
      have hnod := nodB_ok hnod
      have hσ := reach_σ 1000 _ _ acc hacc (fun e he => by simp at he)
      have hne : ∀ e ∈ acc, e.2.1.2 = 0 ∧ ((e.1.1 < 1000 ∧ e.2.1 = e.1) ∨ (1000 ≤ e.1.1 ∧ 1000000000 ≤ e.2.1.1)) := by
        intro e he
        have := hnew e he
        simp only [newOk, Bool.and_eq_true, Bool.or_eq_true, eqL_iff] at this
        refine ⟨Nat.eq_of_beq_eq_true this.1, this.2.imp (fun h => ⟨Nat.le_of_ble_eq_true h.1, h.2⟩) (fun h => ⟨Nat.le_of_ble_eq_true h.1, Nat.le_of_ble_eq_true h.2⟩)⟩
      have hinv : ∀ e ∈ acc, invOf acc e.2.1 = e.1 := by
        intro e he
        unfold invOf
        split
        · rename_i x hx
          have h1 := List.mem_of_find?_eq_some hx
          have h2 : eqL x.2.1 e.2.1 = true := by simpa using List.find?_some hx
          have h2 := eqL_iff.1 h2
          have : x = e := by
            have hp : acc.Pairwise (fun a b => a.2.1 ≠ b.2.1) := List.pairwise_map.1 hnod
            by_cases hxe : x = e
            · exact hxe
            · exfalso
              obtain ⟨i, hi, hxi⟩ := List.getElem_of_mem h1
              obtain ⟨j, hj, hej⟩ := List.getElem_of_mem he
              have hij : i ≠ j := by rintro rfl; exact hxe (hxi.symm.trans hej)
              rcases Nat.lt_or_gt_of_ne hij with hlt | hlt
              · have := List.pairwise_iff_getElem.1 hp i j hi hj hlt
                rw [hxi, hej] at this
                exact this h2
              · have := List.pairwise_iff_getElem.1 hp j i hj hi hlt
                rw [hxi, hej] at this
                exact this h2.symm
          rw [this]
        · rename_i hx
          have := List.find?_eq_none.1 hx e he
          exact absurd (eqL_iff.2 rfl) this
      have hren : ∀ l e, lkL acc l = some e → renOf acc l = e.1 ∧ (l, e) ∈ acc := fun l e hl => ⟨by simp [renOf, hl], lkL_mem hl⟩
      have hKcase : ∀ l, keyP acc l → (∃ e, (l, e) ∈ acc ∧ renOf acc l = e.1) ∨ (lkL acc l = none ∧ renOf acc l = l ∧ l.1 < 1000 ∧ l.2 = 0) := by
        intro l hK
        unfold keyP keyB at hK
        cases hl : lkL acc l with
        | some e => exact .inl ⟨e, (hren l e hl).2, (hren l e hl).1⟩
        | none =>
          rw [hl] at hK
          simp only [Option.isSome_none, Bool.false_or, Bool.and_eq_true] at hK
          exact .inr ⟨rfl, by simp [renOf, hl], Nat.le_of_ble_eq_true hK.1, Nat.eq_of_beq_eq_true hK.2⟩
      refine ⟨renOf acc, invOf acc, keyP acc, ⟨rfl, fun i => ?_, fun l' o' hl' => ?_, fun l hK o' ho' => ?_, fun l hK hlt => ?_, fun s hs => ?_⟩⟩
      · rcases lkN_some (ls := ls.map fun i => (i, (S.τ i).ren (renOf acc))) (i := i) with h | h
        · exact .inl h
        · right
          obtain ⟨j, hj, he⟩ := List.mem_map.1 h
          injection he with e1 e2
          subst e1
          exact ⟨e2.symm, keysB_ok _ (hslot j hj)⟩
      · have hl2 : lkL (acc.map fun e : Loc × Loc × O => (e.2.1, e.2.2.ren (renOf acc))) l' = some o' := hl'
        have hm := lkL_mem hl2
        obtain ⟨e, he, hee⟩ := List.mem_map.1 hm
        injection hee with e1 e2
        subst e1; subst e2
        have h1 := hinv e he
        refine ⟨e.2.2, by rw [h1]; exact hσ e he, ?_, rfl, ?_, ?_⟩
        · rw [h1]
          obtain ⟨y, hy⟩ := lkL_some (hp := acc) (l := e.1) (x := e.2) he
          obtain ⟨r1, r2⟩ := hren _ _ hy
          rw [r1]
          exact (reach_nd S.σ 1000 _ _ acc hacc (by simp)).2 _ _ r2 he rfl
        · have := hobj e he
          have : keysBO acc e.2.2 = true := this.1
          cases hoo : e.2.2 with
          | box ty cs =>
            rw [hoo] at this
            exact keysBL_ok cs this
          | arr => trivial
          | iter => trivial
        · have h0 := (hne e he).1
          rw [h0]
          show 0 < cntS e.2.1.1
          rcases (hne e he).2 with ⟨g1, g2⟩ | ⟨g1, g2⟩
          · rw [g2, cntS_low g1]; exact Nat.one_pos
          · rw [cntS_high g2]; exact Nat.one_pos
      · have hl2 : lkL (acc.map fun e : Loc × Loc × O => (e.2.1, e.2.2.ren (renOf acc))) (renOf acc l) = some o' := ho'
        have hm := lkL_mem hl2
        obtain ⟨e, he, hee⟩ := List.mem_map.1 hm
        injection hee with e1 e2
        rcases hKcase l hK with ⟨x, hx, hr⟩ | ⟨hn, hr, h1, h2⟩
        · rw [hr]; exact hinv _ hx
        · rw [hr] at e1 ⊢
          rcases (hne e he).2 with ⟨g1, g2⟩ | ⟨g1, g2⟩
          · have : e.1 = l := g2.symm.trans e1
            obtain ⟨y, hy⟩ := lkL_some (hp := acc) (l := l) (x := e.2) (by rw [← this]; exact he)
            rw [hn] at hy; simp at hy
          · rw [e1] at g2; omega
      · show (renOf acc l).2 < cntS (renOf acc l).1
        rcases hKcase l hK with ⟨x, hx, hr⟩ | ⟨hn, hr, h1, h2⟩
        · rw [hr]
          have h0 := (hne _ hx).1
          simp only at h0
          rw [h0]
          rcases (hne _ hx).2 with ⟨g1, g2⟩ | ⟨g1, g2⟩
          · simp only at g1 g2; rw [g2, cntS_low g1]; exact Nat.one_pos
          · simp only at g2; rw [cntS_high g2]; exact Nat.one_pos
        · rw [hr, h2, cntS_low h1]; exact Nat.one_pos
      · constructor
        · cases hl : lkL acc (s, 0) with
          | none => simp [renOf, hl]
          | some e =>
            obtain ⟨r1, r2⟩ := hren _ _ hl
            rw [r1]
            rcases (hne _ r2).2 with ⟨g1, g2⟩ | ⟨g1, g2⟩
            · exact g2
            · simp only at g1; omega
        · unfold keyP keyB
          have : Nat.ble (s + 1) 1000 = true := Nat.ble_eq_true_of_le (by omega)
          simp [this]
  · simp at h
end Go.Proofs.YthcaodlfnlhfbaaDoorT
