/- The value of an expression, by the evaluator. -/
import Derived.Test.YthcaodlfnlhfbaaY6
import Derived.Test.YthcaodlfnlhfbaaE8
namespace Go.Proofs.YthcaodlfnlhfbaaT
open Go Go.Proofs
set_option linter.unusedVariables false
def fits (z : Int) : Except Int Int := if bad z = 0 then .ok z else .error 3
/-- The value of an expression, or its error. -/
def sem (V : List W_api_Var) : E → Except Int Int
  | .lit n => .ok n
  | .ref s => match V[(ix s 0 V).toNat]? with
    | some v => fits v.fN
    | none => .error 5
  | .not x => match sem V x with
    | .ok n => .ok (tr (decide (n = 0)))
    | .error c => .error c
  | .neg x => match sem V x with
    | .ok n => .ok (-n)
    | .error c => .error c
  | .bin op l r => match sem V l with
    | .error c => .error c
    | .ok n =>
      if op = bs [38, 38] ∧ n = 0 then .ok 0 else if op = bs [124, 124] ∧ n ≠ 0 then .ok 1 else
      match sem V r with
      | .error c => .error c
      | .ok m => if op = bs [38, 38] ∨ op = bs [124, 124] then .ok (tr (!decide (m = 0))) else fits (bz op n m)
  | .non => .error 1
def inR (n : Int) : Prop := -1000000000 ≤ n ∧ n ≤ 1000000000
theorem bad_in {n : Int} (h : inR n) : bad n = 0 := if_neg (by unfold inR at h; omega)
theorem in_bad {n : Int} (h : bad n = 0) : inR n := by
  unfold bad at h
  split at h
  · cases h
  · unfold inR; omega
theorem bad_cases (n : Int) : (bad n = 0 ∧ inR n) ∨ (bad n = 3 ∧ ¬ inR n) := by
  unfold bad inR
  split
  · exact .inr ⟨rfl, by omega⟩
  · exact .inl ⟨rfl, by omega⟩
theorem in_tr (b : Bool) : inR (tr b) := by cases b <;> simp [inR, tr]
theorem sem_in (V : List W_api_Var) : ∀ (x : E), x.snd = true → (∀ n, sem V x = .ok n → inR n) ∧ (∀ c, sem V x = .error c → c ≠ 0) := by
  have hf : ∀ z, (∀ n, fits z = .ok n → inR n) ∧ (∀ c, fits z = .error c → c ≠ 0) := by
    intro z
    unfold fits
    constructor
    · intro n h
      split at h
      · cases h; exact in_bad (by assumption)
      · cases h
    · intro c h
      split at h
      · cases h
      · cases h; decide
  intro x
  induction x with
  | non => intro h; simp [E.snd] at h
  | lit n => intro h; simp only [E.snd, decide_eq_true_eq] at h; exact ⟨fun m hm => by cases hm; unfold inR; omega, fun c hc => by cases hc⟩
  | ref s =>
    intro _
    simp only [sem]
    split
    · exact hf _
    · exact ⟨fun n h => (by cases h), fun c h => by cases h; decide⟩
  | not x ih =>
    intro h
    obtain ⟨h1, h2⟩ := ih h
    simp only [sem]
    split
    · exact ⟨fun n h => by cases h; exact in_tr _, fun c h => by cases h⟩
    · rename_i c hc
      exact ⟨fun n h => (by cases h), fun c' h => by cases h; exact h2 _ hc⟩
  | neg x ih =>
    intro h
    obtain ⟨h1, h2⟩ := ih h
    simp only [sem]
    split
    · rename_i m hm
      have := h1 m hm
      exact ⟨fun n h => by cases h; unfold inR at this ⊢; omega, fun c h => by cases h⟩
    · rename_i c hc
      exact ⟨fun n h => (by cases h), fun c' h => by cases h; exact h2 _ hc⟩
  | bin op l r ih1 ih2 =>
    intro h
    simp only [E.snd, Bool.and_eq_true] at h
    obtain ⟨h1, h2⟩ := ih1 h.1.2
    obtain ⟨h3, h4⟩ := ih2 h.2
    simp only [sem]
    split
    · rename_i c hc
      exact ⟨fun n h => (by cases h), fun c' h => by cases h; exact h2 _ hc⟩
    · rename_i n hn
      split
      · exact ⟨fun n h => by cases h; exact ⟨by omega, by omega⟩, fun c h => by cases h⟩
      split
      · exact ⟨fun n h => by cases h; exact ⟨by omega, by omega⟩, fun c h => by cases h⟩
      split
      · rename_i c hc
        exact ⟨fun n h => (by cases h), fun c' h => by cases h; exact h4 _ hc⟩
      · split
        · exact ⟨fun n h => by cases h; exact in_tr _, fun c h => by cases h⟩
        · exact hf _
end Go.Proofs.YthcaodlfnlhfbaaT
