/- The machine's operators and jumps. -/
import Derived.Test.YthcaodlfnlhfbaaY2
namespace Go.Proofs.YthcaodlfnlhfbaaT
open Go Go.Proofs Go.RowKit
set_option linter.unusedVariables false
def tr (b : Bool) : Int := if b then 1 else 0
theorem truth53 (b : Bool) (w : World) : Calls Try.prog 53 #[.bool b] w fun ex w' => ex = .returned (vi (tr b)) ∧ w' = w := by
  cases b
  all_goals go_enter Try.func53, Try.ntmps53
  all_goals go_wp2
  all_goals go_ret
  all_goals exact ⟨rfl, rfl⟩
theorem eqb (op : ByteArray) (l : List UInt8) : (op.toList == l) = decide (op = bs l) := by
  rw [ByteArray.toList_eq]
  obtain ⟨⟨d⟩⟩ := op
  refine Bool.eq_iff_iff.2 ?_
  simp [bs]
theorem beq_to (x y : Int) : (x == y) = decide (x = y) := by
  by_cases h : x = y <;> simp [h]
/-- An operator of two numbers. -/
def bz (op : ByteArray) (x y : Int) : Int :=
  if op = bs [43] then wrap64 (x + y) else if op = bs [45] then wrap64 (x - y) else if op = bs [42] then wrap64 (x * y)
  else if op = bs [60] then tr (decide (x < y)) else if op = bs [60, 61] then tr (decide (x ≤ y)) else if op = bs [61, 61] then tr (decide (x = y)) else tr (!decide (x = y))
theorem M.k1 {w : World} {B : Nat} {s : List Int} {e : Int} (h : M w B s e) : w.cell? ⟨B, 1, none⟩ = some (vi e) := by
  obtain ⟨v, h, _⟩ := h
  exact c1 h
set_option maxRecDepth 100000 in
set_option maxHeartbeats 4000000 in
theorem bin56 (w : World) (B : Nat) (s : List Int) (x y : Int) (op : ByteArray) (h : M w B (y :: x :: s) 0) (hl : s.length ≤ 1900) :
    Calls Try.prog 56 #[pt B, .string op] w fun ex w' => ex = .returned (.tuple #[]) ∧ M w' B (bz op x y :: s) (bad (bz op x y)) ∧ FrM B w w' := by
  go_enter Try.func56, Try.ntmps56
  go_wp2_with fail
  refine (pop54 w B (x :: s) y 0 h (by simp; omega)).mono ?_
  rintro ex w1 ⟨rfl, h1, b1⟩
  go_wp2_with fail
  refine (pop54 w1 B s x 0 h1 (by omega)).mono ?_
  rintro ex w2 ⟨rfl, h2, b2⟩
  have k1 := h2.k1
  go_wp2_with (first
    | (go_at_call 53; refine (truth53 _ _).mono ?_; rintro ex w' ⟨rfl, rfl⟩)
    | (go_at_call 52; refine (push52 _ B s _ h2 (by omega)).mono ?_; rintro ex w3 ⟨rfl, h3, b3⟩))
  all_goals go_end0
  all_goals refine ⟨rfl, ?_, (b1.trans b2).trans b3⟩
  all_goals simp only [eqb, decide_eq_true_eq, decide_eq_false_iff_not, beq_to] at *
  all_goals (unfold bz; try simp only [*, if_true, if_false]; first | done | exact h3 | (simp_all; done))
def Jumped (B : Nat) (s : List Int) (x : Int) (o : Bool) (ex : Ending) (w' : World) : Prop :=
  (decide (x ≠ 0) = o ∧ ex = .returned (.bool true) ∧ M w' B (tr o :: s) 0) ∨ (decide (x ≠ 0) = !o ∧ ex = .returned (.bool false) ∧ M w' B s 0)
set_option maxRecDepth 100000 in
set_option maxHeartbeats 4000000 in
/-- A jump: over what is behind, or on. -/
theorem jump55 (w : World) (B : Nat) (s : List Int) (x : Int) (o : Bool) (h : M w B (x :: s) 0) (hl : s.length ≤ 1900) :
    Calls Try.prog 55 #[pt B, .bool o] w fun ex w' => Jumped B s x o ex w' ∧ FrM B w w' := by
  have hbad : bad (tr o) = 0 := by cases o <;> rfl
  go_enter Try.func55, Try.ntmps55
  go_wp2_with fail
  refine (pop54 w B s x 0 h (by omega)).mono ?_
  rintro ex w1 ⟨rfl, h1, b1⟩
  have k1 := h1.k1
  go_wp2_with (first
    | (go_at_call 53; refine (truth53 _ _).mono ?_; rintro ex w' ⟨rfl, rfl⟩)
    | (go_at_call 52; refine (push52 _ B s _ h1 (by omega)).mono ?_; rintro ex w3 ⟨rfl, h3, b3⟩))
  all_goals go_ret
  · rename_i hc
    refine ⟨.inr ⟨?_, rfl, h1⟩, b1⟩
    revert hc
    by_cases hx : x = 0 <;> cases o <;> simp [hx]
  · rename_i hc
    refine ⟨.inl ⟨?_, rfl, hbad ▸ h3⟩, b1.trans b3⟩
    revert hc
    by_cases hx : x = 0 <;> cases o <;> simp [hx]
end Go.Proofs.YthcaodlfnlhfbaaT
