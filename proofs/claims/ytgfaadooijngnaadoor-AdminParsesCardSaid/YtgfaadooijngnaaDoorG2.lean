/- Letters, digits, names: what the functions on runes come to. -/
import Derived.Test.YtgfaadooijngnaaDoorG1
import Derived.Test.YtgfaadooijngnaaDoorPA
namespace Go.Proofs.YtgfaadooijngnaaDoorT
open Go Go.Proofs
set_option linter.unusedVariables false
theorem tbR {a b : Bool} {l : List T} (h : a = b) : ((tb a, l) : T × List T) = (tb b, l) := by rw [h]
def ltr (n : Int) : Bool := decide ((97 ≤ n ∧ n ≤ 122) ∨ (65 ≤ n ∧ n ≤ 90) ∨ (1072 ≤ n ∧ n ≤ 1103))
def dig (n : Int) : Bool := decide (48 ≤ n ∧ n ≤ 57)
def ins (n : Int) : Bool := ltr n || dig n || decide (n = 95)
theorem r26 (n : Int) : Rn 26 [i32 n] (tb (ltr n), [.dead]) := by
  refine f26 _ _ ?_
  repeat' refine cd (fun h => ?_) (fun h => ?_)
  all_goals exact tbR (Bool.eq_iff_iff.2 (by simp [ltr]; omega))
theorem r31 (n : Int) : Rn 31 [i32 n] (tb (ltr n), [.dead]) := by
  refine f31 _ _ ?_
  repeat' refine cd (fun h => ?_) (fun h => ?_)
  all_goals exact tbR (Bool.eq_iff_iff.2 (by simp [ltr]; omega))
theorem r39 (n : Int) : Rn 39 [i32 n] (tb (dig n), [.dead]) := by
  refine f39 _ _ ?_
  repeat' refine cd (fun h => ?_) (fun h => ?_)
  all_goals exact tbR (Bool.eq_iff_iff.2 (by simp [dig]; omega))
theorem r53 (n : Int) : Rn 53 [i32 n] (tb (dig n), [.dead]) := by
  refine f53 _ _ ?_
  repeat' refine cd (fun h => ?_) (fun h => ?_)
  all_goals exact tbR (Bool.eq_iff_iff.2 (by simp [dig]; omega))
theorem r25 (n : Int) : Rn 25 [i32 n] (tb (ins n), [.dead]) := by
  refine f25 _ _ ⟨_, r26 n, cb (fun h => tbR (by simp [ins, h])) (fun h => ⟨_, r39 n, cb (fun h' => tbR (by simp [ins, h'])) (fun h' => tbR (by simp [ins, h, h']))⟩)⟩
theorem r42 (n : Int) : Rn 42 [i32 n] (tb (ins n), [.dead]) := by
  refine f42 _ _ ⟨_, r31 n, cb (fun h => tbR (by simp [ins, h])) (fun h => ⟨_, r53 n, cb (fun h' => tbR (by simp [ins, h'])) (fun h' => tbR (by simp [ins, h, h']))⟩)⟩
/-- How far, and how many runes, of what may stand in a name there is from a place on. -/
def run (t : ByteArray) : Nat → Nat → Nat → Nat × Nat
  | 0, n, k => (n, k)
  | f + 1, n, k => if n < t.size ∧ ins (Utf8.decode t n).1 = true then run t f (n + (Utf8.decode t n).2) (k + 1) else (n, k)
theorem run_end {t : ByteArray} : ∀ (f n k : Nat), t.size ≤ n → run t f n k = (n, k)
  | 0, n, k, h => rfl
  | f + 1, n, k, h => by rw [run, if_neg (by omega)]
theorem run_more {t : ByteArray} : ∀ (f g n k : Nat), t.size ≤ n + f → t.size ≤ n + g → run t f n k = run t g n k := by
  intro f
  induction f with
  | zero => intro g n k h1 h2; rw [run_end 0 n k (by omega), run_end g n k (by omega)]
  | succ f ih =>
    intro g n k h1 h2
    cases g with
    | zero => rw [run_end _ n k (by omega), run_end _ n k (by omega)]
    | succ g =>
      rw [run, run]
      by_cases h : n < t.size ∧ ins (Utf8.decode t n).1 = true
      · rw [if_pos h, if_pos h]
        have := dec_size h.1
        exact ih g _ _ (by omega) (by omega)
      · rw [if_neg h, if_neg h]
theorem run_le {t : ByteArray} : ∀ (f n k : Nat), n ≤ t.size → n ≤ (run t f n k).1 ∧ (run t f n k).1 ≤ t.size ∧ k ≤ (run t f n k).2 ∧ (run t f n k).2 + n ≤ (run t f n k).1 + k := by
  intro f
  induction f with
  | zero => intro n k h; simp only [run]; omega
  | succ f ih =>
    intro n k h
    rw [run]
    split
    · rename_i hh
      have := dec_size hh.1
      have := ih (n + (Utf8.decode t n).2) (k + 1) (by omega)
      omega
    · simp only; omega
end Go.Proofs.YtgfaadooijngnaaDoorT
