/- Plain lemmas: conditions, numbers, lists. -/
import Derived.Test.YtfknpnkdedckhaaGreatDoorT25
import Derived.IntWalk
namespace Go.Proofs.YtfknpnkdedckhaaGreatDoorT
open Go
set_option linter.unusedVariables false

theorem cb {b : Bool} {A B : Prop} (ht : b = true → A) (hf : b = false → B) : cond b A B := by cases b with
  | true => exact ht rfl
  | false => exact hf rfl
theorem cd {p : Prop} [Decidable p] {A B : Prop} (ht : p → A) (hf : ¬ p → B) : cond (decide p) A B := cb (fun h => ht (of_decide_eq_true h)) (fun h => hf (of_decide_eq_false h))
theorem cdn {p : Prop} [Decidable p] {A B : Prop} (ht : ¬ p → A) (hf : p → B) : cond (!(decide p)) A B := cb (fun h => ht (by simpa using h)) (fun h => hf (by simpa using h))
theorem cT {b : Bool} {A B : Prop} (hb : b = true) (h : A) : cond b A B := by rw [hb]; exact h
theorem cF {b : Bool} {A B : Prop} (hb : b = false) (h : B) : cond b A B := by rw [hb]; exact h
theorem ck {b : Bool} {K : Prop} (hb : b = true) (h : K) : chk b K := by rw [hb]; exact h
theorem ckn {n m : Nat} {K : Prop} (hb : n ≤ m) (h : K) : chk (Nat.ble n m) K := ck (Nat.ble_eq_true_of_le hb) h
theorem wS {k : Nat} (h : k < 9223372036854775807) : IntKind.wrap .i64 ((k : Int) + 1) = ((k + 1 : Nat) : Int) := by
  rw [IntWalk.i64_in _ (by omega)]
  omega
theorem w64 {n : Int} (h : -9223372036854775808 ≤ n ∧ n ≤ 9223372036854775807) : IntKind.wrap .i64 n = n := IntWalk.i64_in n h
theorem w32 {n : Int} (h : -2147483648 ≤ n ∧ n ≤ 2147483647) : IntKind.wrap .i32 n = n := IntWalk.i32_in n h
theorem wf64 {n : Int} (h : (Lit.int .i64 n).wf = true) : -9223372036854775808 ≤ n ∧ n ≤ 9223372036854775807 := by
  simp only [Lit.wf, Bool.and_eq_true, decide_eq_true_eq] at h
  exact h
theorem toN (k : Nat) : Int.toNat (k : Int) = k := by simp
theorem maxLen_lt : maxLen ≤ 9223372036854775807 := by decide
/-- An element of a list that is the image of another one. -/
theorem getm {α : Type} {f : α → T} {l : List α} {k : Nat} (h : k < l.length) : (l.map f)[Int.toNat (k : Int)]? = some (f l[k]) := by simp [h]
theorem len_map {α : Type} (f : α → T) (l : List α) : (l.map f).length = l.length := List.length_map ..
/-- Lists that agree so far. -/
theorem take_more {α : Type} {A B : List α} {k : Nat} (h : A.take k = B.take k) (ha : k < A.length) (hb : k < B.length) (e : A[k] = B[k]) : A.take (k + 1) = B.take (k + 1) := by
  rw [List.take_succ_eq_append_getElem ha, List.take_succ_eq_append_getElem hb, h, e]
theorem take_all {α : Type} {A B : List α} {k : Nat} (h : A.take k = B.take k) (ha : A.length ≤ k) (hb : B.length ≤ k) : A = B := by
  rwa [List.take_of_length_le ha, List.take_of_length_le hb] at h
theorem ne_at {α : Type} {A B : List α} {k : Nat} (ha : k < A.length) (hb : k < B.length) (e : A[k] ≠ B[k]) : A ≠ B := by
  rintro rfl
  exact e rfl
/-- A loop that holds two lists against each other. -/
theorem eq_loop {α : Type} {f : α → T} {E : α → α → Bool} (hE : ∀ x y, E x y = true ↔ x = y) {s1 s2 : List T} {L : Int → Int → T × List T → Prop} {K : T × List T → Prop} {D : T × List T}
    (rule : ∀ n k R, cond (decide (k < n)) (∃ x : α, (0 ≤ k ∧ s1[Int.toNat k]? = some (f x)) ∧ (∃ y : α, (0 ≤ k ∧ s2[Int.toNat k]? = some (f y)) ∧ cond (!(E x y)) (R = D) (L n (IntKind.wrap .i64 (k + 1)) R))) (K R) → L n k R)
    {A B : List α} (h1 : s1 = A.map f) (h2 : s2 = B.map f) (hA : A.length ≤ maxLen) (hl : A.length = B.length) {R : T × List T} (hy : A = B → K R) (hn : A ≠ B → R = D) : L ((s1.length : Nat) : Int) 0 R := by
  have hA := Nat.le_trans hA maxLen_lt
  subst h1; subst h2
  have loop : ∀ (d k : Nat), k + d = A.length → A.take k = B.take k → L (((A.map f).length : Nat) : Int) (k : Int) R := by
    intro d
    induction d with
    | zero =>
      intro k hk ht
      exact rule _ _ _ (cF (by simp; omega) (hy (take_all ht (by omega) (by omega))))
    | succ d ih =>
      intro k hk ht
      have ha : k < A.length := by omega
      have hbk : k < B.length := by omega
      refine rule _ _ _ (cT (by simp; omega) ⟨A[k], ⟨by omega, getm ha⟩, B[k], ⟨by omega, getm hbk⟩, ?_⟩)
      refine cb (fun hne => ?_) (fun he => ?_)
      · have he : E A[k] B[k] = false := by simpa using hne
        exact hn (ne_at ha hbk (fun e => by rw [(hE _ _).2 e] at he; simp at he))
      · have he : E A[k] B[k] = true := by simpa using he
        rw [wS (by omega)]
        exact ih (k + 1) (by omega) (take_more ht ha hbk ((hE _ _).1 he))
  exact loop A.length 0 (by omega) rfl
theorem bool_eq {b b' : Bool} {p : Prop} (h : b = true ↔ p) (h' : b' = true ↔ p) : b = b' := by
  cases b <;> cases b' <;> simp_all
end Go.Proofs.YtfknpnkdedckhaaGreatDoorT
