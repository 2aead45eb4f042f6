/- Names, numbers, signs: what the functions on texts come to. -/
import Derived.Test.YtgfaadooijngnaaDoorG2
namespace Go.Proofs.YtgfaadooijngnaaDoorT
open Go Go.Proofs
set_option linter.unusedVariables false
/-- A name. -/
def nm (t : ByteArray) : Bool := ltr (Lib.decodeGo t).1 && decide ((run t t.size 0 0).1 = t.size) && decide ((run t t.size 0 0).2 ≤ 24)
theorem bleF {n m : Nat} (h : ¬ n ≤ m) : Nat.ble n m = false := by
  cases hb : Nat.ble n m with
  | false => rfl
  | true => exact absurd (Nat.le_of_ble_eq_true hb) h
theorem bleT {n m : Nat} (h : n ≤ m) : Nat.ble n m = true := Nat.ble_eq_true_of_le h
theorem cble {n m : Nat} {A B : Prop} (ht : n ≤ m → A) (hf : ¬ n ≤ m → B) : cond (Nat.ble n m) A B := cb (fun h => ht (Nat.le_of_ble_eq_true h)) (fun h => hf (fun hh => by rw [bleT hh] at h; cases h))
theorem ltr_ins {n : Int} (h : ltr n = true) : ins n = true := by simp [ins, h]
theorem r14 (t : ByteArray) (hs : t.size ≤ maxLen) : Rn 14 [st t] (tb (nm t), [.dead]) := by
  have hm := Nat.le_trans hs maxLen_lt
  have loop : ∀ (f pos k : Nat), t.size ≤ pos + f → pos ≤ t.size → 0 < pos → 0 < k → k ≤ pos → L14_0 (k : Int) t pos (tb (decide ((run t f pos k).1 = t.size) && decide ((run t f pos k).2 ≤ 24)), [.dead]) := by
    intro f
    induction f with
    | zero =>
      intro pos k h h' h0 h1 hk
      refine l14_0 _ _ _ _ (cF (bleF (by omega)) (cT (by simp; omega) (tbR (Bool.eq_iff_iff.2 ?_))))
      have hp : pos = t.size := by omega
      simp only [run, hp, decide_true, Bool.true_and, decide_eq_true_eq]
      omega
    | succ f ih =>
      intro pos k h h' h0 h1 hk
      refine l14_0 _ _ _ _ (cble (fun hn => ?_) (fun hn => ?_))
      · have hn : pos < t.size := hn
        have hz := dec_size hn
        refine ⟨_, r25 _, cb (fun h2 => tbR ?_) (fun h2 => ?_)⟩
        · rw [run, if_neg (by simp at h2; simp [h2])]
          simp only [Bool.and_eq_true, decide_eq_true_eq]
          simp; omega
        · have h2 : ins (Utf8.decode t pos).1 = true := by simpa using h2
          rw [run, if_pos ⟨hn, h2⟩, wS (by omega)]
          exact cF (by simp; omega) (ih _ _ (by omega) (by omega) (by omega) (by omega) (by omega))
      · rw [run_end _ _ _ (by omega)]
        refine cT (by simp; omega) (tbR (Bool.eq_iff_iff.2 ?_))
        have hp : pos = t.size := by omega
        simp only [hp, decide_true, Bool.true_and, decide_eq_true_eq]
        omega
  refine f14 _ _ (l14_0 _ _ _ _ (cble (fun hn => ?_) (fun hn => ?_)))
  · have hn : 0 < t.size := by omega
    have hz := dec_size hn
    have hd : Lib.decodeGo t = Utf8.decode t 0 := by rw [dec_go, if_neg (by omega)]
    refine ⟨_, r25 _, cb (fun h2 => tbR ?_) (fun h2 => cT (by simp) ⟨_, r26 _, cb (fun h3 => tbR ?_) (fun h3 => ?_)⟩)⟩
    · have h2 : ins (Utf8.decode t 0).1 = false := by simpa using h2
      have h3 : ltr (Utf8.decode t 0).1 = false := by
        cases h3 : ltr (Utf8.decode t 0).1 with
        | false => rfl
        | true => rw [ltr_ins h3] at h2; cases h2
      simp [nm, hd, h3]
    · have h3 : ltr (Utf8.decode t 0).1 = false := by simpa using h3
      simp [nm, hd, h3]
    · have h2 : ins (Utf8.decode t 0).1 = true := by simpa using h2
      have h3 : ltr (Utf8.decode t 0).1 = true := by simpa using h3
      obtain ⟨f, hf⟩ : ∃ f, t.size = f + 1 := ⟨t.size - 1, by omega⟩
      have hr : run t t.size 0 0 = run t f (0 + (Utf8.decode t 0).2) (0 + 1) := by rw [hf, run, if_pos ⟨hn, h2⟩]
      rw [nm, hd, h3, hr, Bool.true_and, show IntKind.wrap .i64 (0 + 1) = ((1 : Nat) : Int) by decide]
      exact loop f _ _ (by omega) (by omega) (by omega) (by omega) (by omega)
  · have h0 : t.size = 0 := by omega
    refine cF (by simp) (tbR ?_)
    have hd : Lib.decodeGo t = (65533, 0) := by rw [dec_go, if_pos h0]
    simp [nm, hd, ltr]
end Go.Proofs.YtgfaadooijngnaaDoorT
