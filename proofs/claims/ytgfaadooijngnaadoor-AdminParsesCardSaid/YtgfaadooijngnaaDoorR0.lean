/- The document's names. -/
import Derived.Test.YtgfaadooijngnaaDoorX1
import Derived.Test.YtgfaadooijngnaaDoorG3
namespace Go.Proofs.YtgfaadooijngnaaDoorT
open Go Go.Proofs
set_option linter.unusedVariables false
/-- The rune that a text begins with, as the document has it: -1, if it is none. -/
def nxt (s : ByteArray) : Int := if (Lib.decodeGo s).1 = 65533 ∧ (Lib.decodeGo s).2 ≤ 1 then -1 else ((Lib.decodeGo s).1 : Int)
theorem r29 (s : ByteArray) : Rn 29 [st s] (.tup [i32 (nxt s), i64 (Lib.decodeGo s).2], [.dead]) := by
  refine f29 _ _ ⟨_, _, runs41 s, cd (fun h => cd (fun h' => ?_) (fun h' => ?_)) (fun h => ?_)⟩
  · rw [nxt, if_pos (by omega)]
  · rw [nxt, if_neg (by omega)]
  · rw [nxt, if_neg (by omega)]
theorem ins_nxt (s : ByteArray) : ins (nxt s) = ins (Lib.decodeGo s).1 := by
  unfold nxt
  split
  · rename_i h
    rw [h.1]; rfl
  · rfl
theorem ltr_nxt (s : ByteArray) : ltr (nxt s) = ltr (Lib.decodeGo s).1 := by
  unfold nxt
  split
  · rename_i h
    rw [h.1]; rfl
  · rfl
theorem dig_nxt (s : ByteArray) : dig (nxt s) = dig (Lib.decodeGo s).1 := by
  unfold nxt
  split
  · rename_i h
    rw [h.1]; rfl
  · rfl
/-- The document's run. -/
theorem r30 (t : ByteArray) (hs : t.size ≤ maxLen) : Rn 30 [st t] (.tup [i64 (run t t.size 0 0).1, i64 (run t t.size 0 0).2], [.dead]) := by
  have hm := Nat.le_trans hs maxLen_lt
  have loop : ∀ (f n k : Nat), t.size ≤ n + f → n ≤ t.size → k ≤ n → L30_0 t (n : Int) (k : Int) (.tup [i64 (run t f n k).1, i64 (run t f n k).2], [.dead]) := by
    intro f
    induction f with
    | zero => intro n k h h' hk; exact l30_0 _ _ _ _ (cF (by simp; omega) (by rw [run]))
    | succ f ih =>
      intro n k h h' hk
      refine l30_0 _ _ _ _ (cd (fun h1 => ?_) (fun h1 => ?_))
      · have hn : n < t.size := by omega
        refine ⟨⟨by omega, by omega⟩, nxt (suf t n), (Lib.decodeGo (suf t n)).2, ?_, ins (nxt (suf t n)), r42 _, ?_⟩
        · rw [toN]; exact r29 _
        have hd : Lib.decodeGo (suf t n) = Utf8.decode t n := by
          rw [dec_go, if_neg (by rw [size_suf]; omega), dec_suf, Nat.add_zero]
        rw [ins_nxt, hd]
        have hz := dec_size hn
        refine cb (fun h2 => ?_) (fun h2 => ?_)
        · rw [run, if_neg (by simp at h2; simp [h2])]
        · have h2 : ins (Utf8.decode t n).1 = true := by simpa using h2
          rw [run, if_pos ⟨hn, h2⟩, w64 (by omega), wS (by omega), show (n : Int) + ((Utf8.decode t n).2 : Int) = ((n + (Utf8.decode t n).2 : Nat) : Int) by omega]
          exact ih _ _ (by omega) (by omega) (by omega)
      · rw [run_end _ _ _ (by omega)]
  exact f30 _ _ (loop t.size 0 0 (by omega) (by omega) (by omega))
theorem r19 (t : ByteArray) (hs : t.size ≤ maxLen) : Rn 19 [st t] (tb (nm t), [.dead]) := by
  refine f19 _ _ ⟨_, _, r29 t, _, _, r30 t hs, _, r31 _, ?_⟩
  rw [ltr_nxt]
  refine cb (fun h => cd (fun h' => tbR ?_) (fun h' => tbR ?_)) (fun h => tbR ?_)
  · simp [nm, h, show (run t t.size 0 0).1 = t.size by omega]; omega
  · simp [nm, show ¬ (run t t.size 0 0).1 = t.size by omega]
  · simp [nm, h]
end Go.Proofs.YtgfaadooijngnaaDoorT
