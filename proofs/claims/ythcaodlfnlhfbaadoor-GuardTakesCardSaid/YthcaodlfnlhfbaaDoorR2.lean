/- The ends of texts; GlyphWords, GlyphNames. -/
import Derived.Test.YthcaodlfnlhfbaaDoorR1
import Derived.Test.YthcaodlfnlhfbaaDoorG10
namespace Go.Proofs.YthcaodlfnlhfbaaDoorT
open Go Go.Proofs
set_option linter.unusedVariables false
theorem r27 (s : ByteArray) : Rn 27 [st s] ((endp s s.size 0 1 1).t, [.dead]) := by
  have loop : ∀ (f i : Nat) (a b : Int), s.size ≤ i + f → i ≤ s.size → L27_0 (suf s i) ⟨0, 0⟩ ⟨a, b⟩ ((endp s f i a b).t, [.dead]) := by
    intro f
    induction f with
    | zero => intro i a b h h'; exact l27_0 _ _ _ _ (cF (by rw [size_suf]; simp; omega) rfl)
    | succ f ih =>
      intro i a b h h'
      have hz := size_suf s i
      refine l27_0 _ _ _ _ (cd (fun hn => ?_) (fun hn => ?_))
      · have hn : i < s.size := by omega
        have hd := dec_size hn
        refine ⟨_, _, runs55 _, _, r38 a b _, ?_⟩
        rw [go_suf hn]
        refine ⟨⟨by omega, by omega⟩, ?_⟩
        rw [toN]
        have e : (suf s i).extract (Utf8.decode s i).2 (suf s i).size = suf s (i + (Utf8.decode s i).2) := suf_suf s i _
        rw [e, endp, if_pos hn]
        exact ih _ _ _ (by omega) (by omega)
      · rw [endp_end (by omega)]
  have := loop s.size 0 1 1 (by omega) (by omega)
  rw [suf_zero] at this
  exact f27 _ _ this
theorem nxt_nl (s : ByteArray) : nxt s = 10 ↔ ((Lib.decodeGo s).1 : Int) = 10 := by
  unfold nxt
  split
  · rename_i h; rw [h.1]; constructor <;> intro h <;> simp at h
  · exact Iff.rfl
theorem r28 (s : ByteArray) : Rn 28 [st s] ((endp s s.size 0 1 1).t, [.dead]) := by
  have loop : ∀ (f i : Nat) (a b : Int), s.size ≤ i + f → i ≤ s.size → L28_0 (suf s i) ⟨0, 0⟩ ⟨a, b⟩ ((endp s f i a b).t, [.dead]) := by
    intro f
    induction f with
    | zero => intro i a b h h'; exact l28_0 _ _ _ _ (cF (by rw [size_suf]; simp; omega) rfl)
    | succ f ih =>
      intro i a b h h'
      have hz := size_suf s i
      refine l28_0 _ _ _ _ (cd (fun hn => ?_) (fun hn => ?_))
      · have hn : i < s.size := by omega
        have hd := dec_size hn
        have e : (suf s i).extract (Utf8.decode s i).2 (suf s i).size = suf s (i + (Utf8.decode s i).2) := suf_suf s i _
        refine ⟨_, _, r40 _, cd (fun h10 => ?_) (fun h10 => ?_)⟩
        · rw [nxt_nl, go_suf hn] at h10
          rw [go_suf hn]
          refine ⟨⟨by omega, by omega⟩, ?_⟩
          have := ih (i + (Utf8.decode s i).2) (bh a b (Utf8.decode s i).1).fLine (bh a b (Utf8.decode s i).1).fCol (by omega) (by omega)
          rw [toN, e, endp, if_pos hn]
          rw [bh, if_pos h10] at this ⊢
          exact this
        · rw [nxt_nl, go_suf hn] at h10
          rw [go_suf hn]
          refine ⟨⟨by omega, by omega⟩, ?_⟩
          have := ih (i + (Utf8.decode s i).2) (bh a b (Utf8.decode s i).1).fLine (bh a b (Utf8.decode s i).1).fCol (by omega) (by omega)
          rw [toN, e, endp, if_pos hn]
          rw [bh, if_neg h10] at this ⊢
          exact this
      · rw [endp_end (by omega)]
  have := loop s.size 0 1 1 (by omega) (by omega)
  rw [suf_zero] at this
  exact f28 _ _ this
theorem glyphWords_row (s : ByteArray) : Rn 7 [st s] (tb true, [.dead]) := by
  have h12 := r12 s
  have h25 := r25 s
  unfold res at h12 h25
  refine f7 _ _ ⟨_, r11, cF rfl ⟨_, ⟨_, _⟩, _, h12, _, ⟨_, _⟩, _, h25, _, r26 _ (words_len s), cT rfl (cT (by simp) (cT (by simp) ⟨_, r27 s, _, r28 s, tbR (by simp)⟩))⟩⟩
theorem glyphNames_row (s : ByteArray) (hs : s.size ≤ maxLen) (n : Int) : Rn 5 [st s, i32 n] (tb true, [.dead, .dead]) :=
  f5 _ _ _ ⟨_, r11, cT rfl ⟨_, r13 s hs, _, r14 s hs, cT (by simp) ⟨_, r15 n, _, r16 n, tbR (by simp)⟩⟩⟩
end Go.Proofs.YthcaodlfnlhfbaaDoorT
