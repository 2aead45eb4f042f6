/- The end of a text; two rows of words held against each other; what a program that does nothing answers wrongly. -/
import Derived.Test.YthcaodlfnlhfbaaDoorG9
namespace Go.Proofs.YthcaodlfnlhfbaaDoorT
open Go Go.Proofs
set_option linter.unusedVariables false
def endp (s : ByteArray) : Nat → Nat → Int → Int → W_api_Pos
  | 0, i, a, b => ⟨a, b⟩
  | f + 1, i, a, b => if i < s.size then endp s f (i + (Utf8.decode s i).2) (bh a b (Utf8.decode s i).1).fLine (bh a b (Utf8.decode s i).1).fCol else ⟨a, b⟩
theorem endp_end {s : ByteArray} {f i : Nat} {a b : Int} (h : s.size ≤ i) : endp s f i a b = ⟨a, b⟩ := by
  cases f with
  | zero => rfl
  | succ f => rw [endp, if_neg (by omega)]
theorem go_suf {s : ByteArray} {i : Nat} (h : i < s.size) : Lib.decodeGo (suf s i) = Utf8.decode s i := by
  rw [dec_go, if_neg (by rw [size_suf]; omega), dec_suf, Nat.add_zero]
theorem r27 (s : ByteArray) : Rn 27 [st s] ((endp s s.size 0 1 1).t, [.dead]) := by
  have loop : ∀ (f i : Nat) (a b : Int), s.size ≤ i + f → i ≤ s.size → L27_0 (suf s i) ⟨0, 0⟩ ⟨a, b⟩ ((endp s f i a b).t, [.dead]) := by
    intro f
    induction f with
    | zero => intro i a b h h'; exact l27_0 _ _ _ _ (cF (by rw [size_suf]; simp; omega) rfl)
    | succ f ih =>
      intro i a b h h'
      have hz := size_suf s i
      refine l27_0 _ _ _ _ (cd (fun hn => ?_) (fun hn => ?_))
      · have hn : i < s.size := by omega
        have hd := dec_size hn
        refine ⟨_, _, runs55 _, _, r38 a b _, ?_⟩
        rw [go_suf hn]
        refine ⟨⟨by omega, by omega⟩, ?_⟩
        rw [toN]
        have e : (suf s i).extract (Utf8.decode s i).2 (suf s i).size = suf s (i + (Utf8.decode s i).2) := suf_suf s i _
        rw [e, endp, if_pos hn]
        exact ih _ _ _ (by omega) (by omega)
      · rw [endp_end (by omega)]
  have := loop s.size 0 1 1 (by omega) (by omega)
  rw [suf_zero] at this
  exact f27 _ _ this
theorem nxt_nl (s : ByteArray) : nxt s = 10 ↔ ((Lib.decodeGo s).1 : Int) = 10 := by
  unfold nxt
  split
  · rename_i h; rw [h.1]; constructor <;> intro h <;> simp at h
  · exact Iff.rfl
theorem r28 (s : ByteArray) : Rn 28 [st s] ((endp s s.size 0 1 1).t, [.dead]) := by
  have loop : ∀ (f i : Nat) (a b : Int), s.size ≤ i + f → i ≤ s.size → L28_0 (suf s i) ⟨0, 0⟩ ⟨a, b⟩ ((endp s f i a b).t, [.dead]) := by
    intro f
    induction f with
    | zero => intro i a b h h'; exact l28_0 _ _ _ _ (cF (by rw [size_suf]; simp; omega) rfl)
    | succ f ih =>
      intro i a b h h'
      have hz := size_suf s i
      refine l28_0 _ _ _ _ (cd (fun hn => ?_) (fun hn => ?_))
      · have hn : i < s.size := by omega
        have hd := dec_size hn
        have e : (suf s i).extract (Utf8.decode s i).2 (suf s i).size = suf s (i + (Utf8.decode s i).2) := suf_suf s i _
        refine ⟨_, _, r40 _, cd (fun h10 => ?_) (fun h10 => ?_)⟩
        · rw [nxt_nl, go_suf hn] at h10
          rw [go_suf hn]
          refine ⟨⟨by omega, by omega⟩, ?_⟩
          have := ih (i + (Utf8.decode s i).2) (bh a b (Utf8.decode s i).1).fLine (bh a b (Utf8.decode s i).1).fCol (by omega) (by omega)
          rw [toN, e, endp, if_pos hn]
          rw [bh, if_pos h10] at this ⊢
          exact this
        · rw [nxt_nl, go_suf hn] at h10
          rw [go_suf hn]
          refine ⟨⟨by omega, by omega⟩, ?_⟩
          have := ih (i + (Utf8.decode s i).2) (bh a b (Utf8.decode s i).1).fLine (bh a b (Utf8.decode s i).1).fCol (by omega) (by omega)
          rw [toN, e, endp, if_pos hn]
          rw [bh, if_neg h10] at this ⊢
          exact this
      · rw [endp_end (by omega)]
  have := loop s.size 0 1 1 (by omega) (by omega)
  rw [suf_zero] at this
  exact f28 _ _ this
theorem lexR_len {s : ByteArray} : ∀ (d i ln col : Nat) (out : List W_glyph_Word), s.size ≤ i + d → out.length ≤ 3000 → (lexR s i ln col out).1.length ≤ 3000 := by
  intro d
  induction d using Nat.strongRecOn with
  | _ d ih =>
    intro i ln col out h ho
    rw [lexR_eq]
    split
    · exact ho
    · rename_i hi
      split
      · exact ih (d - 1) (by omega) _ _ _ _ (by omega) ho
      · rename_i h10
        split
        · exact ih (d - 1) (by omega) _ _ _ _ (by omega) ho
        · split
          · have := rem_pos (s := s) (i := i) (by omega) h10
            exact ih (d - 1) (by omega) _ _ _ _ (by omega) ho
          · split
            · simp
            · rename_i k n r hk
              have := (fst_stp (by rw [size_suf]; omega) hk).1.le
              have := (fst_stp (by rw [size_suf]; omega) hk).2.1
              split
              · simp
              · exact ih (d - 1) (by omega) _ _ _ _ (by omega) (by simp; omega)
theorem words_len (s : ByteArray) : (wordsOf s).1.length ≤ 3000 := by
  unfold wordsOf
  split
  · simp
  · exact lexR_len s.size 0 1 1 [] (by omega) (by simp)
theorem r26 (A : List W_glyph_Word) (hA : A.length ≤ 3000) : Rn 26 [.sl 4 (A.map W_glyph_Word.t), .sl 4 (A.map W_glyph_Word.t)] (tb true, [.dead, .dead]) := by
  have loop : ∀ (d k : Nat), k + d = A.length → L26_0 (A.map W_glyph_Word.t) (A.map W_glyph_Word.t) (((A.map W_glyph_Word.t).length : Nat) : Int) (k : Int) (tb true, [.dead, .dead]) := by
    intro d
    induction d with
    | zero => intro k hk; exact l26_0 _ _ _ _ _ (cF (by simp; omega) rfl)
    | succ d ih =>
      intro k hk
      have hlt : k < A.length := by omega
      refine l26_0 _ _ _ _ _ (cT (by simp; omega) ⟨A[k], ⟨by omega, getm hlt⟩, ⟨A[k].fKind, A[k].fText, A[k].fAt_Line, A[k].fAt_Col⟩, ⟨by omega, getm hlt⟩, cF (by simp) ?_⟩)
      rw [wS (by omega)]
      exact ih (k + 1) (by omega)
  exact f26 _ _ _ (cF (by simp) (loop A.length 0 (by omega)))
def aw : ByteArray := bs [97, 60, 61, 49, 35, 120]
theorem aw_words : (wordsOf aw).2.2 = 0 ∧ (wordsOf aw).1.length = 3 ∧ (wordsOf aw).1[1]?.map W_glyph_Word.fText = some (bs [60, 61]) := by decide +kernel
theorem aw_name : nm (bs [209, 143, 49]) = true := by decide +kernel
theorem r11 : Rn 11 [] (tb true, []) := by
  obtain ⟨h1, h2, h3⟩ := aw_words
  have hR := r12 aw
  unfold res at hR
  have hx : (wordsOf aw).1[1]? = some ((wordsOf aw).1[1]'(by omega)) := List.getElem?_eq_getElem (by omega)
  rw [hx] at h3
  simp only [Option.map_some, Option.some.injEq] at h3
  refine f11 _ ⟨_, ⟨_, _⟩, _, hR, cT (by rw [h1]; rfl) (cT (by rw [len_map, h2]; rfl) ⟨(wordsOf aw).1[1]'(by omega), ⟨by omega, by rw [List.getElem?_map, hx]; rfl⟩, cT (by simpa using h3) ⟨_, r13 _ (by decide), ?_⟩⟩)⟩
  rw [aw_name]
theorem glyphWords_row (s : ByteArray) : Rn 7 [st s] (tb true, [.dead]) := by
  have h12 := r12 s
  have h25 := r25 s
  unfold res at h12 h25
  refine f7 _ _ ⟨_, r11, cF rfl ⟨_, ⟨_, _⟩, _, h12, _, ⟨_, _⟩, _, h25, _, r26 _ (words_len s), cT rfl (cT (by simp) (cT (by simp) ⟨_, r27 s, _, r28 s, tbR (by simp)⟩))⟩⟩
theorem glyphNames_row (s : ByteArray) (hs : s.size ≤ maxLen) (n : Int) : Rn 5 [st s, i32 n] (tb true, [.dead, .dead]) :=
  f5 _ _ _ ⟨_, r11, cT rfl ⟨_, r13 s hs, _, r14 s hs, cT (by simp) ⟨_, r15 n, _, r16 n, tbR (by simp)⟩⟩⟩
end Go.Proofs.YthcaodlfnlhfbaaDoorT
