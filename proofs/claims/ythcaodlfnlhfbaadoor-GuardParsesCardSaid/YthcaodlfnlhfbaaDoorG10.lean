/- The end of a text; two rows of words held against each other; what a program that does nothing answers wrongly. -/
import Derived.Test.YthcaodlfnlhfbaaDoorG9
namespace Go.Proofs.YthcaodlfnlhfbaaDoorT
open Go Go.Proofs
set_option linter.unusedVariables false
def endp (s : ByteArray) : Nat → Nat → Int → Int → W_api_Pos
  | 0, i, a, b => ⟨a, b⟩
  | f + 1, i, a, b => if i < s.size then endp s f (i + (Utf8.decode s i).2) (bh a b (Utf8.decode s i).1).fLine (bh a b (Utf8.decode s i).1).fCol else ⟨a, b⟩
theorem endp_end {s : ByteArray} {f i : Nat} {a b : Int} (h : s.size ≤ i) : endp s f i a b = ⟨a, b⟩ := by
  cases f with
  | zero => rfl
  | succ f => rw [endp, if_neg (by omega)]
theorem go_suf {s : ByteArray} {i : Nat} (h : i < s.size) : Lib.decodeGo (suf s i) = Utf8.decode s i := by
  rw [dec_go, if_neg (by rw [size_suf]; omega), dec_suf, Nat.add_zero]
theorem lexR_len {s : ByteArray} : ∀ (d i ln col : Nat) (out : List W_glyph_Word), s.size ≤ i + d → out.length ≤ 3000 → (lexR s i ln col out).1.length ≤ 3000 := by
  intro d
  induction d using Nat.strongRecOn with
  | _ d ih =>
    intro i ln col out h ho
    rw [lexR_eq]
    split
    · exact ho
    · rename_i hi
      split
      · exact ih (d - 1) (by omega) _ _ _ _ (by omega) ho
      · rename_i h10
        split
        · exact ih (d - 1) (by omega) _ _ _ _ (by omega) ho
        · split
          · have := rem_pos (s := s) (i := i) (by omega) h10
            exact ih (d - 1) (by omega) _ _ _ _ (by omega) ho
          · split
            · simp
            · rename_i k n r hk
              have := (fst_stp (by rw [size_suf]; omega) hk).1.le
              have := (fst_stp (by rw [size_suf]; omega) hk).2.1
              split
              · simp
              · exact ih (d - 1) (by omega) _ _ _ _ (by omega) (by simp; omega)
theorem words_len (s : ByteArray) : (wordsOf s).1.length ≤ 3000 := by
  unfold wordsOf
  split
  · simp
  · exact lexR_len s.size 0 1 1 [] (by omega) (by simp)
theorem r26 (A : List W_glyph_Word) (hA : A.length ≤ 3000) : Rn 26 [.sl 4 (A.map W_glyph_Word.t), .sl 4 (A.map W_glyph_Word.t)] (tb true, [.dead, .dead]) := by
  have loop : ∀ (d k : Nat), k + d = A.length → L26_0 (A.map W_glyph_Word.t) (A.map W_glyph_Word.t) (((A.map W_glyph_Word.t).length : Nat) : Int) (k : Int) (tb true, [.dead, .dead]) := by
    intro d
    induction d with
    | zero => intro k hk; exact l26_0 _ _ _ _ _ (cF (by simp; omega) rfl)
    | succ d ih =>
      intro k hk
      have hlt : k < A.length := by omega
      refine l26_0 _ _ _ _ _ (cT (by simp; omega) ⟨A[k], ⟨by omega, getm hlt⟩, ⟨A[k].fKind, A[k].fText, A[k].fAt_Line, A[k].fAt_Col⟩, ⟨by omega, getm hlt⟩, cF (by simp) ?_⟩)
      rw [wS (by omega)]
      exact ih (k + 1) (by omega)
  exact f26 _ _ _ (cF (by simp) (loop A.length 0 (by omega)))
def aw : ByteArray := bs [97, 60, 61, 49, 35, 120]
theorem aw_words : (wordsOf aw).2.2 = 0 ∧ (wordsOf aw).1.length = 3 ∧ (wordsOf aw).1[1]?.map W_glyph_Word.fText = some (bs [60, 61]) := by decide +kernel
theorem aw_name : nm (bs [209, 143, 49]) = true := by decide +kernel
theorem r11 : Rn 11 [] (tb true, []) := by
  obtain ⟨h1, h2, h3⟩ := aw_words
  have hR := r12 aw
  unfold res at hR
  have hx : (wordsOf aw).1[1]? = some ((wordsOf aw).1[1]'(by omega)) := List.getElem?_eq_getElem (by omega)
  rw [hx] at h3
  simp only [Option.map_some, Option.some.injEq] at h3
  refine f11 _ ⟨_, ⟨_, _⟩, _, hR, cT (by rw [h1]; rfl) (cT (by rw [len_map, h2]; rfl) ⟨(wordsOf aw).1[1]'(by omega), ⟨by omega, by rw [List.getElem?_map, hx]; rfl⟩, cT (by simpa using h3) ⟨_, r13 _ (by decide), ?_⟩⟩)⟩
  rw [aw_name]
end Go.Proofs.YthcaodlfnlhfbaaDoorT
