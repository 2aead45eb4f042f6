/- Behind a line feed all words are the same, one line further down. -/
import Derived.Test.YthcaodlfnlhfbaaDoorG10
namespace Go.Proofs.YthcaodlfnlhfbaaDoorT
open Go Go.Proofs
set_option linter.unusedVariables false
section
variable {s t : ByteArray}
theorem bt_of_suf {i j : Nat} (h : suf s i = suf t j) (d : Nat) : bt s (i + d) = bt t (j + d) := by rw [← bt_suf, ← bt_suf, h]
theorem dec_of_suf {i j : Nat} (h : suf s i = suf t j) (d : Nat) : Utf8.decode s (i + d) = Utf8.decode t (j + d) := by rw [← dec_suf, ← dec_suf, h]
theorem size_of_suf {i j : Nat} (h : suf s i = suf t j) : s.size - i = t.size - j := by rw [← size_suf, ← size_suf, h]
theorem suf_of_suf {i j : Nat} (h : suf s i = suf t j) (d : Nat) : suf s (i + d) = suf t (j + d) := by rw [← suf_suf, ← suf_suf, h]
theorem rem_of_suf : ∀ (f i j k : Nat), suf s i = suf t j → i ≤ s.size → j ≤ t.size → ∃ e r, rem s f i k = (i + e, r) ∧ rem t f j k = (j + e, r) := by
  intro f
  induction f with
  | zero => intro i j k h hi hj; exact ⟨0, k, rfl, rfl⟩
  | succ f ih =>
    intro i j k h hi hj
    have hz := size_of_suf h
    have hb := bt_of_suf h 0
    have hd := dec_of_suf h 0
    simp only [Nat.add_zero] at hb hd
    rw [rem, rem]
    by_cases hc : i < s.size ∧ bt s i ≠ 10
    · rw [if_pos hc, if_pos (by omega), ← hd]
      have := dec_size hc.1
      obtain ⟨e, r, h1, h2⟩ := ih (i + (Utf8.decode s i).2) (j + (Utf8.decode s i).2) (k + 1) (suf_of_suf h _) (by omega) (by omega)
      exact ⟨(Utf8.decode s i).2 + e, r, by rw [h1, Nat.add_assoc], by rw [h2, Nat.add_assoc]⟩
    · rw [if_neg hc, if_neg (by omega)]
      exact ⟨0, k, rfl, rfl⟩
/-- Two words of the same kind and text; if P, one line apart. -/
def Like (P : Prop) (x y : W_glyph_Word) : Prop := x.fKind = y.fKind ∧ x.fText = y.fText ∧ (P → y.fAt_Line = x.fAt_Line + 1 ∧ y.fAt_Col = x.fAt_Col)
def LikeL (P : Prop) (xs ys : List W_glyph_Word) : Prop := xs.length = ys.length ∧ ∀ (k : Nat) (x y : W_glyph_Word), xs[k]? = some x → ys[k]? = some y → Like P x y
theorem LikeL.nil {P : Prop} : LikeL P [] [] := ⟨rfl, fun k x y h => by simp at h⟩
theorem LikeL.snoc {P : Prop} {xs ys : List W_glyph_Word} {x y : W_glyph_Word} (h : LikeL P xs ys) (hxy : Like P x y) : LikeL P (xs ++ [x]) (ys ++ [y]) := by
  refine ⟨by simp [h.1], fun k a b ha hb => ?_⟩
  rw [List.getElem?_append] at ha hb
  by_cases hk : k < xs.length
  · rw [if_pos hk] at ha
    rw [if_pos (by rw [← h.1]; exact hk)] at hb
    exact h.2 k a b ha hb
  · rw [if_neg hk] at ha
    rw [if_neg (by rw [← h.1]; exact hk), ← h.1] at hb
    cases hm : k - xs.length with
    | zero => rw [hm] at ha hb; simp at ha hb; subst ha hb; exact hxy
    | succ m => rw [hm] at ha; simp at ha
/-- What stands behind alike has words alike. -/
theorem lex_like {P : Prop} : ∀ (d i j ln ln' col col' : Nat) (out out' : List W_glyph_Word), s.size ≤ i + d → suf s i = suf t j → i ≤ s.size → j ≤ t.size → (P → ln' = ln + 1 ∧ col' = col) → LikeL P out out' →
    (lexR s i ln col out).2.2 = (lexR t j ln' col' out').2.2 ∧ LikeL P (lexR s i ln col out).1 (lexR t j ln' col' out').1 ∧
      (P → (lexR s i ln col out).2.2 ≠ 0 → (lexR t j ln' col' out').2.1.1 = (lexR s i ln col out).2.1.1 + 1 ∧ (lexR t j ln' col' out').2.1.2 = (lexR s i ln col out).2.1.2) := by
  intro d
  induction d using Nat.strongRecOn with
  | _ d ih =>
    intro i j ln ln' col col' out out' h hs hi hj hP ho
    have hz := size_of_suf hs
    have hb := bt_of_suf hs 0
    simp only [Nat.add_zero] at hb
    rw [lexR_eq (s := s), lexR_eq (s := t)]
    by_cases h0 : s.size ≤ i
    · have h0' : t.size ≤ j := by omega
      rw [if_pos h0, if_pos h0']
      exact ⟨rfl, ho, fun _ h => absurd rfl h⟩
    have h0' : ¬ t.size ≤ j := by omega
    rw [if_neg h0, if_neg h0', ← hb]
    by_cases h1 : bt s i = 10
    · rw [if_pos h1, if_pos h1]
      exact ih (d - 1) (by omega) _ _ _ _ _ _ _ _ (by omega) (suf_of_suf hs 1) (by omega) (by omega) (fun p => by have := hP p; omega) ho
    rw [if_neg h1, if_neg h1]
    by_cases h2 : bt s i = 32 ∨ bt s i = 9
    · rw [if_pos h2, if_pos h2]
      exact ih (d - 1) (by omega) _ _ _ _ _ _ _ _ (by omega) (suf_of_suf hs 1) (by omega) (by omega) (fun p => by have := hP p; omega) ho
    rw [if_neg h2, if_neg h2]
    by_cases h3 : bt s i = 35
    · rw [if_pos h3, if_pos h3]
      obtain ⟨e, r, e1, e2⟩ := rem_of_suf (s.size + t.size) i j 0 hs hi hj
      have hp := rem_pos (s := s) (i := i) (by omega) h1
      have hl := rem_le (s := s) s.size i 0 hi
      rw [rem_more s.size (s.size + t.size) i 0 (by omega) (by omega), e1] at hp hl ⊢
      rw [rem_more t.size (s.size + t.size) j 0 (by omega) (by omega), e2]
      simp only at hp hl ⊢
      exact ih (d - 1) (by omega) _ _ _ _ _ _ _ _ (by omega) (suf_of_suf hs e) (by omega) (by omega) (fun p => by have := hP p; omega) ho
    rw [if_neg h3, if_neg h3, ← hs, ← ho.1]
    cases hf : fst (suf s i) with
    | none => exact ⟨rfl, .nil, fun p _ => by have := hP p; simp only; omega⟩
    | some q =>
      obtain ⟨k, n, r⟩ := q
      obtain ⟨hst, hr1, hn1⟩ := fst_stp (by rw [size_suf]; omega) hf
      have hle := hst.le
      rw [size_suf] at hn1
      simp only
      by_cases h4 : out.length = 3000
      · rw [if_pos h4, if_pos h4]
        exact ⟨rfl, .nil, fun p _ => by have := hP p; simp only; omega⟩
      rw [if_neg h4, if_neg h4]
      exact ih (d - 1) (by omega) _ _ _ _ _ _ _ _ (by omega) (suf_of_suf hs n) (by omega) (by omega) (fun p => by have := hP p; omega)
        (ho.snoc ⟨rfl, rfl, fun p => by have := hP p; simp only [wd]; omega⟩)
/-- Lines are bounded. -/
theorem lex_bound {B : Nat} : ∀ (d i ln col : Nat) (out : List W_glyph_Word), s.size ≤ i + d → i ≤ s.size → ln ≤ i + 1 → s.size + 1 ≤ B → (∀ x ∈ out, 0 ≤ x.fAt_Line ∧ x.fAt_Line ≤ B) →
    (lexR s i ln col out).2.1.1 ≤ B ∧ ∀ x ∈ (lexR s i ln col out).1, 0 ≤ x.fAt_Line ∧ x.fAt_Line ≤ B := by
  intro d
  induction d using Nat.strongRecOn with
  | _ d ih =>
    intro i ln col out h hi hl hB ho
    rw [lexR_eq]
    split
    · exact ⟨Nat.zero_le _, ho⟩
    · rename_i h0
      split
      · exact ih (d - 1) (by omega) _ _ _ _ (by omega) (by omega) (by omega) hB ho
      · rename_i h1
        split
        · exact ih (d - 1) (by omega) _ _ _ _ (by omega) (by omega) (by omega) hB ho
        · split
          · have hp := rem_pos (s := s) (i := i) (by omega) h1
            have hr := rem_le (s := s) s.size i 0 hi
            exact ih (d - 1) (by omega) _ _ _ _ (by omega) (by omega) (by omega) hB ho
          · split
            · exact ⟨by simp only; omega, fun x hx => by simp at hx⟩
            · rename_i k n r hk
              obtain ⟨hst, hr1, hn1⟩ := fst_stp (by rw [size_suf]; omega) hk
              have hle := hst.le
              rw [size_suf] at hn1
              split
              · exact ⟨by simp only; omega, fun x hx => by simp at hx⟩
              · refine ih (d - 1) (by omega) _ _ _ _ (by omega) (by omega) (by omega) hB (fun x hx => ?_)
                rcases List.mem_append.1 hx with hx | hx
                · exact ho x hx
                · simp only [List.mem_singleton] at hx
                  subst hx
                  simp only [wd]; omega
theorem endp_like : ∀ (f i j a b : Nat), s.size ≤ i + f → suf s i = suf t j → i ≤ s.size → j ≤ t.size → a ≤ i + 1 → b ≤ i + 1 → s.size ≤ 8000 →
    (endp t f j ((a + 1 : Nat) : Int) b).fLine = (endp s f i a b).fLine + 1 ∧ (endp t f j ((a + 1 : Nat) : Int) b).fCol = (endp s f i a b).fCol ∧ 0 ≤ (endp s f i a b).fLine ∧ (endp s f i a b).fLine ≤ 8001 := by
  intro f
  induction f with
  | zero => intro i j a b h hs hi hj ha hb h8; show ((a + 1 : Nat) : Int) = (a : Int) + 1 ∧ (b : Int) = b ∧ 0 ≤ (a : Int) ∧ (a : Int) ≤ 8001; omega
  | succ f ih =>
    intro i j a b h hs hi hj ha hb h8
    have hz := size_of_suf hs
    have hd := dec_of_suf hs 0
    simp only [Nat.add_zero] at hd
    rw [endp, endp]
    by_cases h0 : i < s.size
    · have h0' : j < t.size := by omega
      rw [if_pos h0, if_pos h0', ← hd]
      have hsz := dec_size h0
      by_cases h1 : ((Utf8.decode s i).1 : Int) = 10
      · rw [bh, bh, if_pos h1, if_pos h1, wS (by omega), wS (by omega)]
        exact ih _ _ (a + 1) 1 (by omega) (suf_of_suf hs _) (by omega) (by omega) (by omega) (by omega) h8
      · rw [bh, bh, if_neg h1, if_neg h1, wS (by omega)]
        exact ih _ _ a (b + 1) (by omega) (suf_of_suf hs _) (by omega) (by omega) (by omega) (by omega) h8
    · have h0' : ¬ j < t.size := by omega
      rw [if_neg h0, if_neg h0']
      show ((a + 1 : Nat) : Int) = (a : Int) + 1 ∧ (b : Int) = b ∧ 0 ≤ (a : Int) ∧ (a : Int) ≤ 8001
      omega
end
end Go.Proofs.YthcaodlfnlhfbaaDoorT
