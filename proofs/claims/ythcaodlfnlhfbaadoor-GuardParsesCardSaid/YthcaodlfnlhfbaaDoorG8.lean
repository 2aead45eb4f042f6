/- The words of a text, as a function; the document's function comes to them. -/
import Derived.Test.YthcaodlfnlhfbaaDoorG7
namespace Go.Proofs.YthcaodlfnlhfbaaDoorT
open Go Go.Proofs
set_option linter.unusedVariables false
/-- Steps over runes, none of them a line feed. -/
inductive Stp1 (s : ByteArray) : Nat → Nat → Nat → Prop
  | nil (j : Nat) : Stp1 s j j 0
  | cons {j m r : Nat} (h : j < s.size) (hn : (Utf8.decode s j).1 ≠ 10) (h' : Stp1 s (j + (Utf8.decode s j).2) m r) : Stp1 s j m (r + 1)
theorem Stp1.le {s : ByteArray} {j m r : Nat} (h : Stp1 s j m r) : j + r ≤ m := by
  induction h with
  | nil j => omega
  | cons h hn h' ih => have := dec_size h; omega
theorem Stp1.suf {s : ByteArray} {i : Nat} {j m r : Nat} (h : Stp1 (suf s i) j m r) : Stp1 s (i + j) (i + m) r := by
  induction h with
  | nil j => exact .nil _
  | cons h hn h' ih =>
    rw [size_suf] at h
    rw [dec_suf] at hn ih
    exact .cons (by omega) hn (by rw [Nat.add_assoc]; exact ih)
theorem ins_nl {n : Nat} (h : ins n = true) : n ≠ 10 := by
  rintro rfl
  simp [ins, ltr, dig] at h
theorem run_stp {t : ByteArray} : ∀ (f n k : Nat), ∃ r, (run t f n k).2 = k + r ∧ Stp1 t n (run t f n k).1 r
  | 0, n, k => ⟨0, rfl, .nil n⟩
  | f + 1, n, k => by
    rw [run]
    split
    · rename_i h
      obtain ⟨r, h1, h2⟩ := run_stp (t := t) f (n + (Utf8.decode t n).2) (k + 1)
      exact ⟨r + 1, by rw [h1]; omega, .cons h.1 (ins_nl h.2) h2⟩
    · exact ⟨0, rfl, .nil n⟩
theorem low_step {t : ByteArray} {j c : Nat} (h : bt t j = c) (hc : c < 128) (h10 : c ≠ 10) (hj : j < t.size) {m r : Nat} (h' : Stp1 t (j + 1) m r) : Stp1 t j m (r + 1) := by
  have hd := dec_low (s := t) (i := j) (by omega)
  exact .cons hj (by rw [hd]; show bt t j ≠ 10; omega) (by rw [hd]; exact h')
theorem fst_stp {t : ByteArray} (h0 : 0 < t.size) {k n r : Nat} (h : fst t = some (k, n, r)) : Stp1 t 0 n r ∧ 1 ≤ r ∧ n ≤ t.size := by
  have hq := run_le (t := t) t.size 0 0 (by omega)
  obtain ⟨r', h1, h2⟩ := run_stp (t := t) t.size 0 0
  have hgo : Lib.decodeGo t = Utf8.decode t 0 := by rw [dec_go, if_neg (by omega)]
  have hpos : ins (Utf8.decode t 0).1 = true → 1 ≤ (run t t.size 0 0).2 := by
    intro hi
    obtain ⟨f, hf⟩ : ∃ f, t.size = f + 1 := ⟨t.size - 1, by omega⟩
    have := run_le (t := t) f (0 + (Utf8.decode t 0).2) (0 + 1) (by have := dec_size h0; omega)
    rw [hf, run, if_pos ⟨h0, hi⟩]
    omega
  unfold fst at h
  rw [hgo] at h
  split at h
  · rename_i hl
    split at h
    · simp only [Option.some.injEq, Prod.mk.injEq] at h
      obtain ⟨rfl, rfl, rfl⟩ := h
      exact ⟨by rw [h1, Nat.zero_add]; exact h2, hpos (ltr_ins hl), hq.2.1⟩
    · cases h
  · split at h
    · rename_i hl hd
      split at h
      · simp only [Option.some.injEq, Prod.mk.injEq] at h
        obtain ⟨rfl, rfl, rfl⟩ := h
        exact ⟨by rw [h1, Nat.zero_add]; exact h2, hpos (by simp [ins, hd]), hq.2.1⟩
      · cases h
    · split at h
      · cases h
      · rename_i hl hd hs
        simp only [Option.some.injEq, Prod.mk.injEq] at h
        obtain ⟨rfl, rfl, rfl⟩ := h
        refine ⟨?_, by omega, sgn_le h0⟩
        unfold sgn at hs ⊢
        split
        · rename_i h2
          exact low_step (c := bt t 0) rfl (by omega) (by omega) (by omega) (low_step (c := bt t 1) rfl (by omega) (by omega) (by omega) (.nil _))
        · rename_i h2
          rw [if_neg h2] at hs
          split
          · exact low_step (c := bt t 0) rfl (by omega) (by omega) (by omega) (.nil _)
          · rename_i h3
            rw [if_neg h3] at hs
            exact absurd rfl hs
/-- The end of a remark, and its runes. -/
def rem (s : ByteArray) : Nat → Nat → Nat → Nat × Nat
  | 0, i, k => (i, k)
  | f + 1, i, k => if i < s.size ∧ bt s i ≠ 10 then rem s f (i + (Utf8.decode s i).2) (k + 1) else (i, k)
theorem rem_le {s : ByteArray} : ∀ (f i k : Nat), i ≤ s.size → i ≤ (rem s f i k).1 ∧ (rem s f i k).1 ≤ s.size ∧ (rem s f i k).2 + i ≤ (rem s f i k).1 + k ∧ k ≤ (rem s f i k).2 := by
  intro f
  induction f with
  | zero => intro i k h; simp only [rem]; omega
  | succ f ih =>
    intro i k h
    rw [rem]
    split
    · rename_i hh
      have := dec_size hh.1
      have := ih (i + (Utf8.decode s i).2) (k + 1) (by omega)
      omega
    · simp only; omega
theorem rem_end {s : ByteArray} {f i k : Nat} (h : ¬ (i < s.size ∧ bt s i ≠ 10)) : rem s f i k = (i, k) := by
  cases f with
  | zero => rfl
  | succ f => rw [rem, if_neg h]
theorem rem_more {s : ByteArray} : ∀ (f g i k : Nat), s.size ≤ i + f → s.size ≤ i + g → rem s f i k = rem s g i k := by
  intro f
  induction f with
  | zero => intro g i k h1 h2; rw [rem_end (by omega), rem_end (by omega)]
  | succ f ih =>
    intro g i k h1 h2
    cases g with
    | zero => rw [rem_end (by omega), rem_end (by omega)]
    | succ g =>
      rw [rem, rem]
      split
      · rename_i h
        have := dec_size h.1
        exact ih g _ _ (by omega) (by omega)
      · rfl
theorem rem_off {s : ByteArray} : ∀ (f i k c : Nat), rem s f i (k + c) = ((rem s f i k).1, (rem s f i k).2 + c)
  | 0, i, k, c => rfl
  | f + 1, i, k, c => by
    rw [rem, rem]
    split
    · rw [show k + c + 1 = (k + 1) + c by omega]; exact rem_off f _ _ _
    · rfl
theorem rem_stop {s : ByteArray} : ∀ (f i k : Nat), s.size ≤ i + f → ¬ ((rem s f i k).1 < s.size ∧ bt s (rem s f i k).1 ≠ 10)
  | 0, i, k, h => by rw [rem]; simp only; omega
  | f + 1, i, k, h => by
    rw [rem]
    split
    · rename_i hh
      have := dec_size hh.1
      exact rem_stop f _ _ (by omega)
    · assumption
abbrev Out := List W_glyph_Word × (Nat × Nat) × Nat
/-- The words of a text from a place on. -/
def lex (s : ByteArray) : Nat → Nat → Nat → Nat → List W_glyph_Word → Out
  | 0, i, ln, col, out => (out, (0, 0), 0)
  | f + 1, i, ln, col, out =>
    if s.size ≤ i then (out, (0, 0), 0)
    else if bt s i = 10 then lex s f (i + 1) (ln + 1) 1 out
    else if bt s i = 32 ∨ bt s i = 9 then lex s f (i + 1) ln (col + 1) out
    else if bt s i = 35 then lex s f (rem s s.size i 0).1 ln (col + (rem s s.size i 0).2) out
    else match fst (suf s i) with
      | none => ([], (ln, col), 11)
      | some (k, n, r) => if out.length = 3000 then ([], (ln, col), 4) else lex s f (i + n) ln (col + r) (out ++ [wd k ((suf s i).extract 0 n) ln col])
theorem lex_end {s : ByteArray} {f i ln col : Nat} {out : List W_glyph_Word} (h : s.size ≤ i) : lex s f i ln col out = (out, (0, 0), 0) := by
  cases f with
  | zero => rfl
  | succ f => rw [lex, if_pos h]
theorem rem_pos {s : ByteArray} {i : Nat} (h : i < s.size) (h10 : bt s i ≠ 10) : i + 1 ≤ (rem s s.size i 0).1 := by
  obtain ⟨f, hf⟩ : ∃ f, s.size = f + 1 := ⟨s.size - 1, by omega⟩
  have hz := dec_size h
  have := rem_le (s := s) f (i + (Utf8.decode s i).2) (0 + 1) (by omega)
  have hr : rem s s.size i 0 = rem s f (i + (Utf8.decode s i).2) (0 + 1) := by rw [hf, rem, if_pos ⟨h, h10⟩]
  rw [hr]; omega
theorem lex_more {s : ByteArray} : ∀ (f g i ln col : Nat) (out : List W_glyph_Word), s.size ≤ i + f → s.size ≤ i + g → lex s f i ln col out = lex s g i ln col out := by
  intro f
  induction f with
  | zero => intro g i ln col out h1 h2; rw [lex_end (by omega), lex_end (by omega)]
  | succ f ih =>
    intro g i ln col out h1 h2
    cases g with
    | zero => rw [lex_end (by omega), lex_end (by omega)]
    | succ g =>
      rw [lex, lex]
      split
      · rfl
      · rename_i hlt
        split
        · exact ih g _ _ _ _ (by omega) (by omega)
        · rename_i h10
          split
          · exact ih g _ _ _ _ (by omega) (by omega)
          · split
            · have := rem_pos (s := s) (i := i) (by omega) h10
              exact ih g _ _ _ _ (by omega) (by omega)
            · split
              · rfl
              · rename_i k n r hk
                have := fst_stp (by rw [size_suf]; omega) hk
                have h1 := this.1.le
                split
                · rfl
                · exact ih g _ _ _ _ (by omega) (by omega)
def lexR (s : ByteArray) (i ln col : Nat) (out : List W_glyph_Word) : Out := lex s (s.size + 1) i ln col out
theorem lexR_eq {s : ByteArray} {i ln col : Nat} {out : List W_glyph_Word} : lexR s i ln col out =
    if s.size ≤ i then (out, (0, 0), 0)
    else if bt s i = 10 then lexR s (i + 1) (ln + 1) 1 out
    else if bt s i = 32 ∨ bt s i = 9 then lexR s (i + 1) ln (col + 1) out
    else if bt s i = 35 then lexR s (rem s s.size i 0).1 ln (col + (rem s s.size i 0).2) out
    else match fst (suf s i) with
      | none => ([], (ln, col), 11)
      | some (k, n, r) => if out.length = 3000 then ([], (ln, col), 4) else lexR s (i + n) ln (col + r) (out ++ [wd k ((suf s i).extract 0 n) ln col]) := by
  have more : ∀ (i ln col : Nat) (out : List W_glyph_Word), lex s s.size i ln col out = lexR s i ln col out := fun i ln col out => lex_more _ _ _ _ _ _ (by omega) (by omega)
  conv => lhs; rw [lexR, lex]
  simp only [more]
/-- What the functions answer. -/
def res (o : Out) : T × List T := (.tup [.sl 4 (o.1.map W_glyph_Word.t), .agg [i64 o.2.1.1, i64 o.2.1.2], i64 o.2.2], [.dead])
def wordsOf (s : ByteArray) : Out := if 12000 < s.size then ([], (1, 1), 4) else lexR s 0 1 1 []
theorem map_snoc (out : List W_glyph_Word) (x : W_glyph_Word) : (out ++ [x]).map W_glyph_Word.t = out.map W_glyph_Word.t ++ [x.t] := by simp
end Go.Proofs.YthcaodlfnlhfbaaDoorT
