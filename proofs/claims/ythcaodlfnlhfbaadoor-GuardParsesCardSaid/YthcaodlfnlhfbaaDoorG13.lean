/- What is written of words, a blank behind each, has the same words. -/
import Derived.Test.YthcaodlfnlhfbaaDoorG11
namespace Go.Proofs.YthcaodlfnlhfbaaDoorT
open Go Go.Proofs
set_option linter.unusedVariables false
theorem decN_two {n b0 b1 b2 b3 : Nat} (h : 1072 ≤ (Lib.decodeN n b0 b1 b2 b3).1 ∧ (Lib.decodeN n b0 b1 b2 b3).1 ≤ 1103) (h0 : ¬ b0 < 128) :
    b0 / 32 = 6 ∧ (1 < n ∧ b1 / 64 = 2) ∧ b0 % 32 * 64 + b1 % 64 ≥ 128 ∧ Lib.decodeN n b0 b1 b2 b3 = (b0 % 32 * 64 + b1 % 64, 2) := by
  unfold Lib.decodeN at h ⊢
  rw [if_neg h0] at h ⊢
  by_cases h2 : b0 / 32 = 6 ∧ (1 < n ∧ b1 / 64 = 2)
  · rw [if_pos h2] at h ⊢
    by_cases h3 : b0 % 32 * 64 + b1 % 64 ≥ 128
    · rw [if_pos h3]; exact ⟨h2.1, h2.2, h3, rfl⟩
    · rw [if_neg h3] at h; simp only at h; omega
  · rw [if_neg h2] at h
    exfalso
    repeat' split at h
    all_goals (simp only at h; omega)
theorem decN_of_two {n b0 b1 b2 b3 : Nat} (h0 : ¬ b0 < 128) (h2 : b0 / 32 = 6) (h1 : 1 < n ∧ b1 / 64 = 2) (h3 : b0 % 32 * 64 + b1 % 64 ≥ 128) : Lib.decodeN n b0 b1 b2 b3 = (b0 % 32 * 64 + b1 % 64, 2) := by
  unfold Lib.decodeN
  rw [if_neg h0, if_pos ⟨h2, h1⟩, if_pos h3]
section
variable {t T : ByteArray}
theorem dec_again {n i : Nat} (hN : n ≤ T.size) (hb : ∀ j, j < n → bt T j = bt t j) (hi : i < n) (hins : ins (Utf8.decode t i).1 = true) (hle : i + (Utf8.decode t i).2 ≤ n) : Utf8.decode T i = Utf8.decode t i := by
  have h0 := hb i hi
  by_cases hlow : bt t i < 128
  · rw [dec_low hlow, dec_low (by omega), h0]
  · have hr : 1072 ≤ (Utf8.decode t i).1 ∧ (Utf8.decode t i).1 ≤ 1103 := by
      have := dec_high (s := t) (i := i) (by omega)
      simp [ins, ltr, dig] at hins
      omega
    rw [dec_eq] at hr hle
    rw [dec_eq, dec_eq]
    obtain ⟨e1, e2, e3, e4⟩ := decN_two hr hlow
    rw [e4] at hle
    simp only at hle
    have h1 := hb (i + 1) (by omega)
    rw [e4, h0, h1]
    exact decN_of_two hlow e1 ⟨by omega, e2.2⟩ e3
theorem ins32 : ins ((32 : Nat) : Int) = false := by decide
theorem run_again {n : Nat} (hn : n ≤ t.size) (hN : n < T.size) (hb : ∀ j, j < n → bt T j = bt t j) (h32 : bt T n = 32) : ∀ (f g i k : Nat), t.size ≤ i + f → T.size ≤ i + g → (run t f i k).1 = n → i ≤ n → run T g i k = run t f i k := by
  have stop : ∀ (g k : Nat), run T g n k = (n, k) := by
    intro g k
    cases g with
    | zero => rfl
    | succ g => rw [run, if_neg]; rw [dec_low (by omega), h32]; simp only; rw [ins32]; simp
  intro f
  induction f with
  | zero =>
    intro g i k h h' hr hi
    rw [run] at hr ⊢
    simp only at hr
    subst hr
    exact stop g k
  | succ f ih =>
    intro g i k h h' hr hi
    rw [run] at hr ⊢
    by_cases hc : i < t.size ∧ ins (Utf8.decode t i).1 = true
    · rw [if_pos hc] at hr ⊢
      have hz := dec_size hc.1
      have hle := run_le (t := t) f (i + (Utf8.decode t i).2) (k + 1) hz.2
      have hd := dec_again (t := t) (T := T) (n := n) (i := i) (by omega) hb (by omega) hc.2 (by omega)
      cases g with
      | zero => omega
      | succ g =>
        rw [run, hd, if_pos ⟨by omega, hc.2⟩]
        exact ih g _ _ (by omega) (by omega) hr (by omega)
    · rw [if_neg hc] at hr ⊢
      simp only at hr
      subst hr
      exact stop g k
theorem pre_of_bt {n : Nat} (hn : n ≤ t.size) (hN : n ≤ T.size) (hb : ∀ j, j < n → bt T j = bt t j) : T.extract 0 n = t.extract 0 n := by
  refine ext_bl ?_
  rw [bl_extract, bl_extract, List.drop_zero, List.drop_zero]
  refine List.ext_getElem (by rw [List.length_take, List.length_take, bl_len, bl_len]; omega) (fun j h1 h2 => ?_)
  rw [List.length_take, bl_len] at h1
  rw [List.getElem_take, List.getElem_take]
  have := hb j (by omega)
  unfold bt at this
  rw [List.getD_eq_getElem?_getD, List.getD_eq_getElem?_getD, List.getElem?_eq_getElem (by rw [bl_len]; omega), List.getElem?_eq_getElem (by rw [bl_len]; omega)] at this
  exact UInt8.toNat_inj.1 this
theorem sgn_low (h : sgn t ≠ 0) : bt t 0 < 128 ∧ ltr (bt t 0 : Nat) = false ∧ dig (bt t 0 : Nat) = false ∧ bt t 0 ≠ 10 ∧ bt t 0 ≠ 32 ∧ bt t 0 ≠ 9 ∧ bt t 0 ≠ 35 := by
  unfold sgn at h
  have : bt t 0 = 61 ∨ bt t 0 = 33 ∨ bt t 0 = 60 ∨ bt t 0 = 38 ∨ bt t 0 = 124 ∨ bt t 0 = 123 ∨ bt t 0 = 125 ∨ bt t 0 = 40 ∨ bt t 0 = 41 ∨ bt t 0 = 43 ∨ bt t 0 = 45 ∨ bt t 0 = 42 := by
    split at h
    · omega
    · split at h
      · omega
      · exact absurd rfl h
  refine ⟨by omega, ?_, ?_, by omega, by omega, by omega, by omega⟩
  · simp [ltr]; omega
  · simp [dig]; omega
theorem fst_first {k n r : Nat} (h0 : 0 < t.size) (h : fst t = some (k, n, r)) : bt t 0 ≠ 10 ∧ bt t 0 ≠ 32 ∧ bt t 0 ≠ 9 ∧ bt t 0 ≠ 35 := by
  have hgo : Lib.decodeGo t = Utf8.decode t 0 := by rw [dec_go, if_neg (by omega)]
  have low : ∀ c, c < 128 → ltr ((c : Nat) : Int) = false → dig ((c : Nat) : Int) = false → (ltr (Lib.decodeGo t).1 = true ∨ dig (Lib.decodeGo t).1 = true) → bt t 0 ≠ c := by
    intro c hc h1 h2 h3 e
    rw [hgo, (dec_asc hc).2 e, h1, h2] at h3
    simp at h3
  unfold fst at h
  split at h
  · rename_i hl
    exact ⟨low 10 (by omega) (by decide) (by decide) (.inl hl), low 32 (by omega) (by decide) (by decide) (.inl hl), low 9 (by omega) (by decide) (by decide) (.inl hl), low 35 (by omega) (by decide) (by decide) (.inl hl)⟩
  · split at h
    · rename_i hl
      exact ⟨low 10 (by omega) (by decide) (by decide) (.inr hl), low 32 (by omega) (by decide) (by decide) (.inr hl), low 9 (by omega) (by decide) (by decide) (.inr hl), low 35 (by omega) (by decide) (by decide) (.inr hl)⟩
    · split at h
      · cases h
      · rename_i hs
        have := sgn_low hs
        omega
theorem fst_again {k n r : Nat} (h0 : 0 < t.size) (h : fst t = some (k, n, r)) (hN : n < T.size) (hb : ∀ j, j < n → bt T j = bt t j) (h32 : bt T n = 32) : fst T = some (k, n, r) ∧ T.extract 0 n = t.extract 0 n := by
  obtain ⟨hst, hr1, hn1⟩ := fst_stp h0 h
  have hle := hst.le
  have hx := pre_of_bt (t := t) (T := T) (n := n) hn1 (by omega) hb
  refine ⟨?_, hx⟩
  have hgo : Lib.decodeGo t = Utf8.decode t 0 := by rw [dec_go, if_neg (by omega)]
  have hgo' : Lib.decodeGo T = Utf8.decode T 0 := by rw [dec_go, if_neg (by omega)]
  have hins : ins (Utf8.decode t 0).1 = true → (run t t.size 0 0).1 = n → Utf8.decode T 0 = Utf8.decode t 0 ∧ run T T.size 0 0 = run t t.size 0 0 := by
    intro hi hr
    refine ⟨?_, run_again hn1 hN hb h32 t.size T.size 0 0 (by omega) (by omega) hr (by omega)⟩
    refine dec_again (n := n) (by omega) hb (by omega) hi ?_
    obtain ⟨f, hf⟩ : ∃ f, t.size = f + 1 := ⟨t.size - 1, by omega⟩
    have := run_le (t := t) f (0 + (Utf8.decode t 0).2) (0 + 1) (by have := dec_size h0; omega)
    rw [hf, run, if_pos ⟨h0, hi⟩] at hr
    omega
  unfold fst at h ⊢
  rw [hgo] at h
  rw [hgo']
  split at h
  · rename_i hl
    split at h
    · rename_i hn
      simp only [Option.some.injEq, Prod.mk.injEq] at h
      obtain ⟨rfl, hn', hr'⟩ := h
      obtain ⟨e1, e2⟩ := hins (ltr_ins hl) hn'
      rw [hn'] at hn
      rw [e1, if_pos hl, e2, hn', hx, if_pos hn, hr']
    · cases h
  · rename_i hl
    split at h
    · rename_i hd
      split at h
      · rename_i hn
        simp only [Option.some.injEq, Prod.mk.injEq] at h
        obtain ⟨rfl, hn', hr'⟩ := h
        obtain ⟨e1, e2⟩ := hins (by simp [ins, hd]) hn'
        rw [hn'] at hn
        rw [e1, if_neg hl, if_pos hd, e2, hn', hx, if_pos hn, hr']
      · cases h
    · rename_i hd
      split at h
      · cases h
      · rename_i hs
        simp only [Option.some.injEq, Prod.mk.injEq] at h
        obtain ⟨rfl, rfl, hr'⟩ := h
        have hlow := sgn_low hs
        have hb0 := hb 0 (by omega)
        have hd0 : Utf8.decode T 0 = (bt t 0, 1) := by rw [dec_low (by omega), hb0]
        have hsg : sgn T = sgn t := by
          by_cases h2 : sgn t = 2
          · have hb1 := hb 1 (by omega)
            unfold sgn at h2 ⊢
            split at h2
            · rename_i hc
              rw [if_pos (by omega), if_pos hc]
            · split at h2 <;> omega
          · have h1 : sgn t = 1 := by unfold sgn at h2 hs ⊢; repeat' split <;> simp_all
            have hb1 : bt T 1 = 32 := by rw [h1] at h32; exact h32
            have : bt t 0 = 123 ∨ bt t 0 = 125 ∨ bt t 0 = 40 ∨ bt t 0 = 41 ∨ bt t 0 = 61 ∨ bt t 0 = 33 ∨ bt t 0 = 60 ∨ bt t 0 = 43 ∨ bt t 0 = 45 ∨ bt t 0 = 42 := by
              unfold sgn at h1
              split at h1
              · omega
              · split at h1
                · assumption
                · omega
            rw [h1]
            unfold sgn
            rw [if_neg (by omega), if_pos (by omega)]
        rw [hd0]
        simp only
        rw [hlow.2.1, hlow.2.2.1, hsg, if_neg (by simp), if_neg (by simp), if_neg hs]
        simp [hr']
end
/-- A word as a text begins with it. -/
def Wd (x : W_glyph_Word) : Prop := ∃ (t : ByteArray) (k n r : Nat), 0 < t.size ∧ fst t = some (k, n, r) ∧ x.fKind = k ∧ x.fText = t.extract 0 n
theorem lex_words {s : ByteArray} : ∀ (d i ln col : Nat) (out : List W_glyph_Word), s.size ≤ i + d → i ≤ s.size → (∀ x ∈ out, Wd x ∧ x.fText.size ≤ s.size) → ∀ x ∈ (lexR s i ln col out).1, Wd x ∧ x.fText.size ≤ s.size := by
  intro d
  induction d using Nat.strongRecOn with
  | _ d ih =>
    intro i ln col out h hi ho
    rw [lexR_eq]
    split
    · exact ho
    · rename_i h0
      split
      · exact ih (d - 1) (by omega) _ _ _ _ (by omega) (by omega) ho
      · rename_i h1
        split
        · exact ih (d - 1) (by omega) _ _ _ _ (by omega) (by omega) ho
        · split
          · have hp := rem_pos (s := s) (i := i) (by omega) h1
            have hr := rem_le (s := s) s.size i 0 hi
            exact ih (d - 1) (by omega) _ _ _ _ (by omega) (by omega) ho
          · split
            · exact fun x hx => by simp at hx
            · rename_i k n r hk
              obtain ⟨hst, hr1, hn1⟩ := fst_stp (by rw [size_suf]; omega) hk
              have hle := hst.le
              rw [size_suf] at hn1
              split
              · exact fun x hx => by simp at hx
              · refine ih (d - 1) (by omega) _ _ _ _ (by omega) (by omega) (fun x hx => ?_)
                rcases List.mem_append.1 hx with hx | hx
                · exact ho x hx
                · simp only [List.mem_singleton] at hx
                  subst hx
                  refine ⟨⟨suf s i, k, n, r, by rw [size_suf]; omega, hk, rfl, rfl⟩, ?_⟩
                  show ((suf s i).extract 0 n).size ≤ s.size
                  rw [size_pre _ (by rw [size_suf]; omega)]
                  omega
theorem words_wd (s : ByteArray) : ∀ x ∈ (wordsOf s).1, Wd x ∧ x.fText.size ≤ 12000 := by
  unfold wordsOf
  split
  · exact fun x hx => by simp at hx
  · intro x hx
    have := lex_words s.size 0 1 1 [] (by omega) (by omega) (fun x hx => by simp at hx) x hx
    exact ⟨this.1, by omega⟩
/-- What is written of the words. -/
def cat : List W_glyph_Word → ByteArray
  | [] => bs []
  | x :: l => (x.fText ++ bs [32]) ++ cat l
theorem bl_cat_cons (x : W_glyph_Word) (l : List W_glyph_Word) : bl (cat (x :: l)) = bl x.fText ++ 32 :: bl (cat l) := by
  rw [cat, bl_append, bl_append]; simp [bl, bs]
theorem lex_again {T : ByteArray} : ∀ (l : List W_glyph_Word) (i ln col : Nat) (pre out : List W_glyph_Word), suf T i = cat l → i ≤ T.size → (∀ x ∈ l, Wd x) → out.length + l.length ≤ 3000 → LikeL False pre out →
    (lexR T i ln col out).2.2 = 0 ∧ LikeL False (pre ++ l) (lexR T i ln col out).1 := by
  intro l
  induction l with
  | nil =>
    intro i ln col pre out hs hi hw hl ho
    have hz : (suf T i).size = 0 := by rw [hs]; rfl
    rw [size_suf] at hz
    rw [lexR_eq, if_pos (by omega), List.append_nil]
    exact ⟨rfl, ho⟩
  | cons x l ih =>
    intro i ln col pre out hs hi hw hl ho
    obtain ⟨t, k, n, r, h0, hf, hk, ht⟩ := hw x (.head _)
    obtain ⟨hst, hr1, hn1⟩ := fst_stp h0 hf
    have hle := hst.le
    have hbl : bl (suf T i) = (bl t).take n ++ 32 :: bl (cat l) := by
      rw [hs, bl_cat_cons, ht, bl_extract, List.drop_zero]
    have htl : ((bl t).take n).length = n := by rw [List.length_take, bl_len]; omega
    have hsz : (suf T i).size = n + 1 + (bl (cat l)).length := by
      rw [← bl_len, hbl, List.length_append, htl]; simp; omega
    have hb : ∀ j, j < n → bt (suf T i) j = bt t j := by
      intro j hj
      unfold bt
      rw [hbl, List.getD_eq_getElem?_getD, List.getElem?_append, if_pos (by omega), List.getElem?_take, if_pos hj, ← List.getD_eq_getElem?_getD]
    have h32 : bt (suf T i) n = 32 := by
      unfold bt
      rw [hbl, List.getD_eq_getElem?_getD, List.getElem?_append, if_neg (by omega), htl]
      simp
    obtain ⟨hF, hX⟩ := fst_again h0 hf (by omega) hb h32
    have hfst := fst_first (by omega : 0 < (suf T i).size) hF
    rw [bt_suf, Nat.add_zero] at hfst
    have hsz' := hsz
    rw [size_suf] at hsz'
    rw [lexR_eq, if_neg (by omega), if_neg hfst.1, if_neg (by omega), if_neg hfst.2.2.2, hF]
    simp only
    simp only [List.length_cons] at hl
    rw [if_neg (by omega), lexR_eq]
    have hbn : bt T (i + n) = 32 := by rw [← bt_suf]; exact h32
    rw [if_neg (by omega), if_neg (by omega), if_pos (.inl hbn)]
    have hs' : suf T (i + n + 1) = cat l := by
      refine ext_bl ?_
      rw [Nat.add_assoc, ← suf_suf, bl_suf, hbl, List.drop_append, htl]
      rw [List.drop_eq_nil_of_le (by omega), show n + 1 - n = 1 by omega]
      rfl
    have := ih (i + n + 1) ln (col + r + 1) (pre ++ [x]) (out ++ [wd k ((suf T i).extract 0 n) ln col]) hs' (by omega) (fun y hy => hw y (.tail _ hy)) (by simp; omega)
      (ho.snoc ⟨hk, by rw [ht]; exact hX.symm, fun h => h.elim⟩)
    rw [List.append_assoc] at this
    exact this
theorem cat_size : ∀ (l : List W_glyph_Word), (∀ x ∈ l, x.fText.size ≤ 12000) → (cat l).size ≤ 12001 * l.length
  | [], h => by rw [← bl_len]; simp [cat, bl, bs]
  | x :: l, h => by
    have h1 := h x (.head _)
    have h2 := cat_size l (fun y hy => h y (.tail _ hy))
    rw [← bl_len, bl_cat_cons, List.length_append, List.length_cons, bl_len, bl_len, List.length_cons]
    omega
end Go.Proofs.YthcaodlfnlhfbaaDoorT
