/- What is written of words, a blank behind each, has the same words. -/
import Derived.Test.YtfknpnkdedckhaaGreatDoorM1
import Derived.Shelf.Strconv.Itoa3
import Derived.Maps.Own
import Derived.Maps.OwnSet
import Derived.Maps.Views
import Derived.Maps.AppendAt
import Derived.OneCell
import Derived.WalkKit
import Derived.RangeFuncOwn
import Derived.StringKeys
import Derived.Shelf.SlIter.Nil
import Derived.Shelf.SortM.Plain
import Derived.Shelf.SortM.SortNone
import Derived.Shelf.Strconv.Itoa4
namespace Go.Proofs.YtfknpnkdedckhaaGreatDoorT
open Go Go.Proofs
set_option linter.unusedVariables false
theorem decN_two {n b0 b1 b2 b3 : Nat} (h : 1072 ≤ (Lib.decodeN n b0 b1 b2 b3).1 ∧ (Lib.decodeN n b0 b1 b2 b3).1 ≤ 1103) (h0 : ¬ b0 < 128) :
    b0 / 32 = 6 ∧ (1 < n ∧ b1 / 64 = 2) ∧ b0 % 32 * 64 + b1 % 64 ≥ 128 ∧ Lib.decodeN n b0 b1 b2 b3 = (b0 % 32 * 64 + b1 % 64, 2) := by
  unfold Lib.decodeN at h ⊢
  rw [if_neg h0] at h ⊢
  by_cases h2 : b0 / 32 = 6 ∧ (1 < n ∧ b1 / 64 = 2)
  · rw [if_pos h2] at h ⊢
    by_cases h3 : b0 % 32 * 64 + b1 % 64 ≥ 128
    · rw [if_pos h3]; exact ⟨h2.1, h2.2, h3, rfl⟩
    · rw [if_neg h3] at h; simp only at h; omega
  · rw [if_neg h2] at h
    exfalso
    repeat' split at h
    all_goals (simp only at h; omega)
theorem decN_of_two {n b0 b1 b2 b3 : Nat} (h0 : ¬ b0 < 128) (h2 : b0 / 32 = 6) (h1 : 1 < n ∧ b1 / 64 = 2) (h3 : b0 % 32 * 64 + b1 % 64 ≥ 128) : Lib.decodeN n b0 b1 b2 b3 = (b0 % 32 * 64 + b1 % 64, 2) := by
  unfold Lib.decodeN
  rw [if_neg h0, if_pos ⟨h2, h1⟩, if_pos h3]
section
variable {t T : ByteArray}
theorem dec_again {n i : Nat} (hN : n ≤ T.size) (hb : ∀ j, j < n → bt T j = bt t j) (hi : i < n) (hins : ins (Utf8.decode t i).1 = true) (hle : i + (Utf8.decode t i).2 ≤ n) : Utf8.decode T i = Utf8.decode t i := by
  have h0 := hb i hi
  by_cases hlow : bt t i < 128
  · rw [dec_low hlow, dec_low (by omega), h0]
  · have hr : 1072 ≤ (Utf8.decode t i).1 ∧ (Utf8.decode t i).1 ≤ 1103 := by
      have := dec_high (s := t) (i := i) (by omega)
      simp [ins, ltr, dig] at hins
      omega
    rw [dec_eq] at hr hle
    rw [dec_eq, dec_eq]
    obtain ⟨e1, e2, e3, e4⟩ := decN_two hr hlow
    rw [e4] at hle
    simp only at hle
    have h1 := hb (i + 1) (by omega)
    rw [e4, h0, h1]
    exact decN_of_two hlow e1 ⟨by omega, e2.2⟩ e3
theorem ins32 : ins ((32 : Nat) : Int) = false := by decide
theorem run_again {n : Nat} (hn : n ≤ t.size) (hN : n < T.size) (hb : ∀ j, j < n → bt T j = bt t j) (h32 : bt T n = 32) : ∀ (f g i k : Nat), t.size ≤ i + f → T.size ≤ i + g → (run t f i k).1 = n → i ≤ n → run T g i k = run t f i k := by
  have stop : ∀ (g k : Nat), run T g n k = (n, k) := by
    intro g k
    cases g with
    | zero => rfl
    | succ g => rw [run, if_neg]; rw [dec_low (by omega), h32]; simp only; rw [ins32]; simp
  intro f
  induction f with
  | zero =>
    intro g i k h h' hr hi
    rw [run] at hr ⊢
    simp only at hr
    subst hr
    exact stop g k
  | succ f ih =>
    intro g i k h h' hr hi
    rw [run] at hr ⊢
    by_cases hc : i < t.size ∧ ins (Utf8.decode t i).1 = true
    · rw [if_pos hc] at hr ⊢
      have hz := dec_size hc.1
      have hle := run_le (t := t) f (i + (Utf8.decode t i).2) (k + 1) hz.2
      have hd := dec_again (t := t) (T := T) (n := n) (i := i) (by omega) hb (by omega) hc.2 (by omega)
      cases g with
      | zero => omega
      | succ g =>
        rw [run, hd, if_pos ⟨by omega, hc.2⟩]
        exact ih g _ _ (by omega) (by omega) hr (by omega)
    · rw [if_neg hc] at hr ⊢
      simp only at hr
      subst hr
      exact stop g k
theorem pre_of_bt {n : Nat} (hn : n ≤ t.size) (hN : n ≤ T.size) (hb : ∀ j, j < n → bt T j = bt t j) : T.extract 0 n = t.extract 0 n := by
  refine ext_bl ?_
  rw [bl_extract, bl_extract, List.drop_zero, List.drop_zero]
  refine List.ext_getElem (by rw [List.length_take, List.length_take, bl_len, bl_len]; omega) (fun j h1 h2 => ?_)
  rw [List.length_take, bl_len] at h1
  rw [List.getElem_take, List.getElem_take]
  have := hb j (by omega)
  unfold bt at this
  rw [List.getD_eq_getElem?_getD, List.getD_eq_getElem?_getD, List.getElem?_eq_getElem (by rw [bl_len]; omega), List.getElem?_eq_getElem (by rw [bl_len]; omega)] at this
  exact UInt8.toNat_inj.1 this
theorem sgn_low (h : sgn t ≠ 0) : bt t 0 < 128 ∧ ltr (bt t 0 : Nat) = false ∧ dig (bt t 0 : Nat) = false ∧ bt t 0 ≠ 10 ∧ bt t 0 ≠ 32 ∧ bt t 0 ≠ 9 ∧ bt t 0 ≠ 35 := by
  unfold sgn at h
  have : bt t 0 = 61 ∨ bt t 0 = 33 ∨ bt t 0 = 60 ∨ bt t 0 = 38 ∨ bt t 0 = 124 ∨ bt t 0 = 123 ∨ bt t 0 = 125 ∨ bt t 0 = 40 ∨ bt t 0 = 41 ∨ bt t 0 = 43 ∨ bt t 0 = 45 ∨ bt t 0 = 42 := by
    split at h
    · omega
    · split at h
      · omega
      · exact absurd rfl h
  refine ⟨by omega, ?_, ?_, by omega, by omega, by omega, by omega⟩
  · simp [ltr]; omega
  · simp [dig]; omega
theorem fst_first {k n r : Nat} (h0 : 0 < t.size) (h : fst t = some (k, n, r)) : bt t 0 ≠ 10 ∧ bt t 0 ≠ 32 ∧ bt t 0 ≠ 9 ∧ bt t 0 ≠ 35 := by
  have hgo : Lib.decodeGo t = Utf8.decode t 0 := by rw [dec_go, if_neg (by omega)]
  have low : ∀ c, c < 128 → ltr ((c : Nat) : Int) = false → dig ((c : Nat) : Int) = false → (ltr (Lib.decodeGo t).1 = true ∨ dig (Lib.decodeGo t).1 = true) → bt t 0 ≠ c := by
    intro c hc h1 h2 h3 e
    rw [hgo, (dec_asc hc).2 e, h1, h2] at h3
    simp at h3
  unfold fst at h
  split at h
  · rename_i hl
    exact ⟨low 10 (by omega) (by decide) (by decide) (.inl hl), low 32 (by omega) (by decide) (by decide) (.inl hl), low 9 (by omega) (by decide) (by decide) (.inl hl), low 35 (by omega) (by decide) (by decide) (.inl hl)⟩
  · split at h
    · rename_i hl
      exact ⟨low 10 (by omega) (by decide) (by decide) (.inr hl), low 32 (by omega) (by decide) (by decide) (.inr hl), low 9 (by omega) (by decide) (by decide) (.inr hl), low 35 (by omega) (by decide) (by decide) (.inr hl)⟩
    · split at h
      · cases h
      · rename_i hs
        have := sgn_low hs
        omega
theorem fst_again {k n r : Nat} (h0 : 0 < t.size) (h : fst t = some (k, n, r)) (hN : n < T.size) (hb : ∀ j, j < n → bt T j = bt t j) (h32 : bt T n = 32) : fst T = some (k, n, r) ∧ T.extract 0 n = t.extract 0 n := by
  obtain ⟨hst, hr1, hn1⟩ := fst_stp h0 h
  have hle := hst.le
  have hx := pre_of_bt (t := t) (T := T) (n := n) hn1 (by omega) hb
  refine ⟨?_, hx⟩
  have hgo : Lib.decodeGo t = Utf8.decode t 0 := by rw [dec_go, if_neg (by omega)]
  have hgo' : Lib.decodeGo T = Utf8.decode T 0 := by rw [dec_go, if_neg (by omega)]
  have hins : ins (Utf8.decode t 0).1 = true → (run t t.size 0 0).1 = n → Utf8.decode T 0 = Utf8.decode t 0 ∧ run T T.size 0 0 = run t t.size 0 0 := by
    intro hi hr
    refine ⟨?_, run_again hn1 hN hb h32 t.size T.size 0 0 (by omega) (by omega) hr (by omega)⟩
    refine dec_again (n := n) (by omega) hb (by omega) hi ?_
    obtain ⟨f, hf⟩ : ∃ f, t.size = f + 1 := ⟨t.size - 1, by omega⟩
    have := run_le (t := t) f (0 + (Utf8.decode t 0).2) (0 + 1) (by have := dec_size h0; omega)
    rw [hf, run, if_pos ⟨h0, hi⟩] at hr
    omega
  unfold fst at h ⊢
  rw [hgo] at h
  rw [hgo']
  split at h
  · rename_i hl
    split at h
    · rename_i hn
      simp only [Option.some.injEq, Prod.mk.injEq] at h
      obtain ⟨rfl, hn', hr'⟩ := h
      obtain ⟨e1, e2⟩ := hins (ltr_ins hl) hn'
      rw [hn'] at hn
      rw [e1, if_pos hl, e2, hn', hx, if_pos hn, hr']
    · cases h
  · rename_i hl
    split at h
    · rename_i hd
      split at h
      · rename_i hn
        simp only [Option.some.injEq, Prod.mk.injEq] at h
        obtain ⟨rfl, hn', hr'⟩ := h
        obtain ⟨e1, e2⟩ := hins (by simp [ins, hd]) hn'
        rw [hn'] at hn
        rw [e1, if_neg hl, if_pos hd, e2, hn', hx, if_pos hn, hr']
      · cases h
    · rename_i hd
      split at h
      · cases h
      · rename_i hs
        simp only [Option.some.injEq, Prod.mk.injEq] at h
        obtain ⟨rfl, rfl, hr'⟩ := h
        have hlow := sgn_low hs
        have hb0 := hb 0 (by omega)
        have hd0 : Utf8.decode T 0 = (bt t 0, 1) := by rw [dec_low (by omega), hb0]
        have hsg : sgn T = sgn t := by
          by_cases h2 : sgn t = 2
          · have hb1 := hb 1 (by omega)
            unfold sgn at h2 ⊢
            split at h2
            · rename_i hc
              rw [if_pos (by omega), if_pos hc]
            · split at h2 <;> omega
          · have h1 : sgn t = 1 := by unfold sgn at h2 hs ⊢; repeat' split <;> simp_all
            have hb1 : bt T 1 = 32 := by rw [h1] at h32; exact h32
            have : bt t 0 = 123 ∨ bt t 0 = 125 ∨ bt t 0 = 40 ∨ bt t 0 = 41 ∨ bt t 0 = 61 ∨ bt t 0 = 33 ∨ bt t 0 = 60 ∨ bt t 0 = 43 ∨ bt t 0 = 45 ∨ bt t 0 = 42 := by
              unfold sgn at h1
              split at h1
              · omega
              · split at h1
                · assumption
                · omega
            rw [h1]
            unfold sgn
            rw [if_neg (by omega), if_pos (by omega)]
        rw [hd0]
        simp only
        rw [hlow.2.1, hlow.2.2.1, hsg, if_neg (by simp), if_neg (by simp), if_neg hs]
        simp [hr']
end
/-- A word as a text begins with it. -/
def Wd (x : W_glyph_Word) : Prop := ∃ (t : ByteArray) (k n r : Nat), 0 < t.size ∧ fst t = some (k, n, r) ∧ x.fKind = k ∧ x.fText = t.extract 0 n
theorem lex_words {s : ByteArray} : ∀ (d i ln col : Nat) (out : List W_glyph_Word), s.size ≤ i + d → i ≤ s.size → (∀ x ∈ out, Wd x ∧ x.fText.size ≤ s.size) → ∀ x ∈ (lexR s i ln col out).1, Wd x ∧ x.fText.size ≤ s.size := by
  intro d
  induction d using Nat.strongRecOn with
  | _ d ih =>
    intro i ln col out h hi ho
    rw [lexR_eq]
    split
    · exact ho
    · rename_i h0
      split
      · exact ih (d - 1) (by omega) _ _ _ _ (by omega) (by omega) ho
      · rename_i h1
        split
        · exact ih (d - 1) (by omega) _ _ _ _ (by omega) (by omega) ho
        · split
          · have hp := rem_pos (s := s) (i := i) (by omega) h1
            have hr := rem_le (s := s) s.size i 0 hi
            exact ih (d - 1) (by omega) _ _ _ _ (by omega) (by omega) ho
          · split
            · exact fun x hx => by simp at hx
            · rename_i k n r hk
              obtain ⟨hst, hr1, hn1⟩ := fst_stp (by rw [size_suf]; omega) hk
              have hle := hst.le
              rw [size_suf] at hn1
              split
              · exact fun x hx => by simp at hx
              · refine ih (d - 1) (by omega) _ _ _ _ (by omega) (by omega) (fun x hx => ?_)
                rcases List.mem_append.1 hx with hx | hx
                · exact ho x hx
                · simp only [List.mem_singleton] at hx
                  subst hx
                  refine ⟨⟨suf s i, k, n, r, by rw [size_suf]; omega, hk, rfl, rfl⟩, ?_⟩
                  show ((suf s i).extract 0 n).size ≤ s.size
                  rw [size_pre _ (by rw [size_suf]; omega)]
                  omega
theorem words_wd (s : ByteArray) : ∀ x ∈ (wordsOf s).1, Wd x ∧ x.fText.size ≤ 12000 := by
  unfold wordsOf
  split
  · exact fun x hx => by simp at hx
  · intro x hx
    have := lex_words s.size 0 1 1 [] (by omega) (by omega) (fun x hx => by simp at hx) x hx
    exact ⟨this.1, by omega⟩
/-- What is written of the words. -/
def cat : List W_glyph_Word → ByteArray
  | [] => bs []
  | x :: l => (x.fText ++ bs [32]) ++ cat l
theorem bl_cat_cons (x : W_glyph_Word) (l : List W_glyph_Word) : bl (cat (x :: l)) = bl x.fText ++ 32 :: bl (cat l) := by
  rw [cat, bl_append, bl_append]; simp [bl, bs]
theorem lex_again {T : ByteArray} : ∀ (l : List W_glyph_Word) (i ln col : Nat) (pre out : List W_glyph_Word), suf T i = cat l → i ≤ T.size → (∀ x ∈ l, Wd x) → out.length + l.length ≤ 3000 → LikeL False pre out →
    (lexR T i ln col out).2.2 = 0 ∧ LikeL False (pre ++ l) (lexR T i ln col out).1 := by
  intro l
  induction l with
  | nil =>
    intro i ln col pre out hs hi hw hl ho
    have hz : (suf T i).size = 0 := by rw [hs]; rfl
    rw [size_suf] at hz
    rw [lexR_eq, if_pos (by omega), List.append_nil]
    exact ⟨rfl, ho⟩
  | cons x l ih =>
    intro i ln col pre out hs hi hw hl ho
    obtain ⟨t, k, n, r, h0, hf, hk, ht⟩ := hw x (.head _)
    obtain ⟨hst, hr1, hn1⟩ := fst_stp h0 hf
    have hle := hst.le
    have hbl : bl (suf T i) = (bl t).take n ++ 32 :: bl (cat l) := by
      rw [hs, bl_cat_cons, ht, bl_extract, List.drop_zero]
    have htl : ((bl t).take n).length = n := by rw [List.length_take, bl_len]; omega
    have hsz : (suf T i).size = n + 1 + (bl (cat l)).length := by
      rw [← bl_len, hbl, List.length_append, htl]; simp; omega
    have hb : ∀ j, j < n → bt (suf T i) j = bt t j := by
      intro j hj
      unfold bt
      rw [hbl, List.getD_eq_getElem?_getD, List.getElem?_append, if_pos (by omega), List.getElem?_take, if_pos hj, ← List.getD_eq_getElem?_getD]
    have h32 : bt (suf T i) n = 32 := by
      unfold bt
      rw [hbl, List.getD_eq_getElem?_getD, List.getElem?_append, if_neg (by omega), htl]
      simp
    obtain ⟨hF, hX⟩ := fst_again h0 hf (by omega) hb h32
    have hfst := fst_first (by omega : 0 < (suf T i).size) hF
    rw [bt_suf, Nat.add_zero] at hfst
    have hsz' := hsz
    rw [size_suf] at hsz'
    rw [lexR_eq, if_neg (by omega), if_neg hfst.1, if_neg (by omega), if_neg hfst.2.2.2, hF]
    simp only
    simp only [List.length_cons] at hl
    rw [if_neg (by omega), lexR_eq]
    have hbn : bt T (i + n) = 32 := by rw [← bt_suf]; exact h32
    rw [if_neg (by omega), if_neg (by omega), if_pos (.inl hbn)]
    have hs' : suf T (i + n + 1) = cat l := by
      refine ext_bl ?_
      rw [Nat.add_assoc, ← suf_suf, bl_suf, hbl, List.drop_append, htl]
      rw [List.drop_eq_nil_of_le (by omega), show n + 1 - n = 1 by omega]
      rfl
    have := ih (i + n + 1) ln (col + r + 1) (pre ++ [x]) (out ++ [wd k ((suf T i).extract 0 n) ln col]) hs' (by omega) (fun y hy => hw y (.tail _ hy)) (by simp; omega)
      (ho.snoc ⟨hk, by rw [ht]; exact hX.symm, fun h => h.elim⟩)
    rw [List.append_assoc] at this
    exact this
theorem cat_size : ∀ (l : List W_glyph_Word), (∀ x ∈ l, x.fText.size ≤ 12000) → (cat l).size ≤ 12001 * l.length
  | [], h => by rw [← bl_len]; simp [cat, bl, bs]
  | x :: l, h => by
    have h1 := h x (.head _)
    have h2 := cat_size l (fun y hy => h y (.tail _ hy))
    rw [← bl_len, bl_cat_cons, List.length_append, List.length_cons, bl_len, bl_len, List.length_cons]
    omega
end Go.Proofs.YtfknpnkdedckhaaGreatDoorT

/- A remark says nothing. -/
namespace Go.Proofs.YtfknpnkdedckhaaGreatDoorT
open Go Go.Proofs
set_option linter.unusedVariables false
theorem decN_ag {n n' b0 b1 b2 b3 c1 c2 c3 : Nat} (h : (b1 = 10 ∧ c1 = 10) ∨ (b1 = c1 ∧ 1 < n ∧ 1 < n' ∧ ((b2 = 10 ∧ c2 = 10) ∨ (b2 = c2 ∧ 2 < n ∧ 2 < n' ∧ ((b3 = 10 ∧ c3 = 10) ∨ (b3 = c3 ∧ 3 < n ∧ 3 < n')))))) :
    Lib.decodeN n b0 b1 b2 b3 = Lib.decodeN n' b0 c1 c2 c3 := by
  rcases h with ⟨rfl, rfl⟩ | ⟨rfl, h1, h2, ⟨rfl, rfl⟩ | ⟨rfl, h3, h4, ⟨rfl, rfl⟩ | ⟨rfl, h5, h6⟩⟩⟩
  · simp [Lib.decodeN]
  · simp [Lib.decodeN, h1, h2]
  · simp [Lib.decodeN, h1, h2, h3, h4]
  · simp [Lib.decodeN, h1, h2, h3, h4, h5, h6]
theorem decN_stay (n b0 b1 b2 b3 : Nat) : (Lib.decodeN n b0 b1 b2 b3).2 ≤ 4 ∧ (b1 = 10 → (Lib.decodeN n b0 b1 b2 b3).2 ≤ 1) ∧ (b2 = 10 → (Lib.decodeN n b0 b1 b2 b3).2 ≤ 2) ∧ (b3 = 10 → (Lib.decodeN n b0 b1 b2 b3).2 ≤ 3) := by
  unfold Lib.decodeN
  repeat' split
  all_goals (simp only; omega)
/-- Two texts that agree up to a line feed. -/
structure Ag (s t : ByteArray) (m : Nat) : Prop where
  ls : m < s.size
  lt : m < t.size
  nl : bt s m = 10
  eq : ∀ j, j ≤ m → bt s j = bt t j
section
variable {s t : ByteArray} {m : Nat}
theorem Ag.dec (h : Ag s t m) {i : Nat} (hi : i ≤ m) : Utf8.decode s i = Utf8.decode t i := by
  have h1 := h.ls
  have h2 := h.lt
  have hn := h.nl
  have hn' : bt t m = 10 := by rw [← h.eq m (Nat.le_refl _)]; exact hn
  rw [dec_eq, dec_eq, ← h.eq i hi]
  rcases Nat.lt_or_ge m (i + 1) with h3 | h3
  · have : i = m := by omega
    subst this
    rw [hn]
    simp [Lib.decodeN]
  refine decN_ag ?_
  rcases Nat.lt_or_ge m (i + 2) with h4 | h4
  · have : i + 1 = m := by omega
    subst this
    exact .inl ⟨hn, hn'⟩
  refine .inr ⟨h.eq _ (by omega), by omega, by omega, ?_⟩
  rcases Nat.lt_or_ge m (i + 3) with h5 | h5
  · have : i + 2 = m := by omega
    subst this
    exact .inl ⟨hn, hn'⟩
  refine .inr ⟨h.eq _ (by omega), by omega, by omega, ?_⟩
  exact .inr ⟨h.eq _ (by omega), by omega, by omega⟩
theorem dec_stay {i : Nat} (hi : i < m) (hn : bt s m = 10) : i + (Utf8.decode s i).2 ≤ m := by
  rw [dec_eq]
  obtain ⟨h1, h2, h3, h4⟩ := decN_stay (s.size - i) (bt s i) (bt s (i + 1)) (bt s (i + 2)) (bt s (i + 3))
  rcases Nat.lt_or_ge m (i + 2) with g | g
  · have : i + 1 = m := by omega
    subst this
    have := h2 hn; omega
  rcases Nat.lt_or_ge m (i + 3) with g' | g'
  · have : i + 2 = m := by omega
    subst this
    have := h3 hn; omega
  rcases Nat.lt_or_ge m (i + 4) with g2 | g2
  · have : i + 3 = m := by omega
    subst this
    have := h4 hn; omega
  omega
/-- A remark goes up to the next line feed. -/
theorem rem_to {q : Nat} (hq : q < s.size) (hn : bt s q = 10) : ∀ (d i f k : Nat), q ≤ i + d → i ≤ q → (∀ j, i ≤ j → j < q → bt s j ≠ 10) → s.size ≤ i + f → (rem s f i k).1 = q := by
  intro d
  induction d using Nat.strongRecOn with
  | _ d ih =>
    intro i f k h hi hj hf
    rcases Nat.lt_or_ge i q with g | g
    · obtain ⟨f, rfl⟩ : ∃ f', f = f' + 1 := ⟨f - 1, by omega⟩
      have hst := dec_stay (s := s) g hn
      have hz := dec_size (s := s) (i := i) (by omega)
      rw [rem, if_pos ⟨by omega, hj i (by omega) g⟩]
      exact ih (d - 1) (by omega) _ _ _ (by omega) (by omega) (fun j h1 h2 => hj j (by omega) h2) (by omega)
    · have : i = q := by omega
      subst this
      rw [rem_end (by omega)]
theorem Ag.rem (h : Ag s t m) : ∀ (d i f g k : Nat), m ≤ i + d → i ≤ m → s.size ≤ i + f → t.size ≤ i + g → rem s f i k = rem t g i k ∧ (rem s f i k).1 ≤ m := by
  have h1 := h.ls
  have h2 := h.lt
  intro d
  induction d using Nat.strongRecOn with
  | _ d ih =>
    intro i f g k hd hi hf hg
    have hb := h.eq i hi
    by_cases hc : bt s i = 10
    · rw [rem_end (by omega), rem_end (by omega)]
      exact ⟨rfl, hi⟩
    · have hlt : i < m := by
        rcases Nat.lt_or_ge i m with g | g
        · exact g
        · have : i = m := by omega
          subst this
          exact absurd h.nl hc
      obtain ⟨f, rfl⟩ : ∃ f', f = f' + 1 := ⟨f - 1, by omega⟩
      obtain ⟨g, rfl⟩ : ∃ g', g = g' + 1 := ⟨g - 1, by omega⟩
      have hst := dec_stay (s := s) hlt h.nl
      have hz := dec_size (s := s) (i := i) (by omega)
      have hdc := h.dec hi
      rw [Go.Proofs.YtfknpnkdedckhaaGreatDoorT.rem, Go.Proofs.YtfknpnkdedckhaaGreatDoorT.rem, if_pos ⟨by omega, hc⟩, if_pos ⟨by omega, by omega⟩, ← hdc]
      exact ih (d - 1) (by omega) _ _ _ _ (by omega) (by omega) (by omega) (by omega)
theorem Ag.run (h : Ag s t m) : ∀ (d i f g k : Nat), m ≤ i + d → i ≤ m → s.size ≤ i + f → t.size ≤ i + g → run s f i k = run t g i k ∧ (run s f i k).1 ≤ m := by
  have h1 := h.ls
  have h2 := h.lt
  intro d
  induction d using Nat.strongRecOn with
  | _ d ih =>
    intro i f g k hd hi hf hg
    have hdc := h.dec hi
    obtain ⟨f, rfl⟩ : ∃ f', f = f' + 1 := ⟨f - 1, by omega⟩
    obtain ⟨g, rfl⟩ : ∃ g', g = g' + 1 := ⟨g - 1, by omega⟩
    rw [Go.Proofs.YtfknpnkdedckhaaGreatDoorT.run, Go.Proofs.YtfknpnkdedckhaaGreatDoorT.run, ← hdc]
    by_cases hc : ins (Utf8.decode s i).1 = true
    · have hlt : i < m := by
        rcases Nat.lt_or_ge i m with g | g
        · exact g
        · have : i = m := by omega
          subst this
          rw [dec_low (by rw [h.nl]; omega), h.nl] at hc
          exact absurd hc (by decide)
      have hst := dec_stay (s := s) hlt h.nl
      have hz := dec_size (s := s) (i := i) (by omega)
      rw [if_pos ⟨by omega, hc⟩, if_pos ⟨by omega, hc⟩]
      exact ih (d - 1) (by omega) _ _ _ _ (by omega) (by omega) (by omega) (by omega)
    · rw [if_neg (fun h => hc h.2), if_neg (fun h => hc h.2)]
      exact ⟨rfl, hi⟩
theorem Ag.suf (h : Ag s t m) {i : Nat} (hi : i ≤ m) : Ag (suf s i) (suf t i) (m - i) := by
  have h1 := h.ls
  have h2 := h.lt
  refine ⟨by rw [size_suf]; omega, by rw [size_suf]; omega, ?_, fun j hj => ?_⟩
  · rw [bt_suf, show i + (m - i) = m by omega]; exact h.nl
  · rw [bt_suf, bt_suf]; exact h.eq _ (by omega)
theorem Ag.fst (h : Ag s t m) (hm : 0 < m) : fst s = fst t ∧ ∀ k n r, fst s = some (k, n, r) → n ≤ m ∧ t.extract 0 n = s.extract 0 n := by
  have h1 := h.ls
  have h2 := h.lt
  have hgo : Lib.decodeGo s = Utf8.decode s 0 := by rw [dec_go, if_neg (by omega)]
  have hgo' : Lib.decodeGo t = Utf8.decode t 0 := by rw [dec_go, if_neg (by omega)]
  have hd := h.dec (Nat.zero_le m)
  obtain ⟨hr, hle⟩ := h.run m 0 s.size t.size 0 (by omega) (by omega) (by omega) (by omega)
  have hx : ∀ n, n ≤ m → t.extract 0 n = s.extract 0 n := fun n hn => pre_of_bt (by omega) (by omega) (fun j hj => (h.eq j (by omega)).symm)
  have hb0 := h.eq 0 (by omega)
  have hb1 := h.eq 1 (by omega)
  have hsg : sgn s = sgn t := by
    unfold sgn
    rw [hb0, hb1]
    simp only [show (1 < s.size) = (1 < t.size) from propext ⟨fun _ => by omega, fun _ => by omega⟩]
  have hsm : sgn s ≤ m := by
    unfold sgn
    split
    · rename_i hc
      rcases Nat.lt_or_ge m 2 with g | g
      · have : m = 1 := by omega
        subst this
        have := h.nl
        omega
      · exact g
    · split <;> omega
  unfold Go.Proofs.YtfknpnkdedckhaaGreatDoorT.fst
  rw [hgo, hgo', ← hd, ← hr, ← hsg, hx _ hle]
  refine ⟨rfl, fun k n r hk => ?_⟩
  have : n ≤ m := by
    repeat' split at hk
    all_goals simp only [Option.some.injEq, Prod.mk.injEq, reduceCtorEq] at hk
    all_goals omega
  exact ⟨this, hx n this⟩
/-- Up to the line feed the same words; or both behind it. -/
theorem Ag.lex (h : Ag s t m) : ∀ (d i ln col : Nat) (out : List W_glyph_Word), m ≤ i + d → i ≤ m →
    lexR s i ln col out = lexR t i ln col out ∨ ∃ ln' out', lexR s i ln col out = lexR s (m + 1) ln' 1 out' ∧ lexR t i ln col out = lexR t (m + 1) ln' 1 out' := by
  have h1 := h.ls
  have h2 := h.lt
  intro d
  induction d using Nat.strongRecOn with
  | _ d ih =>
    intro i ln col out hd hi
    have hb := h.eq i hi
    rw [lexR_eq (s := s) (i := i), lexR_eq (s := t) (i := i), if_neg (show ¬ s.size ≤ i by omega), if_neg (show ¬ t.size ≤ i by omega), ← hb]
    by_cases h10 : bt s i = 10
    · rw [if_pos h10, if_pos h10]
      rcases Nat.lt_or_ge i m with g | g
      · exact ih (d - 1) (by omega) _ _ _ _ (by omega) (by omega)
      · have : i = m := by omega
        subst this
        exact .inr ⟨_, _, rfl, rfl⟩
    have hlt : i < m := by
      rcases Nat.lt_or_ge i m with g | g
      · exact g
      · have : i = m := by omega
        subst this
        exact absurd h.nl h10
    rw [if_neg h10, if_neg h10]
    by_cases hsp : bt s i = 32 ∨ bt s i = 9
    · rw [if_pos hsp, if_pos hsp]
      exact ih (d - 1) (by omega) _ _ _ _ (by omega) (by omega)
    rw [if_neg hsp, if_neg hsp]
    by_cases h35 : bt s i = 35
    · rw [if_pos h35, if_pos h35]
      obtain ⟨hr, hle⟩ := h.rem m i s.size t.size 0 (by omega) hi (by omega) (by omega)
      have hp := rem_pos (s := s) (i := i) (by omega) h10
      rw [← hr]
      exact ih (d - 1) (by omega) _ _ _ _ (by omega) hle
    rw [if_neg h35, if_neg h35]
    obtain ⟨hf, hn⟩ := (h.suf hi).fst (by omega)
    rw [← hf]
    cases hq : Go.Proofs.YtfknpnkdedckhaaGreatDoorT.fst (Go.Proofs.YtfknpnkdedckhaaGreatDoorT.suf s i) with
    | none => exact .inl rfl
    | some q =>
      obtain ⟨k, n, r⟩ := q
      obtain ⟨hst, hr1, hn1⟩ := fst_stp (by rw [size_suf]; omega) hq
      have hle := hst.le
      obtain ⟨hnm, hx⟩ := hn k n r hq
      simp only
      by_cases h3 : out.length = 3000
      · rw [if_pos h3, if_pos h3]; exact .inl rfl
      · rw [if_neg h3, if_neg h3, hx]
        exact ih (d - 1) (by omega) _ _ _ _ (by omega) (by omega)
end
theorem lex_err {s : ByteArray} : ∀ (d i ln col : Nat) (out : List W_glyph_Word), s.size ≤ i + d → i ≤ s.size → (lexR s i ln col out).2.2 ≠ 0 → (lexR s i ln col out).1 = [] := by
  intro d
  induction d using Nat.strongRecOn with
  | _ d ih =>
    intro i ln col out h hi
    rw [lexR_eq]
    split
    · exact fun h => absurd rfl h
    · rename_i h0
      split
      · exact ih (d - 1) (by omega) _ _ _ _ (by omega) (by omega)
      · rename_i h1
        split
        · exact ih (d - 1) (by omega) _ _ _ _ (by omega) (by omega)
        · split
          · have hp := rem_pos (s := s) (i := i) (by omega) h1
            have hr := rem_le (s := s) s.size i 0 hi
            exact ih (d - 1) (by omega) _ _ _ _ (by omega) (by omega)
          · split
            · exact fun _ => rfl
            · rename_i k n r hk
              obtain ⟨hst, hr1, hn1⟩ := fst_stp (by rw [size_suf]; omega) hk
              have hle := hst.le
              rw [size_suf] at hn1
              split
              · exact fun _ => rfl
              · exact ih (d - 1) (by omega) _ _ _ _ (by omega) (by omega)
theorem words_err (s : ByteArray) : (wordsOf s).2.2 ≠ 0 → (wordsOf s).1 = [] := by
  unfold wordsOf
  split
  · exact fun _ => rfl
  · exact lex_err s.size 0 1 1 [] (by omega) (by omega)
theorem LikeL.rfl' {xs : List W_glyph_Word} : LikeL False xs xs := ⟨rfl, fun k x y hx hy => by rw [hx] at hy; cases hy; exact ⟨rfl, rfl, fun h => h.elim⟩⟩
theorem remarks_like {s r u : ByteArray} (hs : s.size ≤ 3000) (hr : r.size ≤ 3000) (hu : u.size ≤ 3000) (hn : ∀ j, j < r.size → bt r j ≠ 10) :
    (wordsOf ((s ++ bs [10]) ++ u)).2.2 = (wordsOf ((((s ++ bs [10, 35]) ++ r) ++ bs [10]) ++ u)).2.2 ∧ LikeL False (wordsOf ((s ++ bs [10]) ++ u)).1 (wordsOf ((((s ++ bs [10, 35]) ++ r) ++ bs [10]) ++ u)).1 := by
  have la := bl_len s
  have lr := bl_len r
  have lu := bl_len u
  generalize hA : (s ++ bs [10]) ++ u = A
  generalize hB : (((s ++ bs [10, 35]) ++ r) ++ bs [10]) ++ u = B
  have bA : bl A = bl s ++ 10 :: bl u := by rw [← hA, bl_append, bl_append]; simp [bl, bs]
  have bB : bl B = bl s ++ 10 :: 35 :: (bl r ++ 10 :: bl u) := by rw [← hB, bl_append, bl_append, bl_append, bl_append]; simp [bl, bs]
  have zA : A.size = s.size + 1 + u.size := by rw [← bl_len, bA, List.length_append, List.length_cons]; omega
  have zB : B.size = s.size + 3 + r.size + u.size := by rw [← bl_len, bB, List.length_append, List.length_cons, List.length_cons, List.length_append, List.length_cons]; omega
  have gA : ∀ j, j < s.size → bt A j = bt s j := by
    intro j hj; unfold bt; rw [bA, List.getD_eq_getElem?_getD, List.getElem?_append, if_pos (by omega), ← List.getD_eq_getElem?_getD]
  have gB : ∀ j, j < s.size → bt B j = bt s j := by
    intro j hj; unfold bt; rw [bB, List.getD_eq_getElem?_getD, List.getElem?_append, if_pos (by omega), ← List.getD_eq_getElem?_getD]
  have sB : bl (suf B (s.size + 1)) = 35 :: (bl r ++ 10 :: bl u) := by
    rw [bl_suf, bB, List.drop_append, List.drop_eq_nil_of_le (by omega), la, show s.size + 1 - s.size = 1 by omega]; rfl
  have nA : bt A s.size = 10 := by
    unfold bt; rw [bA, List.getD_eq_getElem?_getD, List.getElem?_append, if_neg (by omega), la, Nat.sub_self]; rfl
  have nB : bt B s.size = 10 := by
    unfold bt; rw [bB, List.getD_eq_getElem?_getD, List.getElem?_append, if_neg (by omega), la, Nat.sub_self]; rfl
  have tB : ∀ j, bt B (s.size + 1 + j) = ((35 :: (bl r ++ 10 :: bl u)).getD j 0).toNat := by
    intro j; rw [← bt_suf]; unfold bt; rw [sB]
  have hag : Ag A B s.size := ⟨by omega, by omega, nA, fun j hj => by
    rcases Nat.lt_or_ge j s.size with g | g
    · rw [gA j g, gB j g]
    · have : j = s.size := by omega
      subst this
      rw [nA, nB]⟩
  have hA' : wordsOf A = lexR A 0 1 1 [] := by rw [wordsOf, if_neg (by omega)]
  have hB' : wordsOf B = lexR B 0 1 1 [] := by rw [wordsOf, if_neg (by omega)]
  rw [hA', hB']
  rcases hag.lex s.size 0 1 1 [] (by omega) (by omega) with h | ⟨ln', out', h1, h2⟩
  · rw [h]; exact ⟨rfl, LikeL.rfl'⟩
  · rw [h1, h2]
    have b35 : bt B (s.size + 1) = 35 := by have := tB 0; simpa using this
    have q10 : bt B (s.size + 2 + r.size) = 10 := by
      have := tB (r.size + 1)
      rw [show s.size + 1 + (r.size + 1) = s.size + 2 + r.size by omega, List.getD_cons_succ, List.getD_eq_getElem?_getD, List.getElem?_append, if_neg (by omega), lr, Nat.sub_self] at this
      simpa using this
    have mid : ∀ j, s.size + 1 ≤ j → j < s.size + 2 + r.size → bt B j ≠ 10 := by
      intro j h3 h4
      obtain ⟨e, rfl⟩ : ∃ e, j = s.size + 1 + e := ⟨j - (s.size + 1), by omega⟩
      rw [tB]
      cases e with
      | zero => simp
      | succ e =>
        rw [List.getD_cons_succ, List.getD_eq_getElem?_getD, List.getElem?_append, if_pos (by omega), ← List.getD_eq_getElem?_getD]
        exact hn e (by omega)
    have hrem := rem_to (s := B) (q := s.size + 2 + r.size) (by omega) q10 B.size (s.size + 1) B.size 0 (by omega) (by omega) mid (by omega)
    rw [lexR_eq (s := B), if_neg (by omega), if_neg (by omega), if_neg (by omega), if_pos b35, hrem, lexR_eq (s := B), if_neg (by omega), if_pos q10]
    have hsuf : suf A (s.size + 1) = suf B (s.size + 2 + r.size + 1) := by
      have l1 : bl (suf A (s.size + 1)) = bl u := by
        rw [bl_suf, bA, List.drop_append, List.drop_eq_nil_of_le (by omega), la, show s.size + 1 - s.size = 1 by omega]
        rfl
      have l2 : bl (suf B (s.size + 2 + r.size + 1)) = bl u := by
        rw [show s.size + 2 + r.size + 1 = s.size + 1 + (r.size + 2) by omega, ← suf_suf, bl_suf, sB, List.drop_succ_cons, List.drop_append, List.drop_eq_nil_of_le (by omega), lr, show r.size + 1 - r.size = 1 by omega]
        rfl
      exact ext_bl (by rw [l1, l2])
    obtain ⟨e1, e2, _⟩ := lex_like (P := False) (s := A) (t := B) A.size (s.size + 1) (s.size + 2 + r.size + 1) ln' (ln' + 1) 1 1 out' out' (by omega) hsuf (by omega) (by omega) (fun h => h.elim) LikeL.rfl'
    exact ⟨e1, e2⟩
end Go.Proofs.YtfknpnkdedckhaaGreatDoorT

/- The names in an expression; what expr.Refs is to come to. -/
namespace Go.Proofs.YtfknpnkdedckhaaGreatDoorT
open Go Go.Proofs
def E.names : E → List ByteArray
  | .ref s => [s]
  | .not x => x.names
  | .neg x => x.names
  | .bin _ l r => l.names ++ r.names
  | _ => []
theorem ok_parts {x : E} (h : x.ok = true) : x.nodes ≤ 40 ∧ x.snd = true := by
  simp only [E.ok, E.sd, Bool.and_eq_true, decide_eq_true_eq] at h
  exact ⟨h.1, h.2.1⟩
/-- What expr.Refs comes to of a formed expression (given by hand). -/
def RefsSaid : Prop := ∀ x : E, x.wf → x.ok = true → ∃ L : List ByteArray, Rn 167 [x.v.v] (.sl 1 (L.map st), [.dead]) ∧ (∀ t, t ∈ L ↔ t ∈ x.names) ∧ L.length ≤ 1000
end Go.Proofs.YtfknpnkdedckhaaGreatDoorT

/- The text of an expression; its words; how long it is. -/
namespace Go.Proofs.YtfknpnkdedckhaaGreatDoorT
open Go Go.Proofs
set_option linter.unusedVariables false
def dec (n : Nat) : ByteArray := ⟨(Lib.decDigits n).toArray⟩
theorem bl_dec (n : Nat) : bl (dec n) = Lib.decDigits n := by simp [bl, dec]
/-- In brackets, if it holds less than it must. -/
def wrp (k least : Nat) (t : ByteArray) : ByteArray := if k < least then bs [40] ++ t ++ bs [41] else t
/-- How strongly it holds together. -/
def E.str : E → Nat
  | .bin op _ _ => lvl op
  | _ => 6
def lft (k : Nat) : Nat := if k = 3 then 4 else k
def E.txt : E → ByteArray
  | .non => bs []
  | .lit n => dec n.toNat
  | .ref s => s
  | .not x => bs [33] ++ wrp x.str 6 x.txt
  | .neg x => bs [45] ++ wrp x.str 6 x.txt
  | .bin op l r => wrp l.str (lft (lvl op)) l.txt ++ bs [32] ++ op ++ bs [32] ++ wrp r.str (lvl op + 1) r.txt
abbrev Tk := Int × ByteArray
def wrk (k least : Nat) (l : List Tk) : List Tk := if k < least then (3, bs [40]) :: l ++ [(3, bs [41])] else l
def E.tks : E → List Tk
  | .non => []
  | .lit n => [(2, dec n.toNat)]
  | .ref s => [(1, s)]
  | .not x => (3, bs [33]) :: wrk x.str 6 x.tks
  | .neg x => (3, bs [45]) :: wrk x.str 6 x.tks
  | .bin op l r => wrk l.str (lft (lvl op)) l.tks ++ (3, op) :: wrk r.str (lvl op + 1) r.tks
theorem size_append (s t : ByteArray) : (s ++ t).size = s.size + t.size := by
  rw [← bl_len, bl_append, List.length_append, bl_len, bl_len]
theorem size_bs (l : List UInt8) : (bs l).size = l.length := by rw [← bl_len]; simp [bl, bs]
theorem size_dec (n : Nat) (h : n ≤ 1000000000) : (dec n).size ≤ 10 := by
  rw [← bl_len, bl_dec]; exact dec_len 9 n (by omega)
theorem lvl_size {s : ByteArray} (h : lvl s ≠ 0) : 1 ≤ s.size ∧ s.size ≤ 2 := by
  have : s ∈ OPS := by
    have := ops_lvl s
    rw [decide_eq_true h, List.any_eq_true] at this
    obtain ⟨y, h1, h2⟩ := this
    simp only [decide_eq_true_eq] at h2
    subst h2; exact h1
  simp only [OPS, List.mem_cons, List.not_mem_nil, or_false] at this
  rcases this with h | h | h | h | h | h | h | h | h <;> subst h <;> decide
theorem run_four {t : ByteArray} : ∀ (f n k : Nat), (run t f n k).1 + 4 * k ≤ n + 4 * (run t f n k).2
  | 0, n, k => by rw [run]; omega
  | f + 1, n, k => by
    rw [run]
    split
    · have := run_four (t := t) f (n + (Utf8.decode t n).2) (k + 1)
      have h4 : (Utf8.decode t n).2 ≤ 4 := by rw [dec_eq]; exact (decN_stay ..).1
      omega
    · simp only; omega
theorem nm_size {s : ByteArray} (h : nm s = true) : s.size ≤ 96 := by
  simp only [nm, Bool.and_eq_true, decide_eq_true_eq] at h
  have := run_four (t := s) s.size 0 0
  omega
theorem wrp_size (k l : Nat) (t : ByteArray) : (wrp k l t).size ≤ t.size + 2 := by
  unfold wrp
  split
  · rw [size_append, size_append, size_bs, size_bs]; simp; omega
  · omega
theorem txt_size : ∀ x : E, x.snd = true → x.txt.size + 4 ≤ 100 * x.nodes := by
  intro x
  induction x with
  | non => intro h; cases h
  | lit n =>
    intro h
    simp only [E.snd, decide_eq_true_eq] at h
    have := size_dec n.toNat (by omega)
    simp only [E.txt, E.nodes]; omega
  | ref s =>
    intro h
    have := nm_size (s := s) h
    simp only [E.txt, E.nodes]; omega
  | not x ih =>
    intro h
    have := ih h
    have := wrp_size x.str 6 x.txt
    simp only [E.txt, E.nodes]; rw [size_append, size_bs]; simp; omega
  | neg x ih =>
    intro h
    have := ih h
    have := wrp_size x.str 6 x.txt
    simp only [E.txt, E.nodes]; rw [size_append, size_bs]; simp; omega
  | bin op l r ih1 ih2 =>
    intro h
    simp only [E.snd, Bool.and_eq_true, decide_eq_true_eq] at h
    have := ih1 h.1.2
    have := ih2 h.2
    have := wrp_size l.str (lft (lvl op)) l.txt
    have := wrp_size r.str (lvl op + 1) r.txt
    have := lvl_size h.1.1
    simp only [E.txt, E.nodes]; rw [size_append, size_append, size_append, size_append, size_bs]; simp; omega
theorem ok_size {x : E} (h : x.ok = true) : x.txt.size ≤ 4000 := by
  have := ok_parts h
  have := txt_size x this.2
  omega
theorem wrk_len (k l : Nat) (t : List Tk) : (wrk k l t).length ≤ t.length + 2 := by
  unfold wrk
  split <;> simp
theorem tks_len : ∀ x : E, x.tks.length ≤ 6 * x.nodes := by
  intro x
  induction x with
  | non => simp [E.tks, E.nodes]
  | lit n => simp [E.tks, E.nodes]
  | ref s => simp [E.tks, E.nodes]
  | not x ih =>
    have := wrk_len x.str 6 x.tks
    simp only [E.tks, E.nodes, List.length_cons]; omega
  | neg x ih =>
    have := wrk_len x.str 6 x.tks
    simp only [E.tks, E.nodes, List.length_cons]; omega
  | bin op l r ih1 ih2 =>
    have := wrk_len l.str (lft (lvl op)) l.tks
    have := wrk_len r.str (lvl op + 1) r.tks
    simp only [E.tks, E.nodes, List.length_append, List.length_cons]; omega
end Go.Proofs.YtfknpnkdedckhaaGreatDoorT

/- What words say, as rules. -/
namespace Go.Proofs.YtfknpnkdedckhaaGreatDoorT
open Go Go.Proofs
set_option linter.unusedVariables false
def num (s : ByteArray) : Nat := (numV s).getD 0
/-- What is read: one that stands alone; operators of a level and stronger ones; those behind what has been read. -/
inductive Tag where
  | sg (a : Nat)
  | cl (k a : Nat)
  | lp (k m : Nat) (x : E) (a : Nat) (b : Bool)
/-- The expression that is read, up to where, and whether it can't go on there. -/
inductive Pr (ws : List W_glyph_Word) : Tag → E → Nat → Bool → Prop
  | sEnd {a : Nat} (h : ws[a]? = none) : Pr ws (.sg a) .non a true
  | sNum {a : Nat} {w : W_glyph_Word} (h : ws[a]? = some w) (hk : w.fKind = 2) : Pr ws (.sg a) (.lit (num w.fText)) (a + 1) false
  | sRef {a : Nat} {w : W_glyph_Word} (h : ws[a]? = some w) (hk : w.fKind = 1) (hr : resv w.fText = false) : Pr ws (.sg a) (.ref w.fText) (a + 1) false
  | sNot {a a' : Nat} {w : W_glyph_Word} {x : E} {b : Bool} (h : ws[a]? = some w) (hk : w.fKind = 3) (ht : w.fText = bs [33]) (hx : Pr ws (.sg (a + 1)) x a' b) : Pr ws (.sg a) (.not x) a' b
  | sNeg {a a' : Nat} {w : W_glyph_Word} {x : E} {b : Bool} (h : ws[a]? = some w) (hk : w.fKind = 3) (ht : w.fText = bs [45]) (hx : Pr ws (.sg (a + 1)) x a' b) : Pr ws (.sg a) (.neg x) a' b
  | sPar {a a' : Nat} {w v : W_glyph_Word} {x : E} (h : ws[a]? = some w) (hk : w.fKind = 3) (ht : w.fText = bs [40]) (hx : Pr ws (.cl 1 (a + 1)) x a' false) (h' : ws[a']? = some v) (hv : v.fText = bs [41]) : Pr ws (.sg a) x (a' + 1) false
  | sParN {a a' : Nat} {w : W_glyph_Word} {x : E} {b : Bool} (h : ws[a]? = some w) (hk : w.fKind = 3) (ht : w.fText = bs [40]) (hx : Pr ws (.cl 1 (a + 1)) x a' b) (hb : b = false → ∀ v, ws[a']? = some v → v.fText ≠ bs [41]) : Pr ws (.sg a) .non a' true
  | sBad {a : Nat} {w : W_glyph_Word} (h : ws[a]? = some w) (hk : (w.fKind = 1 ∧ resv w.fText = true) ∨ (w.fKind = 3 ∧ w.fText ≠ bs [33] ∧ w.fText ≠ bs [45] ∧ w.fText ≠ bs [40])) : Pr ws (.sg a) .non a true
  | clm {k a a1 a2 : Nat} {x y : E} {b1 b2 : Bool} (h : Pr ws (.sg a) x a1 b1) (h' : Pr ws (.lp k 6 x a1 b1) y a2 b2) : Pr ws (.cl k a) y a2 b2
  | lBad {k m a : Nat} {x : E} : Pr ws (.lp k m x a true) x a true
  | lEnd {k m a : Nat} {x : E} (h : ∀ w, ws[a]? = some w → w.fKind = 3 → lvl w.fText < k ∨ m < lvl w.fText) : Pr ws (.lp k m x a false) x a false
  | lBin {k m a a1 a2 : Nat} {x y z : E} {b1 b2 : Bool} {w : W_glyph_Word} (h : ws[a]? = some w) (hk : w.fKind = 3) (h1 : k ≤ lvl w.fText) (h2 : lvl w.fText ≤ m) (hy : Pr ws (.cl (lvl w.fText + 1) (a + 1)) y a1 b1)
      (hz : Pr ws (.lp k (if lvl w.fText = 3 then 2 else lvl w.fText) (.bin w.fText x y) a1 b1) z a2 b2) : Pr ws (.lp k m x a false) z a2 b2
/-- A word is of one of the kinds. -/
def Kd (w : W_glyph_Word) : Prop := (w.fKind = 1 ∧ nm w.fText = true) ∨ (w.fKind = 2 ∧ numB w.fText = true) ∨ w.fKind = 3
theorem kd_of_wd {w : W_glyph_Word} (h : Wd w) : Kd w := by
  obtain ⟨t, k, n, r, h0, hf, hk, ht⟩ := h
  unfold fst at hf
  split at hf
  · split at hf
    · rename_i hn
      simp only [Option.some.injEq, Prod.mk.injEq] at hf
      obtain ⟨rfl, rfl, rfl⟩ := hf
      exact .inl ⟨hk, by rw [ht]; exact hn⟩
    · cases hf
  · split at hf
    · split at hf
      · rename_i hn
        simp only [Option.some.injEq, Prod.mk.injEq] at hf
        obtain ⟨rfl, rfl, rfl⟩ := hf
        exact .inr (.inl ⟨hk, by rw [ht]; exact hn⟩)
      · cases hf
    · split at hf
      · cases hf
      · simp only [Option.some.injEq, Prod.mk.injEq] at hf
        obtain ⟨rfl, rfl, rfl⟩ := hf
        exact .inr (.inr hk)
/-- Something is read, whatever words there are; and the words that are read lie between. -/
theorem pr_total (ws : List W_glyph_Word) (hw : ∀ w ∈ ws, Kd w) : ∀ (n a : Nat), ws.length ≤ a + n → a ≤ ws.length →
    (∃ x a' b, Pr ws (.sg a) x a' b ∧ a ≤ a' ∧ a' ≤ ws.length ∧ (b = false → a < a')) ∧
    (∀ k m x b, ∃ y a' b', Pr ws (.lp k m x a b) y a' b' ∧ a ≤ a' ∧ a' ≤ ws.length) := by
  intro n
  induction n with
  | zero =>
    intro a h ha
    have he : ws[a]? = none := List.getElem?_eq_none (by omega)
    refine ⟨⟨_, _, _, .sEnd he, Nat.le_refl _, ha, fun h => by cases h⟩, fun k m x b => ?_⟩
    cases b with
    | true => exact ⟨_, _, _, .lBad, Nat.le_refl _, ha⟩
    | false => exact ⟨_, _, _, .lEnd (fun w hw => by rw [he] at hw; cases hw), Nat.le_refl _, ha⟩
  | succ n ih =>
    intro a h ha
    have cl : ∀ k a, ws.length ≤ a + n → a ≤ ws.length → ∃ y a' b', Pr ws (.cl k a) y a' b' ∧ a ≤ a' ∧ a' ≤ ws.length := by
      intro k a h ha
      obtain ⟨x, a1, b1, h1, h2, h3, _⟩ := (ih a h ha).1
      obtain ⟨y, a2, b2, h4, h5, h6⟩ := (ih a1 (by omega) h3).2 k 6 x b1
      exact ⟨_, _, _, .clm h1 h4, by omega, h6⟩
    cases hg : ws[a]? with
    | none =>
      refine ⟨⟨_, _, _, .sEnd hg, Nat.le_refl _, ha, fun h => by cases h⟩, fun k m x b => ?_⟩
      cases b with
      | true => exact ⟨_, _, _, .lBad, Nat.le_refl _, ha⟩
      | false => exact ⟨_, _, _, .lEnd (fun w hw => by rw [hg] at hw; cases hw), Nat.le_refl _, ha⟩
    | some w =>
      have hlt : a < ws.length := (List.getElem?_eq_some_iff.1 hg).1
      constructor
      · rcases hw w (List.mem_of_getElem? hg) with ⟨hk, hn⟩ | ⟨hk, hn⟩ | hk
        · cases hr : resv w.fText with
          | false => exact ⟨_, _, _, .sRef hg hk hr, by omega, by omega, fun _ => by omega⟩
          | true => exact ⟨_, _, _, .sBad hg (.inl ⟨hk, hr⟩), Nat.le_refl _, ha, fun h => by cases h⟩
        · exact ⟨_, _, _, .sNum hg hk, by omega, by omega, fun _ => by omega⟩
        · by_cases h1 : w.fText = bs [33]
          · obtain ⟨x, a', b, e1, e2, e3, e4⟩ := (ih (a + 1) (by omega) (by omega)).1
            exact ⟨_, _, _, .sNot hg hk h1 e1, by omega, e3, fun _ => by omega⟩
          by_cases h2 : w.fText = bs [45]
          · obtain ⟨x, a', b, e1, e2, e3, e4⟩ := (ih (a + 1) (by omega) (by omega)).1
            exact ⟨_, _, _, .sNeg hg hk h2 e1, by omega, e3, fun _ => by omega⟩
          by_cases h3 : w.fText = bs [40]
          · obtain ⟨x, a', b, e1, e2, e3⟩ := cl 1 (a + 1) (by omega) (by omega)
            by_cases hq : b = false ∧ ∃ v, ws[a']? = some v ∧ v.fText = bs [41]
            · obtain ⟨rfl, v, hv, hv'⟩ := hq
              have := (List.getElem?_eq_some_iff.1 hv).1
              exact ⟨_, _, _, .sPar hg hk h3 e1 hv hv', by omega, by omega, fun _ => by omega⟩
            · exact ⟨_, _, _, .sParN hg hk h3 e1 (fun hb v hv hv' => hq ⟨hb, v, hv, hv'⟩), by omega, e3, fun h => by cases h⟩
          · exact ⟨_, _, _, .sBad hg (.inr ⟨hk, h1, h2, h3⟩), Nat.le_refl _, ha, fun h => by cases h⟩
      · intro k m x b
        cases b with
        | true => exact ⟨_, _, _, .lBad, Nat.le_refl _, ha⟩
        | false =>
          by_cases hc : w.fKind = 3 ∧ k ≤ lvl w.fText ∧ lvl w.fText ≤ m
          · obtain ⟨hk, h1, h2⟩ := hc
            obtain ⟨y, a1, b1, e1, e2, e3⟩ := cl (lvl w.fText + 1) (a + 1) (by omega) (by omega)
            obtain ⟨z, a2, b2, e4, e5, e6⟩ := (ih a1 (by omega) e3).2 k (if lvl w.fText = 3 then 2 else lvl w.fText) (.bin w.fText x y) b1
            exact ⟨_, _, _, .lBin hg hk h1 h2 e1 e4, by omega, e6⟩
          · refine ⟨_, _, _, .lEnd (fun v hv hk => ?_), Nat.le_refl _, ha⟩
            rw [hg] at hv
            cases hv
            rcases Nat.lt_or_ge (lvl w.fText) k with g | g
            · exact .inl g
            · rcases Nat.lt_or_ge m (lvl w.fText) with g' | g'
              · exact .inr g'
              · exact absurd ⟨hk, g, g'⟩ hc
theorem pr_cl (ws : List W_glyph_Word) (hw : ∀ w ∈ ws, Kd w) (k : Nat) : ∃ y a b, Pr ws (.cl k 0) y a b ∧ a ≤ ws.length := by
  obtain ⟨x, a1, b1, h1, h2, h3, _⟩ := (pr_total ws hw ws.length 0 (by omega) (by omega)).1
  obtain ⟨y, a2, b2, h4, h5, h6⟩ := (pr_total ws hw ws.length a1 (by omega) h3).2 k 6 x b1
  exact ⟨_, _, _, .clm h1 h4, h6⟩
end Go.Proofs.YtfknpnkdedckhaaGreatDoorT

/- The program's reader of expressions comes to what the words say. -/
namespace Go.Proofs.YtfknpnkdedckhaaGreatDoorT
open Go Go.Proofs
set_option linter.unusedVariables false
theorem r195 (s : ByteArray) : Rn 195 [st s] (tb (resv s), [.dead]) := f195 _ _ ⟨_, r280 RS s (by decide), rfl⟩
/-- The rows of operators, the weakest first. -/
def LV : List (List ByteArray) := [[], [bs [124, 124]], [bs [38, 38]], [bs [60], bs [60, 61], bs [61, 61], bs [33, 61]], [bs [43], bs [45]], [bs [42]]]
def LVT : List T := LV.map fun l => .sl 1 (l.map st)
theorem r380 (s : ByteArray) : Rn 380 [st s] (i64 (lvl s), [.dead]) := by
  refine f380 _ _ ?_
  show L380_0 s 6 0 LVT _
  have step : ∀ (k : Nat) (l : List ByteArray) (R : T × List T), k < 6 → LV[k]? = some l → l.length ≤ 1000 → ((l.any fun y => decide (s = y)) = true → R = (i64 k, [.dead])) → ((l.any fun y => decide (s = y)) = false → L380_0 s 6 ((k + 1 : Nat) : Int) LVT R) → L380_0 s 6 (k : Int) LVT R := by
    intro k l R hk hl hn ht hf
    refine l380_0 _ _ _ _ _ (cT (by simp; omega) ⟨⟨by omega, by show (k : Int) < ((6 : Nat) : Int); omega⟩, l.map st, ?_, _, r280 l s hn, cb (fun h => ht h) (fun h => ?_)⟩)
    · rw [toN, LVT, List.getElem?_map, hl]; rfl
    · rw [wS (by omega)]; exact hf h
  have hlv : ∀ k : Nat, lvl s = k → (i64 (lvl s), [.dead]) = ((i64 (k : Int), [.dead]) : T × List T) := fun k h => by rw [h]
  refine step 0 _ _ (by decide) rfl (by decide) (fun h => by simp at h) (fun h0 => ?_)
  refine step 1 _ _ (by decide) rfl (by decide) (fun h => hlv 1 (by simp at h; subst h; decide)) (fun h1 => ?_)
  refine step 2 _ _ (by decide) rfl (by decide) (fun h => hlv 2 (by simp at h; subst h; decide)) (fun h2 => ?_)
  refine step 3 _ _ (by decide) rfl (by decide) (fun h => hlv 3 (by simp at h; rcases h with h | h | h | h <;> subst h <;> decide)) (fun h3 => ?_)
  refine step 4 _ _ (by decide) rfl (by decide) (fun h => hlv 4 (by simp at h; rcases h with h | h <;> subst h <;> decide)) (fun h4 => ?_)
  refine step 5 _ _ (by decide) rfl (by decide) (fun h => hlv 5 (by simp at h; subst h; decide)) (fun h5 => ?_)
  refine l380_0 _ _ _ _ _ (cF (by decide) ?_)
  simp at h1 h2 h3 h4 h5
  rw [show lvl s = 0 by unfold lvl; simp_all]
  rfl
abbrev ps (ws : List W_glyph_Word) (a : Nat) (b : Bool) : T := .cbox 82 [.sl 4 (ws.map W_glyph_Word.t), i64 (a : Int), tb b]
end Go.Proofs.YtfknpnkdedckhaaGreatDoorT

/- The library's numerals of whole numbers (the shelf's contract). -/
namespace Go.Proofs
open Go.Shelf Go.RowKit Go.Sort Go.Lib
def Tryz.laysFmtI_ren : Go.Shelf.Ren := ⟨fun | 246 => 186 | 283 => 265 | 284 => 266 | 285 => 267 | 286 => 268 | 129 => 312 | 317 => 337 | 318 => 338 | 319 => 339 | 320 => 340 | 337 => 377 | 338 => 378 | n => n, fun | 2 => 2 | 3 => 3 | 9 => 9 | 4 => 4 | 171 => 407 | 0 => 0 | 53 => 408 | 37 => 211 | 5 => 5 | 173 => 411 | 212 => 479 | 51 => 453 | 20 => 20 | 213 => 480 | 46 => 359 | 232 => 519 | 233 => 520 | n => n, fun | 17 => 0 | 18 => 4 | 19 => 5 | n => n⟩
theorem Tryz.laysFmtI : Go.Proofs.LaysM.n246 Tryz.prog Tryz.laysFmtI_ren where
  mixed := by kernel_rfl
  f129 := Tryz.func312.trans (congrArg some (by kernel_rfl))
  f246 := Tryz.func186.trans (congrArg some (by kernel_rfl))
  f283 := Tryz.func265.trans (congrArg some (by kernel_rfl))
  f284 := Tryz.func266.trans (congrArg some (by kernel_rfl))
  f285 := Tryz.func267.trans (congrArg some (by kernel_rfl))
  f286 := Tryz.func268.trans (congrArg some (by kernel_rfl))
  f317 := Tryz.func337.trans (congrArg some (by kernel_rfl))
  f318 := Tryz.func338.trans (congrArg some (by kernel_rfl))
  f319 := Tryz.func339.trans (congrArg some (by kernel_rfl))
  f320 := Tryz.func340.trans (congrArg some (by kernel_rfl))
  f337 := Tryz.func377.trans (congrArg some (by kernel_rfl))
  f338 := Tryz.func378.trans (congrArg some (by kernel_rfl))
  t0 := Tryz.underlying0
  a0 := Tryz.isAgg0
  z0 := Tryz.sizeOf0
  v0 := Tryz.zeroValue0
  t2 := Tryz.underlying2
  a2 := Tryz.isAgg2
  z2 := Tryz.sizeOf2
  v2 := Tryz.zeroValue2
  t3 := Tryz.underlying3
  a3 := Tryz.isAgg3
  z3 := Tryz.sizeOf3
  v3 := Tryz.zeroValue3
  t4 := Tryz.underlying4
  a4 := Tryz.isAgg4
  z4 := Tryz.sizeOf4
  v4 := Tryz.zeroValue4
  t5 := Tryz.underlying5
  a5 := Tryz.isAgg5
  z5 := Tryz.sizeOf5
  v5 := Tryz.zeroValue5
  t9 := Tryz.underlying9
  a9 := Tryz.isAgg9
  z9 := Tryz.sizeOf9
  v9 := Tryz.zeroValue9
  t20 := Tryz.underlying20
  a20 := Tryz.isAgg20
  z20 := Tryz.sizeOf20
  v20 := Tryz.zeroValue20
  t37 := Tryz.underlying211
  a37 := Tryz.isAgg211
  z37 := Tryz.sizeOf211
  v37 := Tryz.zeroValue211
  t46 := Tryz.underlying359
  a46 := Tryz.isAgg359
  z46 := Tryz.sizeOf359
  v46 := Tryz.zeroValue359
  t51 := Tryz.underlying453
  a51 := Tryz.isAgg453
  z51 := Tryz.sizeOf453
  v51 := Tryz.zeroValue453
  t53 := Tryz.underlying408
  a53 := Tryz.isAgg408
  z53 := Tryz.sizeOf408
  v53 := Tryz.zeroValue408
  t171 := Tryz.underlying407
  a171 := Tryz.isAgg407
  z171 := Tryz.sizeOf407
  v171 := Tryz.zeroValue407
  t173 := Tryz.underlying411
  a173 := Tryz.isAgg411
  z173 := Tryz.sizeOf411
  v173 := Tryz.zeroValue411
  t212 := Tryz.underlying479
  a212 := Tryz.isAgg479
  z212 := Tryz.sizeOf479
  v212 := Tryz.zeroValue479
  t213 := Tryz.underlying480
  a213 := Tryz.isAgg480
  z213 := Tryz.sizeOf480
  t232 := Tryz.underlying519
  a232 := Tryz.isAgg519
  z232 := Tryz.sizeOf519
  v232 := Tryz.zeroValue519
  t233 := Tryz.underlying520
  a233 := Tryz.isAgg520
  z233 := Tryz.sizeOf520
  v233 := Tryz.zeroValue520
  g17 := by kernel_rfl
  g18 := by kernel_rfl
  g19 := by kernel_rfl
  i0 := by kernel_rfl
  i2 := by kernel_rfl
  i3 := by kernel_rfl
  i4 := by kernel_rfl
  i5 := by kernel_rfl
  i9 := by kernel_rfl
  i20 := by kernel_rfl
  i37 := by kernel_rfl
  i46 := by kernel_rfl
  i51 := by kernel_rfl
  i53 := by kernel_rfl
  i171 := by kernel_rfl
  i173 := by kernel_rfl
  i212 := by kernel_rfl
  i232 := by kernel_rfl
  i233 := by kernel_rfl
  m17 := by kernel_rfl
  m18 := by kernel_rfl
  m19 := by kernel_rfl
namespace YtfknpnkdedckhaaGreatDoorT
set_option linter.unusedVariables false
theorem runsItoa (n : Int) (h0 : -9223372036854775808 ≤ n) (h1 : n ≤ 9223372036854775807) : Runs Tryz.prog 186 [i64 n, i64 10] (st ⟨(Lib.itoa n).toArray⟩, [.dead, .dead]) :=
  runs_of_calls (us := [.int .i64 n, .int .i64 10]) ⟨Tryz.f186, Tryz.func186, by decide, by kernel_rfl⟩ (by simp [plainV]) fun w hG =>
    (Any.internal_strconv_FormatInt_10 Tryz.laysFmtI n h0 h1 w (glob_pow hG)).mono fun e w' ⟨he, k, os, hw⟩ => ⟨by rw [hw]; exact Lib.below_grow _ _ (Nat.le_refl _) _ _, _, he, fun ok => X_s rfl⟩
theorem runs186 (n : Nat) (h : n ≤ 1000000000) : Runs Tryz.prog 186 [i64 n, i64 10] (st ⟨(Lib.decDigits n).toArray⟩, [.dead, .dead]) := by
  have := runsItoa n (by omega) (by omega)
  rw [Lib.itoa_nonneg] at this
  exact this
end YtfknpnkdedckhaaGreatDoorT
end Go.Proofs

/- The text of an expression, by the program. -/
namespace Go.Proofs.YtfknpnkdedckhaaGreatDoorT
open Go Go.Proofs
set_option linter.unusedVariables false
theorem r400 (x : E) : Rn 400 [x.v.v] (i64 (x.str : Int), [.dead]) := by
  cases x with
  | bin op l r => exact f400 _ _ (cT rfl ⟨⟨op, l.v, r.v⟩, rfl, _, r380 op, rfl⟩)
  | _ => exact f400 _ _ (cF rfl rfl)
theorem small_of {x : E} (hs : x.snd = true) (hn : x.nodes ≤ 40) : x.txt.size ≤ 4000 := by
  have := txt_size x hs
  omega
theorem r379 {x : E} (h : Rn 342 [x.v.v] (st x.txt, [.dead])) (hz : x.txt.size ≤ 4000) (m : Nat) : Rn 379 [x.v.v, i64 (m : Int)] (st (wrp x.str m x.txt), [.dead, .dead]) := by
  refine f379 _ _ _ ⟨_, h, _, r400 x, cd (fun hm => ?_) (fun hm => ⟨by rw [size_bs]; simp; omega, by rw [size_append, size_bs, size_bs]; simp; omega, ?_⟩)⟩
  · rw [wrp, if_neg (by omega)]
  · rw [wrp, if_pos (by omega)]
theorem r98 {n : Int} (h : 0 ≤ n ∧ n ≤ 1000000000) : Rn 98 [i64 n, i64 10] (st (dec n.toNat), [.dead, .dead]) := by
  have := runs186 n.toNat (by omega)
  rw [Int.toNat_of_nonneg h.1] at this
  exact f98 _ _ _ ⟨_, this, rfl⟩
theorem r342 : ∀ x : E, x.snd = true → x.nodes ≤ 40 → Rn 342 [x.v.v] (st x.txt, [.dead]) := by
  intro x
  induction x with
  | non => intro h; cases h
  | lit n =>
    intro h hn
    simp only [E.snd, decide_eq_true_eq] at h
    exact f342 _ _ (cT rfl ⟨⟨n⟩, rfl, _, r98 h, rfl⟩)
  | ref s => exact fun h hn => f342 _ _ (cF rfl (cT rfl ⟨⟨s⟩, rfl, rfl⟩))
  | not x ih =>
    intro h hn
    simp only [E.nodes] at hn
    have hz := small_of (x := x) h (by omega)
    have := wrp_size x.str 6 x.txt
    exact f342 _ _ (cF rfl (cF rfl (cT rfl ⟨⟨x.v⟩, rfl, _, r379 (ih h (by omega)) hz 6, by rw [size_bs]; simp; omega, rfl⟩)))
  | neg x ih =>
    intro h hn
    simp only [E.nodes] at hn
    have hz := small_of (x := x) h (by omega)
    have := wrp_size x.str 6 x.txt
    exact f342 _ _ (cF rfl (cF rfl (cF rfl (cT rfl ⟨⟨x.v⟩, rfl, _, r379 (ih h (by omega)) hz 6, by rw [size_bs]; simp; omega, rfl⟩))))
  | bin op l r ih1 ih2 =>
    intro h hn
    simp only [E.nodes] at hn
    simp only [E.snd, Bool.and_eq_true, decide_eq_true_eq] at h
    have hl := small_of h.1.2 (by omega)
    have hr := small_of h.2 (by omega)
    have hop := lvl_size h.1.1
    have hle := lvl_le op
    have w1 := wrp_size l.str (lft (lvl op)) l.txt
    have w2 := wrp_size r.str (lvl op + 1) r.txt
    have a1 := r379 (ih1 h.1.2 (by omega)) hl (lft (lvl op))
    have a2 := r379 (ih2 h.2 (by omega)) hr (lvl op + 1)
    have e1 : IntKind.wrap .i64 ((lvl op : Int) + 1) = ((lvl op + 1 : Nat) : Int) := wS (by omega)
    refine f342 _ _ (cF rfl (cF rfl (cF rfl (cF rfl (cT rfl ⟨⟨op, l.v, r.v⟩, rfl, _, r380 op, cd (fun h3 => ?_) (fun h3 => ?_)⟩)))))
    · have h3 : lvl op = 3 := by omega
      have e2 : lft (lvl op) = lvl op + 1 := by rw [h3]; rfl
      rw [e1]
      rw [e2] at a1 w1
      refine ⟨_, a1, ?_, ?_, ?_, _, a2, ?_, ?_⟩
      all_goals try (simp only [size_append, size_bs]; simp; omega)
      rw [E.txt, e2]
    · have h3 : lvl op ≠ 3 := by omega
      have e2 : lft (lvl op) = lvl op := by rw [lft, if_neg h3]
      rw [e1]
      rw [e2] at a1 w1
      refine ⟨_, a1, ?_, ?_, ?_, _, a2, ?_, ?_⟩
      all_goals try (simp only [size_append, size_bs]; simp; omega)
      rw [E.txt, e2]
end Go.Proofs.YtfknpnkdedckhaaGreatDoorT

/- Expressions as values; what is told of functions by the interpreter, at values. -/
namespace Go.Proofs
open Go.RowKit
namespace YtfknpnkdedckhaaGreatDoorT
set_option linter.unusedVariables false
/-- As a value. -/
def E.val : E → Value
  | .non => .nilIface
  | .lit n => .iface 165 (.agg #[.int .i64 n])
  | .ref s => .iface 378 (.agg #[.string s])
  | .not x => .iface 380 (.agg #[x.val])
  | .neg x => .iface 381 (.agg #[x.val])
  | .bin op l r => .iface 383 (.agg #[.string op, l.val, r.val])
theorem rep_scal {C : Ctx} {u v : Value} (h : Rep C (.s u) v) : v = u := by cases h; rfl
theorem rep_ifc {C : Ctx} {t : TypeId} {x : T} {v : Value} (ht : t ≠ 0) (h : Rep C (.ifc t x) v) : ∃ u, v = .iface t u ∧ Rep C.ro x u := by
  cases h with
  | ifc h0 h => exact ⟨_, rfl, h⟩
  | ifn => exact absurd rfl ht
theorem rep_nil {C : Ctx} {v : Value} (h : Rep C (.ifc 0 .dead) v) : v = .nilIface := by
  cases h with
  | ifc h0 h => exact absurd rfl h0
  | ifn => rfl
theorem rep_agg1 {C : Ctx} {x : T} {v : Value} (h : Rep C (.agg [x]) v) : ∃ u, v = .agg #[u] ∧ Rep C x u := by
  obtain ⟨vs, rfl, hl, hc, _⟩ := h.agg_parts
  match vs, hl with
  | [u], _ => exact ⟨u, rfl, hc 0 x u rfl rfl⟩
theorem rep_agg3 {C : Ctx} {x y z : T} {v : Value} (h : Rep C (.agg [x, y, z]) v) : ∃ a b c, v = .agg #[a, b, c] ∧ Rep C x a ∧ Rep C y b ∧ Rep C z c := by
  obtain ⟨vs, rfl, hl, hc, _⟩ := h.agg_parts
  match vs, hl with
  | [a, b, c], _ => exact ⟨a, b, c, rfl, hc 0 x a rfl rfl, hc 1 y b rfl rfl, hc 2 z c rfl rfl⟩
theorem val_of_rep : ∀ (x : E) {C : Ctx} {v : Value}, Rep C (x.v.v) v → v = x.val := by
  intro x
  induction x with
  | non => intro C v h; exact rep_nil h
  | lit n =>
    intro C v h
    replace h : Rep C (.ifc 165 (.agg [.s (.int .i64 n)])) v := h
    obtain ⟨u, rfl, h'⟩ := rep_ifc (by decide) h
    clear h
    obtain ⟨a, rfl, h⟩ := rep_agg1 h'
    rw [rep_scal h]; rfl
  | ref s =>
    intro C v h
    replace h : Rep C (.ifc 378 (.agg [.s (.string s)])) v := h
    obtain ⟨u, rfl, h'⟩ := rep_ifc (by decide) h
    clear h
    obtain ⟨a, rfl, h⟩ := rep_agg1 h'
    rw [rep_scal h]; rfl
  | not x ih =>
    intro C v h
    replace h : Rep C (.ifc 380 (.agg [x.v.v])) v := h
    obtain ⟨u, rfl, h'⟩ := rep_ifc (by decide) h
    clear h
    obtain ⟨a, rfl, h⟩ := rep_agg1 h'
    rw [ih h]; rfl
  | neg x ih =>
    intro C v h
    replace h : Rep C (.ifc 381 (.agg [x.v.v])) v := h
    obtain ⟨u, rfl, h'⟩ := rep_ifc (by decide) h
    clear h
    obtain ⟨a, rfl, h⟩ := rep_agg1 h'
    rw [ih h]; rfl
  | bin op l r ih1 ih2 =>
    intro C v h
    replace h : Rep C (.ifc 383 (.agg [.s (.string op), l.v.v, r.v.v])) v := h
    obtain ⟨u, rfl, h'⟩ := rep_ifc (by decide) h
    obtain ⟨a, b, c, rfl, h1, h2, h3⟩ := rep_agg3 h'
    rw [rep_scal h1, ih1 h2, ih2 h3]; rfl
theorem val_one (x : E) : one x.val := by cases x <;> rfl
theorem agg1_rep {C : Ctx} {x : T} {u : Value} (h : Rep C x u) (h1 : one u) : Rep C (.agg [x]) (.agg #[u]) :=
  Rep.agg (vs := [u]) rfl (fun j y v hy hv => by
    match j with
    | 0 => simp at hy hv; subst hy hv; exact h
    | j + 1 => simp at hy) (fun v hv => by simp at hv; subst hv; exact h1)
theorem rep_of_val : ∀ (x : E) {C : Ctx}, Rep C (x.v.v) x.val := by
  intro x
  induction x with
  | non => intro C; exact .ifn
  | lit n => intro C; show Rep C (.ifc 165 (.agg [.s (.int .i64 n)])) _; exact .ifc (by decide) (agg1_rep (.s rfl) rfl)
  | ref s => intro C; show Rep C (.ifc 378 (.agg [.s (.string s)])) _; exact .ifc (by decide) (agg1_rep (.s rfl) rfl)
  | not x ih => intro C; show Rep C (.ifc 380 (.agg [x.v.v])) _; exact .ifc (by decide) (agg1_rep ih (val_one x))
  | neg x ih => intro C; show Rep C (.ifc 381 (.agg [x.v.v])) _; exact .ifc (by decide) (agg1_rep ih (val_one x))
  | bin op l r ih1 ih2 =>
    intro C
    show Rep C (.ifc 383 (.agg [.s (.string op), l.v.v, r.v.v])) _
    refine .ifc (by decide) (Rep.agg (vs := [.string op, l.val, r.val]) rfl (fun j y v hy hv => ?_) (fun v hv => ?_))
    · match j with
      | 0 => simp at hy hv; subst hy hv; exact .s rfl
      | 1 => simp at hy hv; subst hy hv; exact ih1
      | 2 => simp at hy hv; subst hy hv; exact ih2
      | j + 3 => simp at hy
    · simp at hv
      rcases hv with rfl | rfl | rfl
      · rfl
      · exact val_one l
      · exact val_one r
theorem X_val {w : World} {ok : Nat → Prop} (x : E) : RepX w ok (x.v.v) x.val [] := ⟨rfl, rep_of_val x⟩
/-- What the interpreter tells of a call at one expression: nothing that was there has turned. -/
theorem calls_of_runs {f : FuncId} {x : E} {res : T} (h : Rn f [x.v.v] (res, [.dead])) (w : World) (hG : Glob w (fun k => k < w.heap.size)) :
    Calls Tryz.prog f #[x.val] w fun e w' => Below w.heap.size w w' ∧ ∃ v b ok, e = .returned v ∧ RepX w' ok res v b ∧ ∀ k, ok k → k < w'.heap.size := by
  refine (h.2 w (fun k => k < w.heap.size) [x.val] [] ⟨_, _, [], [], rfl, rfl, X_val x, rfl, rfl⟩ .nil (fun k hk => (List.not_mem_nil hk).elim) (fun k hk => hk) hG).mono ?_
  rintro e w' ⟨v, b1, b2, rfl, _, _, hfr, hr, _⟩
  exact ⟨(hfr.mono (fun i hi => (List.not_mem_nil hi).elim)).below, v, b1, _, rfl, hr, fun k hk => hk.2.1⟩
/-- At an expression, to a result without an address of one's own. -/
theorem runs_val {f : FuncId} {x : E} {res : T} (he : Enters Tryz.prog f)
    (h : ∀ w : World, Glob w (fun k => k < w.heap.size) → Calls Tryz.prog f #[x.val] w (fun e w' => Below w.heap.size w w' ∧ ∃ v, e = .returned v ∧ ∀ ok : Nat → Prop, (∀ k, w.heap.size ≤ k → k < w'.heap.size → ok k) → RepX w' ok res v [])) : Rn f [x.v.v] (res, [.dead]) := by
  refine ⟨he, fun w ok vals b hx hnd hb hok hG => ?_⟩
  obtain ⟨u, us, b1, b2, rfl, rfl, ⟨rfl, hu⟩, rfl, rfl⟩ := hx
  have := val_of_rep x hu
  subst this
  refine (h w (hG.mono fun k hk => ⟨hok k hk, rfl⟩)).mono ?_
  rintro e w' ⟨hbel, v, rfl, hr⟩
  refine ⟨v, [], [], rfl, .nil, by simp, ⟨hbel.os, hbel.tape, hbel.output, hbel.size, fun k hk _ => hbel.block k hk⟩, hr _ (fun k h1 h2 => ⟨.inr (.inr h1), h2, by simp⟩), ⟨_, [], [], [], rfl, rfl, rfl, rfl, rfl⟩⟩
/-- The operands, as values: a slice that can be read. -/
theorem ops_calls (x : E) (w : World) (hG : Glob w (fun k => k < w.heap.size)) :
    Calls Tryz.prog 249 #[x.val] w fun e w' => Below w.heap.size w w' ∧ ∃ (A : Option Addr) (c : Nat), e = .returned (.slice A x.ops.length c) ∧
      (x.ops = [] ∨ ∃ ad : Addr, A = some ad ∧ ad.spot = none ∧ ad.block < w'.heap.size ∧ ∀ (k : Nat) (y : E), x.ops[k]? = some y → w'.cell? ⟨ad.block, ad.off + k, none⟩ = some y.val) := by
  refine (calls_of_runs (r249 x) w hG).mono ?_
  rintro e w' ⟨hb, v, b, ok, rfl, ⟨rfl, hr⟩, hok⟩
  refine ⟨hb, ?_⟩
  obtain ⟨A, c, rfl, hc, hm⟩ := hr.sl_row
  refine ⟨A, c, by simp, ?_⟩
  rcases hm with h | ⟨ad, rfl, hs, hok', us, hra, hsz, hcell⟩
  · left
    simpa using h
  · right
    refine ⟨ad, rfl, hs, hok _ hok', fun k y hy => ?_⟩
    obtain ⟨u, hu, hru⟩ := hra.get (j := k) (x := y.v.v) (by rw [List.getElem?_map, hy]; rfl)
    have := val_of_rep y hru
    subst this
    have := hcell k 0 _ _ hu (show y.val.cells[0]? = some y.val by cases y <;> rfl)
    have e1 : (cctx w' ok).w = w' := rfl
    simpa [e1] using this
end YtfknpnkdedckhaaGreatDoorT
end Go.Proofs

/- expr.Refs: the names are collected in a map by a closure that calls itself. -/
namespace Go.Proofs.YtfknpnkdedckhaaGreatDoorT
open Go Go.Proofs Go.RowKit Go.Maps
set_option linter.unusedVariables false
abbrev DU := DataW Unit
def kyOf (s : ByteArray) : Lit := .string s.data.toList
def Dn (l : List ByteArray) : DU := setOf (.lit (.bool true)) (l.map kyOf)
theorem Dn_snoc (l : List ByteArray) (s : ByteArray) : (Dn l).put (kyOf s) (.lit (.bool true)) = Dn (l ++ [s]) := by
  unfold Dn
  rw [List.map_append, List.map_cons, List.map_nil, setOf_snoc]
abbrev pt (b : Nat) : Value := .pointer (some ⟨b, 0, none⟩)
/-- What is there while the names are collected. -/
structure I65 (w : World) (bn bw mb n : Nat) (l : List ByteArray) : Prop where
  gl : Glob w (fun k => k < w.heap.size)
  hn : w.heap[bn]? = some (.cells #[.map (some mb)] 387 (0, 0))
  hw : w.heap[bw]? = some (.cells #[.func (.func 248) #[] #[pt bn, pt bw]] 300 (0, 0))
  hm : w.ownsMap Tryz.prog 9 (plainElem (H := Unit) Tryz.prog 4) mb n (Dn l)
theorem I65.below {w w' : World} {bn bw mb n : Nat} {l : List ByteArray} (h : I65 w bn bw mb n l) (b : Below w.heap.size w w') : I65 w' bn bw mb n l where
  gl := h.gl.mono fun k hk => ⟨Nat.lt_of_lt_of_le hk b.size, b.block k hk⟩
  hn := (b.block _ (lt_of_block h.hn)).trans h.hn
  hw := (b.block _ (lt_of_block h.hw)).trans h.hw
  hm := by
    have := h.hm.lt
    obtain ⟨es, cl, h1, h2⟩ := h.hm
    exact ⟨es, cl, (b.block _ this).trans h1, h2⟩
theorem ne_map {w : World} {b mb n : Nat} {l : List ByteArray} {cs : Array Value} {t : TypeId} {z : Nat × Nat} (h : w.heap[b]? = some (.cells cs t z)) (hm : w.ownsMap Tryz.prog 9 (plainElem (H := Unit) Tryz.prog 4) mb n (Dn l)) : some b ≠ some mb := by
  intro e
  obtain ⟨es, cl, h1, _⟩ := hm
  rw [← Option.some.inj e, h] at h1
  simp at h1
theorem I65.grown {w w' : World} {bn bw mb n n' : Nat} {l l' : List ByteArray} (h : I65 w bn bw mb n l) (g : w.grownBy w' (some mb)) (hm : w'.ownsMap Tryz.prog 9 (plainElem (H := Unit) Tryz.prog 4) mb n' (Dn l')) : I65 w' bn bw mb n' l' where
  gl := by
    intro e he
    obtain ⟨h1, cs, t, z, h2, h3⟩ := h.gl e he
    exact ⟨Nat.lt_of_lt_of_le h1 g.size, cs, t, z, (g.block _ h1 (ne_map h2 h.hm)).trans h2, h3⟩
  hn := (g.block _ (lt_of_block h.hn) (ne_map h.hn h.hm)).trans h.hn
  hw := (g.block _ (lt_of_block h.hw) (ne_map h.hw h.hm)).trans h.hw
  hm := hm
theorem grown_of_below {w w' : World} {row : Option Nat} (b : Below w.heap.size w w') : w.grownBy w' row := ⟨b.os, b.tape, b.output, b.size, fun k hk _ => b.block k hk⟩
def W65 (x : E) : Prop := ∀ (w : World) (bn bw mb n : Nat) (l : List ByteArray), I65 w bn bw mb n l → n + x.names.length < maxLen →
  Calls Tryz.prog 248 #[x.val, pt bn, pt bw] w fun e w' => e = .returned (.tuple #[]) ∧ I65 w' bn bw mb (n + x.names.length) (l ++ x.names) ∧ w.grownBy w' (some mb)
theorem law9 : Keyed Tryz.prog 9 := string_keyed Tryz.underlying9
theorem taN {t : TypeId} (ht : t ≠ 378) (v : Value) (w : World) : (Instr.typeAssert (.iface t v) 172 378 true).run Tryz.prog w = .ok (.tuple #[.agg #[.string { data := #[] }], .bool false]) w :=
  ((run_assert (P := Tryz.prog) (xt := 172) (v := v) (w := w) (tt := t) Tryz.underlying378 (by simp)).2 _ (Tryz.zeroValue378 w)).1 ht
theorem ta0 (w : World) : (Instr.typeAssert .nilIface 172 378 true).run Tryz.prog w = .ok (.tuple #[.agg #[.string { data := #[] }], .bool false]) w :=
  ((run_assert (P := Tryz.prog) (xt := 172) (v := .nilIface) (w := w) (tt := 0) Tryz.underlying378 (by simp)).2 _ (Tryz.zeroValue378 w)).2
theorem ta96 (v : Value) (w : World) : (Instr.typeAssert (.iface 378 v) 172 378 true).run Tryz.prog w = .ok (.tuple #[v, .bool true]) w :=
  (run_assert (P := Tryz.prog) (xt := 172) (v := v) (w := w) (tt := 378) Tryz.underlying378 (by simp)).1 true rfl
end Go.Proofs.YtfknpnkdedckhaaGreatDoorT

/- expr.Refs' closure: its walks. -/
namespace Go.Proofs.YtfknpnkdedckhaaGreatDoorT
open Go Go.Proofs Go.RowKit Go.Maps
set_option linter.unusedVariables false
theorem cell_kept' {w w' : World} {mb n : Nat} {l : List ByteArray} {a : Addr} {v : Value} (h : w.cell? a = some v) (g : w.grownBy w' (some mb)) (hm : w.ownsMap Tryz.prog 9 (plainElem (H := Unit) Tryz.prog 4) mb n (Dn l)) : w'.cell? a = some v := by
  obtain ⟨es, cl, h1, _⟩ := hm
  exact cell_kept h g fun r hr => ⟨.map es cl, by rw [← Option.some.inj hr]; exact h1, rfl⟩
set_option maxRecDepth 100000 in
set_option maxHeartbeats 4000000 in
theorem w65_not (y : E) (ih : W65 y) : W65 (.not y) := by
  intro w bn bw mb n l hI hn
  have cN := cell_of_one hI.hn
  have cW := cell_of_one hI.hw
  have hta := taN (t := 380) (by decide)
  simp only [E.val]
  go_enter Tryz.func248, Tryz.ntmps248
  go_wp2_with fail
  have b0 : Below w.heap.size w (w.alloc (Obj.cells #[Value.string { data := #[] }] 378)) := (Below.refl _ _).alloc (Nat.le_refl _) _
  have hI0 := hI.below b0
  refine (ops_calls (.not y) _ hI0.gl).mono ?_
  rintro e w1 ⟨hb, A, c, rfl, ho⟩
  have b1 : Below w.heap.size w w1 := b0.trans (hb.mono (by simp))
  have hI1 := hI.below b1
  simp only [E.ops, List.length_cons, List.length_nil, Nat.zero_add] at ho ⊢
  obtain ⟨⟨blk, off, sp⟩, rfl, hsp, hlt, hcell⟩ := ho.resolve_left (by simp)
  simp only at hsp hlt hcell
  subst hsp
  have c0 : w1.cell? ⟨blk, off, none⟩ = some y.val := by simpa using hcell 0 y rfl
  have cN1 := cell_of_one hI1.hn
  have cW1 := cell_of_one hI1.hw
  go_wp2
  refine wp_loop_rounds 2 ?_
  rw [rounds_succ]
  go_wp2_with fail
  simp only [E.names] at hn ⊢
  refine (ih w1 bn bw mb n l hI1 hn).mono ?_
  rintro e w2 ⟨rfl, hI2, g2⟩
  go_wp2
  rw [rounds_succ]
  go_wp2
  go_end0
  exact ⟨rfl, hI2, (grown_of_below b1).trans g2⟩
set_option maxRecDepth 100000 in
set_option maxHeartbeats 4000000 in
theorem w65_neg (y : E) (ih : W65 y) : W65 (.neg y) := by
  intro w bn bw mb n l hI hn
  have cN := cell_of_one hI.hn
  have cW := cell_of_one hI.hw
  have hta := taN (t := 381) (by decide)
  simp only [E.val]
  go_enter Tryz.func248, Tryz.ntmps248
  go_wp2_with fail
  have b0 : Below w.heap.size w (w.alloc (Obj.cells #[Value.string { data := #[] }] 378)) := (Below.refl _ _).alloc (Nat.le_refl _) _
  have hI0 := hI.below b0
  refine (ops_calls (.neg y) _ hI0.gl).mono ?_
  rintro e w1 ⟨hb, A, c, rfl, ho⟩
  have b1 : Below w.heap.size w w1 := b0.trans (hb.mono (by simp))
  have hI1 := hI.below b1
  simp only [E.ops, List.length_cons, List.length_nil, Nat.zero_add] at ho ⊢
  obtain ⟨⟨blk, off, sp⟩, rfl, hsp, hlt, hcell⟩ := ho.resolve_left (by simp)
  simp only at hsp hlt hcell
  subst hsp
  have c0 : w1.cell? ⟨blk, off, none⟩ = some y.val := by simpa using hcell 0 y rfl
  have cN1 := cell_of_one hI1.hn
  have cW1 := cell_of_one hI1.hw
  go_wp2
  refine wp_loop_rounds 2 ?_
  rw [rounds_succ]
  go_wp2_with fail
  simp only [E.names] at hn ⊢
  refine (ih w1 bn bw mb n l hI1 hn).mono ?_
  rintro e w2 ⟨rfl, hI2, g2⟩
  go_wp2
  rw [rounds_succ]
  go_wp2
  go_end0
  exact ⟨rfl, hI2, (grown_of_below b1).trans g2⟩
set_option maxRecDepth 100000 in
set_option maxHeartbeats 4000000 in
theorem w65_bin (op : ByteArray) (y z : E) (ih : W65 y) (ihz : W65 z) : W65 (.bin op y z) := by
  intro w bn bw mb n l hI hn
  have cN := cell_of_one hI.hn
  have cW := cell_of_one hI.hw
  have hta := taN (t := 383) (by decide)
  simp only [E.val]
  go_enter Tryz.func248, Tryz.ntmps248
  go_wp2_with fail
  have b0 : Below w.heap.size w (w.alloc (Obj.cells #[Value.string { data := #[] }] 378)) := (Below.refl _ _).alloc (Nat.le_refl _) _
  have hI0 := hI.below b0
  refine (ops_calls (.bin op y z) _ hI0.gl).mono ?_
  rintro e w1 ⟨hb, A, c, rfl, ho⟩
  have b1 : Below w.heap.size w w1 := b0.trans (hb.mono (by simp))
  have hI1 := hI.below b1
  simp only [E.ops, List.length_cons, List.length_nil, Nat.zero_add] at ho ⊢
  obtain ⟨⟨blk, off, sp⟩, rfl, hsp, hlt, hcell⟩ := ho.resolve_left (by simp)
  simp only at hsp hlt hcell
  subst hsp
  have c0 : w1.cell? ⟨blk, off, none⟩ = some y.val := by simpa using hcell 0 y rfl
  have c1 : w1.cell? ⟨blk, off + 1, none⟩ = some z.val := hcell 1 z rfl
  have cN1 := cell_of_one hI1.hn
  have cW1 := cell_of_one hI1.hw
  go_wp2
  refine wp_loop_rounds 3 ?_
  rw [rounds_succ]
  go_wp2_with fail
  simp only [E.names, List.length_append] at hn ⊢
  refine (ih w1 bn bw mb n l hI1 (by omega)).mono ?_
  rintro e w2 ⟨rfl, hI2, g2⟩
  have c2 := cell_kept' c1 g2 hI1.hm
  have cN2 := cell_of_one hI2.hn
  have cW2 := cell_of_one hI2.hw
  go_wp2
  rw [rounds_succ]
  go_wp2_with fail
  refine (ihz w2 bn bw mb _ _ hI2 (by omega)).mono ?_
  rintro e w3 ⟨rfl, hI3, g3⟩
  go_wp2
  rw [rounds_succ]
  go_wp2
  go_end0
  show _ ∧ I65 w3 bn bw mb (n + (y.names ++ z.names).length) (l ++ (y.names ++ z.names)) ∧ _
  rw [List.length_append, ← List.append_assoc, ← Nat.add_assoc]
  exact ⟨rfl, hI3, ((grown_of_below b1).trans g2).trans g3⟩
set_option maxRecDepth 100000 in
set_option maxHeartbeats 4000000 in
theorem w65_lit (m : Int) : W65 (.lit m) := by
  intro w bn bw mb n l hI hn
  have cN := cell_of_one hI.hn
  have cW := cell_of_one hI.hw
  have hta := taN (t := 165) (by decide)
  simp only [E.val]
  go_enter Tryz.func248, Tryz.ntmps248
  go_wp2_with fail
  have b0 : Below w.heap.size w (w.alloc (Obj.cells #[Value.string { data := #[] }] 378)) := (Below.refl _ _).alloc (Nat.le_refl _) _
  have hI0 := hI.below b0
  refine (ops_calls (.lit m) _ hI0.gl).mono ?_
  rintro e w1 ⟨hb, A, c, rfl, ho⟩
  have b1 : Below w.heap.size w w1 := b0.trans (hb.mono (by simp))
  have hI1 := hI.below b1
  simp only [E.ops, List.length_nil] at ⊢
  go_wp2
  refine wp_loop_rounds 1 ?_
  rw [rounds_succ]
  go_wp2
  go_end0
  exact ⟨rfl, by simpa [E.names] using hI1, grown_of_below b1⟩
set_option maxRecDepth 100000 in
set_option maxHeartbeats 4000000 in
theorem w65_non : W65 .non := by
  intro w bn bw mb n l hI hn
  have cN := cell_of_one hI.hn
  have cW := cell_of_one hI.hw
  have hta := ta0
  simp only [E.val]
  go_enter Tryz.func248, Tryz.ntmps248
  go_wp2_with fail
  have b0 : Below w.heap.size w (w.alloc (Obj.cells #[Value.string { data := #[] }] 378)) := (Below.refl _ _).alloc (Nat.le_refl _) _
  have hI0 := hI.below b0
  refine (ops_calls .non _ hI0.gl).mono ?_
  rintro e w1 ⟨hb, A, c, rfl, ho⟩
  have b1 : Below w.heap.size w w1 := b0.trans (hb.mono (by simp))
  have hI1 := hI.below b1
  simp only [E.ops, List.length_nil] at ⊢
  go_wp2
  refine wp_loop_rounds 1 ?_
  rw [rounds_succ]
  go_wp2
  go_end0
  exact ⟨rfl, by simpa [E.names] using hI1, grown_of_below b1⟩
set_option maxRecDepth 100000 in
set_option maxHeartbeats 4000000 in
theorem w65_ref (s : ByteArray) (hs : s.size ≤ maxLen) : W65 (.ref s) := by
  intro w bn bw mb n l hI hn
  have b0 : Below w.heap.size w (w.alloc (Obj.cells #[Value.string s] 378)) := (Below.refl _ _).alloc (Nat.le_refl _) _
  have hI0 := hI.below b0
  have cN := cell_of_one hI.hn
  have cW := cell_of_one hI.hw
  have cN0 := cell_of_one hI0.hn
  have hta := ta96
  have hkey : keyOf Tryz.prog 9 (.string s) = some (kyOf s) := WideMaps.keyOf_string_mk Tryz.underlying9 hs
  have hn' : n < maxLen := by simp only [E.names, List.length_cons, List.length_nil] at hn; omega
  simp only [E.val]
  go_enter Tryz.func248, Tryz.ntmps248
  go_wp2_with (at_mapUpdate; refine wpList_mapUpdate_own _ rfl _ _ _ 387 rfl 9 4 law9 Tryz.underlying387 (plainElem (H := Unit) Tryz.prog 4) mb n _ rfl hI0.hm hn' _ _ _ rfl rfl hkey _ [] (plainElem_bool Tryz.underlying4 true) ?_)
  intro w1 hm1 g1
  rw [Dn_snoc] at hm1
  have hI1 := hI0.grown g1 hm1
  go_wp2_with fail
  refine (ops_calls (.ref s) _ hI1.gl).mono ?_
  rintro e w2 ⟨hb, A, c, rfl, ho⟩
  have hI2 := hI1.below hb
  simp only [E.ops, List.length_nil] at ⊢
  go_wp2
  refine wp_loop_rounds 1 ?_
  rw [rounds_succ]
  go_wp2
  go_end0
  exact ⟨rfl, by simpa [E.names] using hI2, ((grown_of_below b0).trans g1).trans (grown_of_below hb)⟩
theorem w65 : ∀ x : E, x.wf → W65 x := by
  intro x
  induction x with
  | non => intro _; exact w65_non
  | lit n => intro _; exact w65_lit n
  | ref s => intro h; exact w65_ref s h
  | not x ih => intro h; exact w65_not x (ih h)
  | neg x ih => intro h; exact w65_neg x (ih h)
  | bin op l r ih1 ih2 => intro h; exact w65_bin op l r (ih1 h.1) (ih2 h.2)
end Go.Proofs.YtfknpnkdedckhaaGreatDoorT

/- The layings of slices.Sorted(maps.Keys(m)) at this dump (what the kit's program writes, in plain text); expr.Refs. -/
namespace Go.Proofs
open Go.RowKit Go.Maps Go.Sort Go.Shelf
def YtfknpnkdedckhaaGreatDoorT.keys68_ren : Go.Shelf.Ren := ⟨fun | 7 => 251 | 10 => 330 | n => n, fun | 23 => 387 | 26 => 9 | 3 => 4 | 28 => 393 | 0 => 0 | 27 => 392 | 33 => 235 | 4 => 4 | n => n, fun | n => n⟩
theorem YtfknpnkdedckhaaGreatDoorT.keys68 : Go.Proofs.SlLaysZ.n7 Tryz.prog YtfknpnkdedckhaaGreatDoorT.keys68_ren where
  mixed := by kernel_rfl
  f7 := ⟨"maps.Keys[map[string]bool,string,bool]", by decide, Tryz.func251.trans (congrArg some (by kernel_rfl))⟩
  f10 := ⟨"maps.Keys[map[string]bool,string,bool]$1", by decide, Tryz.func330.trans (congrArg some (by kernel_rfl))⟩
  t0 := Tryz.underlying0
  a0 := Tryz.isAgg0
  z0 := Tryz.sizeOf0
  v0 := Tryz.zeroValue0
  t4 := Tryz.underlying4
  a4 := Tryz.isAgg4
  z4 := Tryz.sizeOf4
  v4 := Tryz.zeroValue4
  t23 := Tryz.underlying387
  a23 := Tryz.isAgg387
  z23 := Tryz.sizeOf387
  v23 := Tryz.zeroValue387
  t26 := Tryz.underlying9
  a26 := Tryz.isAgg9
  z26 := Tryz.sizeOf9
  v26 := Tryz.zeroValue9
  t27 := Tryz.underlying392
  a27 := Tryz.isAgg392
  z27 := Tryz.sizeOf392
  v27 := Tryz.zeroValue392
  t28 := Tryz.underlying393
  a28 := Tryz.isAgg393
  z28 := Tryz.sizeOf393
  v28 := Tryz.zeroValue393
  t33 := Tryz.underlying235
  a33 := Tryz.isAgg235
  z33 := Tryz.sizeOf235
  v33 := Tryz.zeroValue235
def YtfknpnkdedckhaaGreatDoorT.sorted67_ren : Go.Shelf.Ren := ⟨fun | 6 => 250 | 8 => 328 | 9 => 329 | 11 => 373 | 13 => 229 | 12 => 374 | 23 => 311 | 24 => 312 | 14 => 391 | 15 => 392 | 16 => 393 | 17 => 394 | 18 => 395 | 19 => 396 | 20 => 397 | 21 => 398 | 22 => 399 | 25 => 406 | 26 => 366 | 27 => 367 | 28 => 407 | 29 => 408 | 30 => 409 | 31 => 417 | n => n, fun | 26 => 9 | 28 => 393 | 24 => 104 | 0 => 0 | 3 => 3 | 37 => 359 | 48 => 453 | 50 => 408 | 4 => 4 | 40 => 445 | 39 => 444 | 45 => 450 | 5 => 5 | 9 => 9 | 51 => 491 | 55 => 495 | 57 => 512 | 58 => 418 | 33 => 235 | n => n, fun | n => n⟩
theorem YtfknpnkdedckhaaGreatDoorT.sorted67 : Go.Proofs.SlLaysZ.n6 Tryz.prog YtfknpnkdedckhaaGreatDoorT.sorted67_ren where
  mixed := by kernel_rfl
  f6 := ⟨"slices.Sorted[string]", by decide, Tryz.func250.trans (congrArg some (by kernel_rfl))⟩
  f8 := ⟨"slices.Collect[string]", by decide, Tryz.func328.trans (congrArg some (by kernel_rfl))⟩
  f11 := ⟨"slices.AppendSeq[[]string,string]", by decide, Tryz.func373.trans (congrArg some (by kernel_rfl))⟩
  t0 := Tryz.underlying0
  a0 := Tryz.isAgg0
  z0 := Tryz.sizeOf0
  v0 := Tryz.zeroValue0
  t24 := Tryz.underlying104
  a24 := Tryz.isAgg104
  z24 := Tryz.sizeOf104
  v24 := Tryz.zeroValue104
  t26 := Tryz.underlying9
  a26 := Tryz.isAgg9
  z26 := Tryz.sizeOf9
  v26 := Tryz.zeroValue9
  t28 := Tryz.underlying393
  a28 := Tryz.isAgg393
  z28 := Tryz.sizeOf393
  v28 := Tryz.zeroValue393
  i26 := by kernel_rfl
def YtfknpnkdedckhaaGreatDoorT.sort96_ren : Go.Shelf.Ren := ⟨fun | 6 => 329 | 8 => 229 | 9 => 374 | 19 => 311 | 20 => 312 | 21 => 391 | 22 => 392 | 23 => 393 | 24 => 394 | 25 => 395 | 26 => 396 | 27 => 397 | 28 => 398 | 29 => 399 | 36 => 406 | 31 => 366 | 32 => 367 | 37 => 407 | 38 => 408 | 39 => 409 | 41 => 417 | n => n, fun | 27 => 104 | 29 => 9 | 3 => 3 | 32 => 359 | 26 => 104 | 0 => 0 | 44 => 453 | 46 => 408 | 4 => 4 | 36 => 445 | 35 => 444 | 41 => 450 | 5 => 5 | 9 => 9 | 53 => 491 | 57 => 495 | 63 => 512 | 64 => 418 | n => n, fun | n => n⟩
theorem YtfknpnkdedckhaaGreatDoorT.sort96 : Go.Proofs.SlLaysM.n6 Tryz.prog YtfknpnkdedckhaaGreatDoorT.sort96_ren where
  mixed := by kernel_rfl
  f6 := ⟨"slices.Sort[[]string,string]", by decide, Tryz.func329.trans (congrArg some (by kernel_rfl))⟩
  f8 := Tryz.func229.trans (congrArg some (by kernel_rfl))
  f9 := ⟨"slices.pdqsortOrdered[string]", by decide, Tryz.func374.trans (congrArg some (by kernel_rfl))⟩
  f19 := Tryz.func311.trans (congrArg some (by kernel_rfl))
  f20 := Tryz.func312.trans (congrArg some (by kernel_rfl))
  f21 := ⟨"slices.insertionSortOrdered[string]", by decide, Tryz.func391.trans (congrArg some (by kernel_rfl))⟩
  f22 := ⟨"slices.heapSortOrdered[string]", by decide, Tryz.func392.trans (congrArg some (by kernel_rfl))⟩
  f23 := ⟨"slices.breakPatternsOrdered[string]", by decide, Tryz.func393.trans (congrArg some (by kernel_rfl))⟩
  f24 := ⟨"slices.choosePivotOrdered[string]", by decide, Tryz.func394.trans (congrArg some (by kernel_rfl))⟩
  f25 := ⟨"slices.reverseRangeOrdered[string]", by decide, Tryz.func395.trans (congrArg some (by kernel_rfl))⟩
  f26 := ⟨"slices.partialInsertionSortOrdered[string]", by decide, Tryz.func396.trans (congrArg some (by kernel_rfl))⟩
  f27 := ⟨"cmp.Less[string]", by decide, Tryz.func397.trans (congrArg some (by kernel_rfl))⟩
  f28 := ⟨"slices.partitionEqualOrdered[string]", by decide, Tryz.func398.trans (congrArg some (by kernel_rfl))⟩
  f29 := ⟨"slices.partitionOrdered[string]", by decide, Tryz.func399.trans (congrArg some (by kernel_rfl))⟩
  f31 := Tryz.func366.trans (congrArg some (by kernel_rfl))
  f32 := Tryz.func367.trans (congrArg some (by kernel_rfl))
  f36 := ⟨"slices.siftDownOrdered[string]", by decide, Tryz.func406.trans (congrArg some (by kernel_rfl))⟩
  f37 := ⟨"slices.medianAdjacentOrdered[string]", by decide, Tryz.func407.trans (congrArg some (by kernel_rfl))⟩
  f38 := ⟨"slices.medianOrdered[string]", by decide, Tryz.func408.trans (congrArg some (by kernel_rfl))⟩
  f39 := ⟨"cmp.isNaN[string]", by decide, Tryz.func409.trans (congrArg some (by kernel_rfl))⟩
  f41 := ⟨"slices.order2Ordered[string]", by decide, Tryz.func417.trans (congrArg some (by kernel_rfl))⟩
  t0 := Tryz.underlying0
  a0 := Tryz.isAgg0
  z0 := Tryz.sizeOf0
  v0 := Tryz.zeroValue0
  t3 := Tryz.underlying3
  a3 := Tryz.isAgg3
  z3 := Tryz.sizeOf3
  v3 := Tryz.zeroValue3
  t4 := Tryz.underlying4
  a4 := Tryz.isAgg4
  z4 := Tryz.sizeOf4
  v4 := Tryz.zeroValue4
  t5 := Tryz.underlying5
  a5 := Tryz.isAgg5
  z5 := Tryz.sizeOf5
  v5 := Tryz.zeroValue5
  t9 := Tryz.underlying9
  a9 := Tryz.isAgg9
  z9 := Tryz.sizeOf9
  v9 := Tryz.zeroValue9
  t26 := Tryz.underlying104
  a26 := Tryz.isAgg104
  z26 := Tryz.sizeOf104
  v26 := Tryz.zeroValue104
  t27 := Tryz.underlying104
  a27 := Tryz.isAgg104
  z27 := Tryz.sizeOf104
  v27 := Tryz.zeroValue104
  t29 := Tryz.underlying9
  a29 := Tryz.isAgg9
  z29 := Tryz.sizeOf9
  v29 := Tryz.zeroValue9
  t32 := Tryz.underlying359
  a32 := Tryz.isAgg359
  z32 := Tryz.sizeOf359
  v32 := Tryz.zeroValue359
  t35 := Tryz.underlying444
  a35 := Tryz.isAgg444
  z35 := Tryz.sizeOf444
  v35 := Tryz.zeroValue444
  t36 := Tryz.underlying445
  a36 := Tryz.isAgg445
  z36 := Tryz.sizeOf445
  v36 := Tryz.zeroValue445
  t41 := Tryz.underlying450
  a41 := Tryz.isAgg450
  z41 := Tryz.sizeOf450
  v41 := Tryz.zeroValue450
  t44 := Tryz.underlying453
  a44 := Tryz.isAgg453
  z44 := Tryz.sizeOf453
  v44 := Tryz.zeroValue453
  t46 := Tryz.underlying408
  a46 := Tryz.isAgg408
  z46 := Tryz.sizeOf408
  v46 := Tryz.zeroValue408
  t53 := Tryz.underlying491
  a53 := Tryz.isAgg491
  z53 := Tryz.sizeOf491
  v53 := Tryz.zeroValue491
  t57 := Tryz.underlying495
  a57 := Tryz.isAgg495
  z57 := Tryz.sizeOf495
  v57 := Tryz.zeroValue495
  t63 := Tryz.underlying512
  a63 := Tryz.isAgg512
  z63 := Tryz.sizeOf512
  v63 := Tryz.zeroValue512
  t64 := Tryz.underlying418
  a64 := Tryz.isAgg418
  z64 := Tryz.sizeOf418
  v64 := Tryz.zeroValue418
theorem YtfknpnkdedckhaaGreatDoorT.sorts67 (m : Nat) : AnyZ.SortsIn Tryz.prog YtfknpnkdedckhaaGreatDoorT.sorted67_ren Fence.wide m :=
  ⟨fun blk off cap ss W hH hblk hsz => callsIn_wide.2 (AnyM.slices_Sort_string YtfknpnkdedckhaaGreatDoorT.sort96 blk off cap ss W hH hblk hsz),
   fun p cap W => callsIn_wide.2 (AnyM.slices_Sort_string_none YtfknpnkdedckhaaGreatDoorT.sort96 p cap W)⟩

theorem YtfknpnkdedckhaaGreatDoorT.maps_Keys_68 (mb : Option Nat) (W : World) : CallsIn Fence.wide 5 Tryz.prog 251 #[.map mb] W fun e w' => e = .returned (.func (.func 330) #[] #[.pointer (some ⟨W.heap.size, 0, none⟩)]) ∧ w' = W.alloc (.cells #[.map mb] 387) :=
  AnyZ.keys_in YtfknpnkdedckhaaGreatDoorT.keys68 Fence.wide 5 trivial rfl mb W

set_option maxHeartbeats 1000000 in
theorem YtfknpnkdedckhaaGreatDoorT.slices_Sorted_keys_67_68 {H : Type} (b nn : Nat) (D0 : DataW H) (R : Value → Option (DataW H × List MemPlace)) (w : World) (hown : w.ownsMap Tryz.prog 9 R b nn D0) (hmax : Maps.size D0 ≤ maxLen) (hbytes : Maps.size D0 * 16 ≤ 140737488355328) :
    CallsIn Fence.wide 5 Tryz.prog 250 #[.func (.func 330) #[] #[.pointer (some ⟨w.heap.size, 0, none⟩)]] (w.alloc (.cells #[.map (some b)] 387)) fun e w' => ∃ (v : Value) (ss : List (List UInt8)), e = .returned v ∧ ss.Perm (strKeys D0) ∧
      w'.ownsRow (w.alloc (.cells #[.map (some b)] 387)).heap.size 9 1 v ss.length ((ss.mergeSort (fun x y => decide (x ≤ y))).map encStr) ∧ (v = .slice none 0 0 ↔ ss = []) ∧ Below (w.alloc (.cells #[.map (some b)] 387)).heap.size (w.alloc (.cells #[.map (some b)] 387)) w' := by
  have hbl := hown.lt
  have hseq : SeqGives Fence.wide 2 Tryz.prog 330 #[.pointer (some ⟨w.heap.size, 0, none⟩)] encStr (fun ss => ss.Perm (strKeys D0)) (Maps.size D0) (w.alloc (.cells #[.map (some b)] 387)) :=
    AnyZ.keys_gives (ρ := YtfknpnkdedckhaaGreatDoorT.keys68_ren) { YtfknpnkdedckhaaGreatDoorT.keys68 with } Fence.wide _ trivial rfl (by omega) w.heap.size b nn D0 _ (by simp) (by simp) (by
      obtain ⟨es, clock, hb, Ft, hs, hD⟩ := hown
      exact ⟨es, clock, (Below.heap_alloc _ _ b hbl).trans hb, Ft, hs, hD⟩)
  exact AnyZ.sorted_in YtfknpnkdedckhaaGreatDoorT.sorted67 Fence.wide 5 trivial trivial trivial trivial rfl (by omega) (YtfknpnkdedckhaaGreatDoorT.sorts67 _) (enters_of Tryz.func329 (by kernel_rfl) rfl) 330 #[.pointer (some ⟨w.heap.size, 0, none⟩)] trivial (enters_of Tryz.func330 (by kernel_rfl) rfl) _ _ hmax hbytes _ hseq

end Go.Proofs

/- expr.Refs: the whole. -/
namespace Go.Proofs.YtfknpnkdedckhaaGreatDoorT
open Go Go.Proofs Go.RowKit Go.Maps Go.Sort
set_option linter.unusedVariables false
theorem names_le (x : E) : x.names.length ≤ x.nodes := by
  induction x with
  | bin op l r ih1 ih2 => simp only [E.names, E.nodes, List.length_append]; omega
  | not x ih => simp only [E.names, E.nodes]; omega
  | neg x ih => simp only [E.names, E.nodes]; omega
  | _ => simp [E.names, E.nodes]
set_option maxRecDepth 100000 in
set_option maxHeartbeats 4000000 in
theorem refs45 (x : E) (hw : x.wf) (hk : x.ok = true) (w : World) (hG : Glob w (fun k => k < w.heap.size)) :
    Calls Tryz.prog 167 #[x.val] w fun e w' => Below w.heap.size w w' ∧ ∃ (v : Value) (ss : List (List UInt8)), e = .returned v ∧ ss.Perm (strKeys (Dn x.names)) ∧
      w'.ownsRow w.heap.size 9 1 v ss.length ((ss.mergeSort (fun x y => decide (x ≤ y))).map encStr) := by
  have h43 := calls_of_runs (r165 x hw) w hG
  rw [hk] at h43
  replace h43 : Calls Tryz.prog 165 #[x.val] w fun e w' => e = .returned (.bool true) ∧ RowKit.Below w.heap.size w w' :=
    h43.mono fun e w' h => by
      obtain ⟨b1, v, bb, ok, rfl, ⟨rfl, hr⟩, hok⟩ := h
      rw [rep_scal hr]
      exact ⟨rfl, b1⟩
  have hmm := @run_makeMap Tryz.prog
  have hsf : ∀ (a : Addr) (f : Fn) (c1 c2 : Array Value) (w : World) (m : Mode), (store a (.func f c1 c2) m).run Tryz.prog w = stored Tryz.prog w a (.func f c1 c2) m := fun a f c1 c2 w m => run_store _ _ _ _ m rfl
  refine (callsIn_wide (n := 6)).1 ?_
  have hfK : Fence.wide.fn 251 := trivial
  have hfS : Fence.wide.fn 250 := trivial
  have hfF : Fence.wide.fn 165 := trivial
  have hfW : Fence.wide.fn 248 := trivial
  refine callsIn_of_wp Tryz.func167 rfl trivial ?_ rfl
  simp only [Tryz.ntmps167, List.size_toArray, List.length_cons, List.length_nil, Nat.reduceAdd, Nat.reduceSub, Array.replicate_succ, Array.replicate_zero, List.push_toArray, List.append_toArray, List.nil_append, List.cons_append]
  gi_wp2_with (first
    | (gi_at_call 165; refine ((callsIn_wide (n := 5)).2 h43).mono ?_; rintro e w1 ⟨rfl, b1⟩))
  have bW : RowKit.Below w.heap.size w (((w1.alloc (Obj.map #[] 0)).alloc (Obj.cells #[Value.map (some w1.heap.size)] 387)).alloc (Obj.cells #[Value.func (Fn.func 248) #[] #[pt (w1.heap.size + 1), pt (w1.heap.size + 1 + 1)]] 300)) :=
    ((b1.alloc b1.size _).alloc (by have := b1.size; simp; omega) _).alloc (by have := b1.size; simp; omega) _
  have hI : I65 (((w1.alloc (Obj.map #[] 0)).alloc (Obj.cells #[Value.map (some w1.heap.size)] 387)).alloc (Obj.cells #[Value.func (Fn.func 248) #[] #[pt (w1.heap.size + 1), pt (w1.heap.size + 1 + 1)]] 300)) (w1.heap.size + 1) (w1.heap.size + 1 + 1) w1.heap.size 0 [] := by
    refine ⟨hG.mono fun k hk => ⟨Nat.lt_of_lt_of_le hk bW.size, bW.block k hk⟩, ?_, ?_, ((World.ownsMap_made _ _ _ _).alloc _).alloc _⟩
    · refine (Below.heap_alloc _ _ _ (by simp)).trans ?_
      have := heap_alloc_new (w1.alloc (Obj.map #[] 0)) (Obj.cells #[Value.map (some w1.heap.size)] 387)
      simpa using this
    · have := heap_alloc_new ((w1.alloc (Obj.map #[] 0)).alloc (Obj.cells #[Value.map (some w1.heap.size)] 387)) (Obj.cells #[Value.func (Fn.func 248) #[] #[pt (w1.heap.size + 1), pt (w1.heap.size + 1 + 1)]] 300)
      simpa using this
  have hnm := names_le x
  have hno := (ok_parts hk).1
  refine ((callsIn_wide (n := 5)).2 (w65 x hw _ _ _ _ _ _ hI (by unfold maxLen; omega))).mono ?_
  rintro e w2 ⟨rfl, hI2, g2⟩
  have cN2 := cell_of_one hI2.hn
  have hown := hI2.hm
  have hsz := hown.size_le
  gi_wp2_with (first
    | (gi_at_call 251; refine (maps_Keys_68 _ _).mono ?_; rintro e w' ⟨rfl, rfl⟩)
    | (gi_at_call 250; refine (slices_Sorted_keys_67_68 w1.heap.size _ _ _ w2 hown (by unfold maxLen; omega) (by omega)).mono ?_; rintro e w' ⟨v, ss, rfl, hS, hrow, hnil, hb⟩))
  go_ret
  have hb2 : RowKit.Below w.heap.size w w2 := bW.grown g2 bW.size (fun k hk => by cases hk; exact b1.size)
  refine ⟨(hb2.alloc hb2.size _).trans (hb.mono (by have := hb2.size; simp; omega)), v, ss, rfl, by simpa using hS, ownsRow_base_a hrow (by have := hb2.size; simp; omega)⟩
/-- The names, sorted. -/
def srt (x : E) : List ByteArray := ((strKeys (Dn x.names)).mergeSort fun a b => decide (a ≤ b)).map fun b => ⟨b.toArray⟩
theorem mem_ins {x p : Lit × DU} : ∀ l : List (Lit × DU), p ∈ DataW.insert x l → p = x ∨ p ∈ l
  | [], h => by simpa [DataW.insert] using h
  | y :: r, h => by
    unfold DataW.insert at h
    split at h
    · simpa using h
    · rcases List.mem_cons.1 h with h | h
      · exact .inr (by rw [h]; simp)
      · rcases mem_ins r h with h | h
        · exact .inl h
        · exact .inr (List.mem_cons_of_mem _ h)
theorem keys_put : ∀ (l : List Lit) (D : DU), ((∃ es, D = .map es ∧ ∀ p ∈ es, p.1 ∈ l)) → ∀ (xs : List Lit), ∃ es, xs.foldl (fun m x => m.put x (.lit (.bool true))) D = .map es ∧ ∀ p ∈ es, p.1 ∈ l ++ xs := by
  intro l D h xs
  induction xs generalizing l D with
  | nil => simpa using h
  | cons x xs ih =>
    obtain ⟨es, rfl, hp⟩ := h
    have := ih (l ++ [x]) ((DataW.map es).put x (.lit (.bool true))) ⟨_, rfl, fun p hp' => by
      rcases mem_ins _ hp' with rfl | h
      · simp
      · exact List.mem_append_left _ (hp _ (List.mem_filter.1 h).1)⟩
    simpa using this
theorem isKey_ky (l : List ByteArray) : ∀ x ∈ l.map kyOf, WideAt.IsKeyLit x := by
  intro x hx
  obtain ⟨s, _, rfl⟩ := List.mem_map.1 hx
  exact trivial
theorem mem_keys (l : List ByteArray) (b : List UInt8) : b ∈ strKeys (Dn l) ↔ (⟨b.toArray⟩ : ByteArray) ∈ l := by
  obtain ⟨es, he, hp⟩ := keys_put [] (.map []) ⟨[], rfl, fun p h => by simp at h⟩ (l.map kyOf)
  have hd : Dn l = .map es := he
  have hh := has_setOf (H := Unit) (.lit (.bool true)) (.string b) (l.map kyOf) (isKey_ky l)
  change has (Dn l) _ = _ at hh
  rw [hd] at hh ⊢
  rw [has_eq] at hh
  show b ∈ es.map (fun p => strOf p.1) ↔ _
  constructor
  · intro h
    obtain ⟨p, hpm, rfl⟩ := List.mem_map.1 h
    obtain ⟨s, hs, e⟩ := List.mem_map.1 (by simpa using hp p hpm)
    rw [← e]
    simpa [strOf, kyOf] using hs
  · intro h
    have : (es.any fun p => p.1.sameKey (.string b)) = true := by
      rw [hh, List.any_map, List.any_eq_true]
      exact ⟨_, h, by simp [kyOf, Lit.sameKey]⟩
    obtain ⟨p, hpm, hk⟩ := List.any_eq_true.1 this
    exact List.mem_map.2 ⟨p, hpm, by rw [WideAt.sameKey_eq hk]; rfl⟩
theorem mem_srt (x : E) (t : ByteArray) : t ∈ srt x ↔ t ∈ x.names := by
  have e : ∀ b : List UInt8, (⟨b.toArray⟩ : ByteArray) = t ↔ b = t.data.toList := fun b => by
    constructor
    · rintro rfl; rfl
    · rintro rfl; simp
  simp only [srt, List.mem_map, List.mem_mergeSort, e, exists_eq_right, mem_keys]
theorem addKey_len (xs L : List Lit) : (xs.foldl addKey L).length ≤ L.length + xs.length := by
  induction xs generalizing L with
  | nil => simp
  | cons x xs ih =>
    have h := ih (addKey L x)
    have : (addKey L x).length ≤ L.length + 1 := by unfold addKey; split <;> simp
    simp only [List.foldl_cons, List.length_cons]
    omega
theorem len_srt (x : E) : (srt x).length ≤ x.names.length := by
  have h1 : (srt x).length = (strKeys (Dn x.names)).length := by simp [srt]
  have h2 : (strKeys (Dn x.names)).length = size (Dn x.names) := by
    obtain ⟨es, he, hp⟩ := keys_put [] (.map []) ⟨[], rfl, fun p h => by simp at h⟩ (x.names.map kyOf)
    have hd : Dn x.names = .map es := he
    rw [hd]
    simp [strKeys, size]
  have h3 : size (Dn x.names) = _ := size_setOf (H := Unit) (.lit (.bool true)) (x.names.map kyOf) (isKey_ky _)
  have h4 := addKey_len (x.names.map kyOf) []
  simp only [List.length_map, List.length_nil, Nat.zero_add] at h4
  omega
theorem rep_row {w : World} {ok : Nat → Prop} {base : Nat} {v : Value} {l : List (List UInt8)} (h : w.ownsRow base 9 1 v l.length (l.map encStr)) (hok : ∀ k, base ≤ k → k < w.heap.size → ok k) :
    RepX w ok (.sl 1 ((l.map fun b => (⟨b.toArray⟩ : ByteArray)).map st)) v [] := by
  refine ⟨rfl, ?_⟩
  have hlen : ((l.map fun b => (⟨b.toArray⟩ : ByteArray)).map st).length = (l.map encStr).length := by simp
  have key : ∀ (A : Option Addr) (c : Nat), l.length ≤ c → (l = [] ∨ ∃ ad : Addr, A = some ad ∧ ad.spot = none ∧ ok ad.block ∧ ∀ (j i : Nat) (u cv : Value), (l.map encStr)[j]? = some u → u.cells[i]? = some cv → w.cell? ⟨ad.block, ad.off + (j * 1 + i), none⟩ = some cv) →
      Rep (cctx w ok) (.sl 1 ((l.map fun b => (⟨b.toArray⟩ : ByteArray)).map st)) (.slice A l.length c) := by
    intro A c hc hm
    have := Rep.sl (C := cctx w ok) (sz := 1) (xs := (l.map fun b => (⟨b.toArray⟩ : ByteArray)).map st) (us := l.map encStr) (A := A) (c := c) hlen (by simpa using hc) (fun j x u hx hu => by
      simp only [List.getElem?_map] at hx hu
      cases h0 : l[j]? with
      | none => rw [h0] at hx; simp at hx
      | some b =>
        rw [h0] at hx hu
        simp only [Option.map_some, Option.some.injEq] at hx hu
        subst hx hu
        exact .s rfl) (fun u hu => by
      obtain ⟨b, _, rfl⟩ := List.mem_map.1 hu
      rfl) (by
      rcases hm with rfl | hm
      · left; rfl
      · right; exact hm)
    simpa using this
  obtain ⟨_, ⟨rfl, h0⟩ | ⟨g, cap, cur, rfl, hg, hh, hnc, _, hcs, htk⟩⟩ := h
  · have := key none 0 (by omega) (.inl (List.length_eq_zero_iff.1 h0))
    rwa [h0] at this
  · refine key _ cap hnc (.inr ⟨⟨g, 0, none⟩, rfl, rfl, hok g hg (lt_of_block hh), fun j i u cv hu hc => ?_⟩)
    have hi : i = 0 ∧ u = cv := by
      obtain ⟨b, _, rfl⟩ := List.mem_map.1 (List.mem_of_getElem? hu)
      cases i with
      | zero => exact ⟨rfl, by simpa [encStr, Value.cells] using hc⟩
      | succ i => simp [encStr, Value.cells] at hc
    obtain ⟨rfl, rfl⟩ := hi
    have : cur[j]? = some u := by
      rw [← htk, List.getElem?_take] at hu
      split at hu
      · simpa using hu
      · simp at hu
    simp [World.cell?, hh, this]
theorem refsSaid : RefsSaid := by
  intro x hw hk
  refine ⟨srt x, runs_val ⟨_, Tryz.func167, by decide, rfl⟩ (fun w hG => (refs45 x hw hk w hG).mono ?_), mem_srt x, ?_⟩
  · rintro e w' ⟨b, v, ss, rfl, hp, hrow⟩
    refine ⟨b, v, rfl, fun ok hok => ?_⟩
    have e : (strKeys (Dn x.names)).mergeSort (fun a b => decide (a ≤ b)) = ss.mergeSort (fun a b => decide (a ≤ b)) := (mergeSort_of_perm hp).symm
    rw [srt, e]
    refine rep_row (base := w.heap.size) ?_ hok
    rw [List.length_mergeSort]
    exact hrow
  · have h1 := len_srt x
    have h2 := names_le x
    have h3 := (ok_parts hk).1
    omega
end Go.Proofs.YtfknpnkdedckhaaGreatDoorT

/- Which expressions can be read, by both. (Not built yet.) -/
namespace Go.Proofs.YtfknpnkdedckhaaGreatDoorT
open Go Go.Proofs
set_option linter.unusedVariables false
theorem r203 (s : ByteArray) : Rn 203 [st s] (tb (resv s), [.dead]) := by
  refine f203 _ _ ?_
  repeat' refine cd (fun h => ?_) (fun h => ?_)
  all_goals exact tbR (by simp_all [resv, RS])
end Go.Proofs.YtfknpnkdedckhaaGreatDoorT
namespace Go.Proofs.YtfknpnkdedckhaaGreatDoorT
open Go Go.Proofs
/-- No name in it is reserved. -/
def E.plain (x : E) : Bool := !(x.names.any resv)
theorem r286 : ∀ x : E, Rn 286 [x.d.t] (tb x.plain, [.dead]) := by
  refine E.rec_ops fun x IH => ?_
  have loop : ∀ (d k : Nat), k + d = x.ops.length → L286_0 (((List.length x.d.fParts) : Nat) : Int) (k : Int) x.d (tb ((x.ops.drop k).all E.plain), [.dead]) := by
    intro d
    induction d with
    | zero =>
      intro k hk
      rw [List.drop_of_length_le (by omega)]
      exact l286_0 _ _ _ _ (cF (by rw [d_parts]; simp; omega) rfl)
    | succ d ih =>
      intro k hk
      have hlt : k < x.ops.length := by omega
      rw [List.drop_eq_getElem_cons hlt, List.all_cons]
      have h := IH _ (List.getElem_mem hlt)
      refine l286_0 _ _ _ _ (cT (by rw [d_parts]; simp; omega) ⟨(x.ops[k]).d, ⟨by omega, by rw [d_parts]; exact getd hlt⟩, _, h, ?_⟩)
      cases hp : (x.ops[k]).plain with
      | false => exact cT rfl rfl
      | true =>
        refine cF rfl ?_
        rw [wS (by have := ops_len x; omega), Bool.true_and]
        exact ih (k + 1) (by omega)
  have h0 := loop x.ops.length 0 (by omega)
  rw [List.drop_zero] at h0
  cases x with
  | ref s =>
    refine f286 _ _ (cT rfl ⟨_, r203 s, ?_⟩)
    have e : (E.ref s).plain = !(resv s) := by simp [E.plain, E.names]
    rw [e]
    cases hs : resv s with
    | true => exact cT rfl rfl
    | false => exact cF rfl h0
  | bin op l r =>
    have e : (E.bin op l r).plain = ([l, r].all E.plain) := by simp [E.plain, E.names, Bool.not_or]
    rw [e]; exact f286 _ _ (cF rfl h0)
  | non => exact f286 _ _ (cF rfl h0)
  | lit n => exact f286 _ _ (cF rfl h0)
  | not x =>
    have e : (E.not x).plain = ([x].all E.plain) := by simp [E.plain, E.names]
    rw [e]; exact f286 _ _ (cF rfl h0)
  | neg x =>
    have e : (E.neg x).plain = ([x].all E.plain) := by simp [E.plain, E.names]
    rw [e]; exact f286 _ _ (cF rfl h0)
end Go.Proofs.YtfknpnkdedckhaaGreatDoorT

/- Which expressions can be read, by the program. (Wants P printed by the changed guard.cfg; its theorems were built over X12 alone, not yet in this place.) -/
namespace Go.Proofs.YtfknpnkdedckhaaGreatDoorT
open Go Go.Proofs
set_option linter.unusedVariables false
theorem r166 (L : List ByteArray) (hL : L.length ≤ 1000) : Rn 166 [.sl 1 (L.map st), .s (.func (.func 195) #[] #[])] (tb (L.any resv), [.dead, .dead]) := by
  have loop : ∀ (d k : Nat), k + d = L.length → ∃ n : Int, L247b_0 (L.map st) (((L.map st).length : Nat) : Int) (k : Int) (i64 n, [.dead, .dead]) ∧ decide (0 ≤ n) = (L.drop k).any resv := by
    intro d
    induction d with
    | zero => intro k hk; exact ⟨-1, l247b_0 _ _ _ _ (cF (by simp; omega) rfl), by rw [List.drop_of_length_le (by omega)]; simp⟩
    | succ d ih =>
      intro k hk
      have hlt : k < L.length := by omega
      rw [List.drop_eq_getElem_cons hlt, List.any_cons]
      have h := r195 L[k]
      cases hb : resv L[k] with
      | true => rw [hb] at h; exact ⟨(k : Int), l247b_0 _ _ _ _ (cT (by simp; omega) ⟨L[k], ⟨by omega, getm hlt⟩, _, h, cT rfl rfl⟩), by simp⟩
      | false =>
        rw [hb] at h
        obtain ⟨n, h1, h2⟩ := ih (k + 1) (by omega)
        refine ⟨n, l247b_0 _ _ _ _ (cT (by simp; omega) ⟨L[k], ⟨by omega, getm hlt⟩, _, h, cF rfl ?_⟩), by rw [Bool.false_or]; exact h2⟩
        rw [wS (by omega)]
        exact h1
  obtain ⟨n, h1, h2⟩ := loop L.length 0 (by omega)
  rw [List.drop_zero] at h2
  exact f166b _ _ ⟨n, f247b _ _ h1, by rw [h2]⟩
theorem r341 (x : E) (hw : x.wf) : Rn 341 [x.v.v] (tb (x.ok && x.plain), [.dead]) := by
  refine f341 _ _ ⟨_, r165 x hw, ?_⟩
  cases hk : x.ok with
  | false => exact rfl
  | true =>
    obtain ⟨L, h30, hm, hl⟩ := refsSaid x hw hk
    refine ⟨_, h30, _, r166 L hl, tbR ?_⟩
    rw [E.plain, Bool.true_and]
    congr 1
    refine Bool.eq_iff_iff.2 ?_
    simp only [List.any_eq_true]
    constructor
    · rintro ⟨s, h1, h2⟩; exact ⟨s, (hm s).2 h1, h2⟩
    · rintro ⟨s, h1, h2⟩; exact ⟨s, (hm s).1 h1, h2⟩
end Go.Proofs.YtfknpnkdedckhaaGreatDoorT

/- The program's Print and Parse; GuardBack, GuardAgain. -/
namespace Go.Proofs.YtfknpnkdedckhaaGreatDoorT
open Go Go.Proofs
set_option linter.unusedVariables false
/-- What guard.Print answers. -/
def prt (x : E) : ByteArray × Int := if x.ok && x.plain then (x.txt, 0) else (bs [], 1)
theorem r269 (x : E) (hw : x.wf) : Rn 269 [x.v.v] (.tup [st (prt x).1, i64 (prt x).2], [.dead]) := by
  refine f269 _ _ ⟨_, r341 x hw, ?_⟩
  unfold prt
  cases h : (x.ok && x.plain) with
  | false => exact rfl
  | true =>
    have hp := ok_parts (Bool.and_eq_true_iff.1 h).1
    exact ⟨_, r342 x hp.2 hp.1, rfl⟩
end Go.Proofs.YtfknpnkdedckhaaGreatDoorT

/- The document's names. -/
namespace Go.Proofs.YtfknpnkdedckhaaGreatDoorT
open Go Go.Proofs
set_option linter.unusedVariables false
/-- The rune that a text begins with, as the document has it: -1, if it is none. -/
def nxt (s : ByteArray) : Int := if (Lib.decodeGo s).1 = 65533 ∧ (Lib.decodeGo s).2 ≤ 1 then -1 else ((Lib.decodeGo s).1 : Int)
theorem r191 (s : ByteArray) : Rn 191 [st s] (.tup [i32 (nxt s), i64 (Lib.decodeGo s).2], [.dead]) := by
  refine f191 _ _ ⟨_, _, runs272 s, cd (fun h => cd (fun h' => ?_) (fun h' => ?_)) (fun h => ?_)⟩
  · rw [nxt, if_pos (by omega)]
  · rw [nxt, if_neg (by omega)]
  · rw [nxt, if_neg (by omega)]
theorem ins_nxt (s : ByteArray) : ins (nxt s) = ins (Lib.decodeGo s).1 := by
  unfold nxt
  split
  · rename_i h
    rw [h.1]; rfl
  · rfl
theorem ltr_nxt (s : ByteArray) : ltr (nxt s) = ltr (Lib.decodeGo s).1 := by
  unfold nxt
  split
  · rename_i h
    rw [h.1]; rfl
  · rfl
theorem dig_nxt (s : ByteArray) : dig (nxt s) = dig (Lib.decodeGo s).1 := by
  unfold nxt
  split
  · rename_i h
    rw [h.1]; rfl
  · rfl
/-- The document's run. -/
theorem r273 (t : ByteArray) (hs : t.size ≤ maxLen) : Rn 273 [st t] (.tup [i64 (run t t.size 0 0).1, i64 (run t t.size 0 0).2], [.dead]) := by
  have hm := Nat.le_trans hs maxLen_lt
  have loop : ∀ (f n k : Nat), t.size ≤ n + f → n ≤ t.size → k ≤ n → L273_0 t (n : Int) (k : Int) (.tup [i64 (run t f n k).1, i64 (run t f n k).2], [.dead]) := by
    intro f
    induction f with
    | zero => intro n k h h' hk; exact l273_0 _ _ _ _ (cF (by simp; omega) (by rw [run]))
    | succ f ih =>
      intro n k h h' hk
      refine l273_0 _ _ _ _ (cd (fun h1 => ?_) (fun h1 => ?_))
      · have hn : n < t.size := by omega
        refine ⟨⟨by omega, by omega⟩, nxt (suf t n), (Lib.decodeGo (suf t n)).2, ?_, ins (nxt (suf t n)), r348 _, ?_⟩
        · rw [toN]; exact r191 _
        have hd : Lib.decodeGo (suf t n) = Utf8.decode t n := by
          rw [dec_go, if_neg (by rw [size_suf]; omega), dec_suf, Nat.add_zero]
        rw [ins_nxt, hd]
        have hz := dec_size hn
        refine cb (fun h2 => ?_) (fun h2 => ?_)
        · rw [run, if_neg (by simp at h2; simp [h2])]
        · have h2 : ins (Utf8.decode t n).1 = true := by simpa using h2
          rw [run, if_pos ⟨hn, h2⟩, w64 (by omega), wS (by omega), show (n : Int) + ((Utf8.decode t n).2 : Int) = ((n + (Utf8.decode t n).2 : Nat) : Int) by omega]
          exact ih _ _ (by omega) (by omega) (by omega)
      · rw [run_end _ _ _ (by omega)]
  exact f273 _ _ (loop t.size 0 0 (by omega) (by omega) (by omega))
theorem r202 (t : ByteArray) (hs : t.size ≤ maxLen) : Rn 202 [st t] (tb (nm t), [.dead]) := by
  refine f202 _ _ ⟨_, _, r191 t, _, _, r273 t hs, _, r274 _, ?_⟩
  rw [ltr_nxt]
  refine cb (fun h => cd (fun h' => tbR ?_) (fun h' => tbR ?_)) (fun h => tbR ?_)
  · simp [nm, h, show (run t t.size 0 0).1 = t.size by omega]; omega
  · simp [nm, show ¬ (run t t.size 0 0).1 = t.size by omega]
  · simp [nm, h]
end Go.Proofs.YtfknpnkdedckhaaGreatDoorT

/- Expressions as the document has them: formed ones. -/
namespace Go.Proofs.YtfknpnkdedckhaaGreatDoorT
open Go Go.Proofs
set_option linter.unusedVariables false
theorem r353 : ∀ x : E, x.wf → Rn 353 [x.d.t] (tb x.snd, [.dead]) := by
  refine E.rec_ops fun x IH hw => ?_
  have hlen := ops_len x
  have hww := E.ops_wf hw
  have loop : ∀ (d k : Nat), k + d = x.ops.length → L353_0 (((x.d.fParts).length : Nat) : Int) (k : Int) x.d (tb ((x.ops.drop k).all E.snd), [.dead]) := by
    intro d
    induction d with
    | zero =>
      intro k hk
      rw [d_parts]
      refine l353_0 _ _ _ _ (cF (by simp; omega) (tbR ?_))
      rw [List.drop_of_length_le (by omega)]
      rfl
    | succ d ih =>
      intro k hk
      have hlt : k < x.ops.length := by omega
      have h := ih (k + 1) (by omega)
      rw [List.drop_eq_getElem_cons hlt]
      rw [d_parts] at h ⊢
      refine l353_0 _ _ _ _ (cT (by simp; omega) ⟨(x.ops[k]).d, ⟨by omega, by rw [d_parts]; exact getd hlt⟩, _, IH _ (List.getElem_mem hlt) (hww _ (List.getElem_mem hlt)), cb (fun hb => tbR ?_) (fun hb => ?_)⟩)
      · have hb : (x.ops[k]).snd = false := by simpa using hb
        rw [List.all_cons, hb, Bool.false_and]
      · have hb : (x.ops[k]).snd = true := by simpa using hb
        rw [wS (by omega)]
        simp only [List.all_cons, hb, Bool.true_and]
        exact h
  have hall := loop x.ops.length 0 (by omega)
  rw [List.drop_zero] at hall
  cases x with
  | non => exact f353 _ _ (cF rfl (cF rfl (cF rfl (cF rfl (cF rfl rfl)))))
  | lit m =>
    refine f353 _ _ (cT rfl (cd (fun hm => tbR ?_) (fun hm => tbR ?_)))
    · have hm : 0 ≤ m := hm
      exact decide_eq_decide.2 ⟨fun h => h.2, fun h => ⟨hm, h⟩⟩
    · have hm : ¬ 0 ≤ m := hm
      exact decide_eq_false (fun h => hm h.1)
  | ref s => exact f353 _ _ (cF rfl (cT rfl ⟨_, r202 s hw, rfl⟩))
  | not x =>
    have e : (E.not x).snd = (E.not x).ops.all E.snd := by simp [E.snd, E.ops]
    rw [e]
    exact f353 _ _ (cF rfl (cF rfl (cT rfl (cF rfl hall))))
  | neg x =>
    have e : (E.neg x).snd = (E.neg x).ops.all E.snd := by simp [E.snd, E.ops]
    rw [e]
    exact f353 _ _ (cF rfl (cF rfl (cF rfl (cT rfl (cF rfl hall)))))
  | bin op l r =>
    refine f353 _ _ (cF rfl (cF rfl (cF rfl (cF rfl (cT rfl (cT rfl ⟨_, r385 op, cb (fun hb => tbR ?_) (fun hb => ?_)⟩))))))
    · have hb : decide (lvl op ≠ 0) = false := by simpa using hb
      simp [E.snd, hb]
    · have hb : decide (lvl op ≠ 0) = true := by simpa using hb
      have e : (E.bin op l r).snd = (E.bin op l r).ops.all E.snd := by simp only [E.snd, E.ops, hb, List.all_cons, List.all_nil, Bool.and_true, Bool.true_and]
      rw [e]
      exact hall
theorem r285 (x : E) (hw : x.wf) : Rn 285 [x.d.t] (tb x.ok, [.dead]) := by
  refine f285 _ _ ⟨_, r351 x, cd (fun h => ?_) (fun h => tbR ?_)⟩
  · have h40 : x.nodes ≤ 40 := by unfold least at h; split at h <;> omega
    refine ⟨_, r352 x h40, cd (fun h12 => ⟨_, r353 x hw, tbR ?_⟩) (fun h12 => tbR ?_)⟩
    · rw [E.ok, decide_eq_true h40, Bool.true_and, E.sd, leB_t h12, Bool.and_true]
    · rw [E.ok, E.sd, leB_f h12, Bool.and_false, Bool.and_false]
  · have : ¬ x.nodes ≤ 40 := by unfold least at h; split at h <;> omega
    rw [E.ok, decide_eq_false this, Bool.false_and]
end Go.Proofs.YtfknpnkdedckhaaGreatDoorT

/- The text of an expression, by the document. -/
namespace Go.Proofs.YtfknpnkdedckhaaGreatDoorT
open Go Go.Proofs
set_option linter.unusedVariables false
theorem r384 (s : ByteArray) : Rn 384 [st s] (i64 (lvl s), [.dead]) := by
  refine f384 _ _ ?_
  refine cd (fun h => ?_) (fun h1 => ?_)
  · subst h; exact rfl
  refine cd (fun h => ?_) (fun h2 => ?_)
  · subst h; exact rfl
  refine cd (fun h => ?_) (fun h3 => ?_)
  · subst h; exact rfl
  refine cd (fun h => ?_) (fun h4 => ?_)
  · subst h; exact rfl
  refine cd (fun h => ?_) (fun h5 => ?_)
  · subst h; exact rfl
  refine cd (fun h => ?_) (fun h6 => ?_)
  · subst h; exact rfl
  refine cd (fun h => ?_) (fun h7 => ?_)
  · subst h; exact rfl
  refine cd (fun h => ?_) (fun h8 => ?_)
  · subst h; exact rfl
  refine cd (fun h => ?_) (fun h9 => ?_)
  · subst h; exact rfl
  have : lvl s = 0 := by simp only [lvl, h1, h2, h3, h4, h5, h6, h7, h8, h9, if_false, or_self]
  rw [this]; rfl
theorem r404 (x : E) : Rn 404 [x.d.t] (i64 (x.str : Int), [.dead]) := by
  cases x with
  | bin op l r => exact f404 _ _ (cT rfl ⟨_, r384 op, rfl⟩)
  | _ => exact f404 _ _ (cF rfl rfl)
theorem r383 {x : E} (h : Rn 346 [x.d.t] (st x.txt, [.dead])) (hz : x.txt.size ≤ 4000) (m : Nat) : Rn 383 [x.d.t, i64 (m : Int)] (st (wrp x.str m x.txt), [.dead, .dead]) := by
  refine f383 _ _ _ ⟨_, r404 x, cd (fun hm => ⟨_, h, by rw [size_bs]; simp; omega, by rw [size_append, size_bs, size_bs]; simp; omega, ?_⟩) (fun hm => ⟨_, h, ?_⟩)⟩
  · rw [wrp, if_pos (by omega)]
  · rw [wrp, if_neg (by omega)]
theorem r346 : ∀ x : E, x.snd = true → x.nodes ≤ 40 → Rn 346 [x.d.t] (st x.txt, [.dead]) := by
  intro x
  induction x with
  | non => intro h; cases h
  | lit n =>
    intro h hn
    simp only [E.snd, decide_eq_true_eq] at h
    exact f346 _ _ (cT rfl ⟨_, r98 h, rfl⟩)
  | ref s => exact fun h hn => f346 _ _ (cF rfl (cT rfl rfl))
  | not x ih =>
    intro h hn
    simp only [E.nodes] at hn
    have hz := small_of (x := x) h (by omega)
    have := wrp_size x.str 6 x.txt
    exact f346 _ _ (cF rfl (cF rfl (cT rfl ⟨x.d, ⟨by omega, rfl⟩, _, r383 (ih h (by omega)) hz 6, by rw [size_bs]; simp; omega, rfl⟩)))
  | neg x ih =>
    intro h hn
    simp only [E.nodes] at hn
    have hz := small_of (x := x) h (by omega)
    have := wrp_size x.str 6 x.txt
    exact f346 _ _ (cF rfl (cF rfl (cF rfl (cT rfl ⟨x.d, ⟨by omega, rfl⟩, _, r383 (ih h (by omega)) hz 6, by rw [size_bs]; simp; omega, rfl⟩))))
  | bin op l r ih1 ih2 =>
    intro h hn
    simp only [E.nodes] at hn
    simp only [E.snd, Bool.and_eq_true, decide_eq_true_eq] at h
    have hl := small_of h.1.2 (by omega)
    have hr := small_of h.2 (by omega)
    have hop := lvl_size h.1.1
    have hle := lvl_le op
    have w1 := wrp_size l.str (lft (lvl op)) l.txt
    have w2 := wrp_size r.str (lvl op + 1) r.txt
    have a1 := r383 (ih1 h.1.2 (by omega)) hl (lft (lvl op))
    have a2 := r383 (ih2 h.2 (by omega)) hr (lvl op + 1)
    have e1 : IntKind.wrap .i64 ((lvl op : Int) + 1) = ((lvl op + 1 : Nat) : Int) := wS (by omega)
    refine f346 _ _ (cF rfl (cF rfl (cF rfl (cF rfl ⟨_, r384 op, cd (fun h3 => ?_) (fun h3 => ?_)⟩))))
    · have h3 : lvl op = 3 := by omega
      have e2 : lft (lvl op) = 4 := by rw [h3]; rfl
      rw [e1]
      rw [e2] at a1 w1
      refine ⟨l.d, ⟨by omega, rfl⟩, _, a1, ?_, ?_, ?_, r.d, ⟨by omega, rfl⟩, _, a2, ?_, ?_⟩
      all_goals try (simp only [E.d, size_append, size_bs]; simp; omega)
      rw [E.txt, e2]
      rfl
    · have h3 : lvl op ≠ 3 := by omega
      have e2 : lft (lvl op) = lvl op := by rw [lft, if_neg h3]
      rw [e1]
      rw [e2] at a1 w1
      refine ⟨l.d, ⟨by omega, rfl⟩, _, a1, ?_, ?_, ?_, r.d, ⟨by omega, rfl⟩, _, a2, ?_, ?_⟩
      all_goals try (simp only [E.d, size_append, size_bs]; simp; omega)
      rw [E.txt, e2]
      rfl
theorem r204 (x : E) (hw : x.wf) : Rn 204 [x.d.t] (tb (x.ok && x.plain), [.dead]) := by
  refine f204 _ _ ⟨_, r285 x hw, ?_⟩
  cases x.ok with
  | false => exact rfl
  | true => exact ⟨_, r286 x, rfl⟩
end Go.Proofs.YtfknpnkdedckhaaGreatDoorT

/- GuardPrints. -/
namespace Go.Proofs.YtfknpnkdedckhaaGreatDoorT
open Go Go.Proofs
set_option linter.unusedVariables false
theorem r271 (x : E) (hw : x.wf) : Rn 271 [x.d.t] (.tup [st (prt x).1, i64 (prt x).2], [.dead]) := by
  refine f271 _ _ ⟨_, r204 x hw, ?_⟩
  unfold prt
  cases h : (x.ok && x.plain) with
  | false => exact rfl
  | true =>
    have hp := ok_parts (Bool.and_eq_true_iff.1 h).1
    exact ⟨_, r346 x hp.2 hp.1, rfl⟩
end Go.Proofs.YtfknpnkdedckhaaGreatDoorT

/- Which charts are formed: by the program. -/
namespace Go.Proofs.YtfknpnkdedckhaaGreatDoorT
open Go Go.Proofs
set_option linter.unusedVariables false
/-- The first of a list of which something is true. -/
theorem any_rule {α A : Type} {f : A → T} {LL : List T → Int → Int → T × List T → Prop} {D : List T} {call : A → Bool → Prop}
    (rule : ∀ s n k R, cond (decide ((k : Int) < n)) (∃ w : A, ((0 : Int) ≤ k ∧ s[Int.toNat k]? = some (f w)) ∧ (∃ b : Bool, call w b ∧ cond b (R = (i64 k, D)) (LL s n (IntKind.wrap .i64 (k + 1)) R))) (R = (i64 (-1), D)) → LL s n k R)
    (g : α → A) (p : α → Bool) (l : List α) (hc : ∀ x ∈ l, call (g x) (p x)) (hl : l.length ≤ 100000) :
    ∃ n : Int, LL (l.map fun x => f (g x)) (((l.map fun x => f (g x)).length : Nat) : Int) 0 (i64 n, D) ∧ decide (0 ≤ n) = l.any p := by
  have loop : ∀ (d k : Nat), k + d = l.length → ∃ n : Int, LL (l.map fun x => f (g x)) (((l.map fun x => f (g x)).length : Nat) : Int) (k : Int) (i64 n, D) ∧ decide (0 ≤ n) = (l.drop k).any p := by
    intro d
    induction d with
    | zero => intro k hk; exact ⟨-1, rule _ _ _ _ (cF (by simp; omega) rfl), by rw [List.drop_of_length_le (by omega)]; simp⟩
    | succ d ih =>
      intro k hk
      have hlt : k < l.length := by omega
      rw [List.drop_eq_getElem_cons hlt, List.any_cons]
      have h := hc l[k] (List.getElem_mem hlt)
      cases hb : p l[k] with
      | true => rw [hb] at h; exact ⟨(k : Int), rule _ _ _ _ (cT (by simp; omega) ⟨g l[k], ⟨by omega, getm (f := fun x => f (g x)) hlt⟩, _, h, cT rfl rfl⟩), by simp⟩
      | false =>
        rw [hb] at h
        obtain ⟨n, h1, h2⟩ := ih (k + 1) (by omega)
        refine ⟨n, rule _ _ _ _ (cT (by simp; omega) ⟨g l[k], ⟨by omega, getm (f := fun x => f (g x)) hlt⟩, _, h, cF rfl ?_⟩), by rw [Bool.false_or]; exact h2⟩
        rw [wS (by omega)]
        exact h1
  exact loop l.length 0 (by omega)
theorem any_not {α : Type} (p : α → Bool) (l : List α) : (!(l.any fun x => !(p x))) = l.all p := by
  induction l with
  | nil => rfl
  | cons a l ih => simp only [List.any_cons, List.all_cons, ← ih, Bool.not_or, Bool.not_not]
theorem ml {n : Nat} (h : n ≤ 140737488351232) : n ≤ maxLen := Nat.le_trans h (by decide)
/-- A name that is not reserved. -/
def pl (s : ByteArray) : Bool := nm s && !(resv s)
def num9 (n : Int) : Bool := decide (0 ≤ n) && decide (n ≤ 1000000000)
def rd (x : E) : Bool := x.ok && x.plain
theorem r193 (s : ByteArray) (hs : s.size ≤ 140737488351232) : Rn 193 [st s] (tb (!(pl s)), [.dead]) := by
  refine f193 _ _ ⟨_, r194 s (ml hs), ?_⟩
  unfold pl
  cases nm s with
  | false => exact cT rfl rfl
  | true => exact cF rfl ⟨_, r195 s, by simp⟩
theorem r104 (L : List ByteArray) (hs : ∀ s ∈ L, s.size ≤ 140737488351232) (hl : L.length ≤ 1000) : Rn 104 [.sl 1 (L.map st)] (tb (L.all pl), [.dead]) := by
  obtain ⟨n, h1, h2⟩ := any_rule (f := st) (call := fun w b => Rn 193 [st w] (tb b, [.dead])) l247_0 id (fun s => !(pl s)) L (fun s hm => r193 s (hs s hm)) (by omega)
  exact f104 _ _ ⟨_, f166 _ _ ⟨n, f247 _ _ h1, by rw [h2]⟩, by rw [any_not]⟩
theorem r105 (n : Int) : Rn 105 [i64 n] (tb (num9 n), [.dead]) := by
  refine f105 _ _ (cd (fun h => tbR ?_) (fun h => tbR ?_))
  · rw [num9, decide_eq_true h, Bool.true_and]
  · rw [num9, decide_eq_false h, Bool.false_and]
theorem r282 (x : E) (hw : x.wf) : Rn 282 [x.v.v] (tb (rd x), [.dead]) := by
  refine f282 _ _ ⟨_, _, r269 x hw, tbR ?_⟩
  unfold prt rd
  cases x.ok && x.plain <;> simp
def Sg.fm (g : Sg) : Bool := pl g.name && rd g.to
def On.fm (o : On) : Bool := pl o.event && pl o.target && (!(o.guard.has) || rd o.guard) && o.sets.all Sg.fm
theorem r284 (g : Sg) (hs : g.sz) : Rn 284 [g.v.t] (tb (!(g.fm)), [.dead]) := by
  refine f284 _ _ ⟨_, r104 [g.name] (by simpa using hs.1) (by simp), ?_⟩
  unfold Sg.fm
  cases h : pl g.name with
  | false => exact cT (by simp [h]) (by simp)
  | true => exact cF (by simp [h]) ⟨_, r282 g.to hs.2, by simp⟩
theorem r200 (o : On) (hs : o.sz) (hl : o.sets.length ≤ 400) : Rn 200 [o.v.t] (tb o.fm, [.dead]) := by
  obtain ⟨n, h1, h2⟩ := any_rule (f := W_chart_Set.t) (call := fun w b => Rn 284 [w.t] (tb b, [.dead])) l350_0 Sg.v (fun g => !(g.fm)) o.sets (fun g hm => r284 g (hs.2.2.2 g hm)) (by omega)
  have h283 := f283 _ (tb (o.sets.any fun g => !(g.fm)), [.dead, .dead]) ⟨n, f350 _ _ h1, by rw [h2]⟩
  refine f200 _ _ ⟨_, r104 [o.event, o.target] (by simp; exact ⟨hs.1, hs.2.1⟩) (by simp), ?_⟩
  unfold On.fm
  have e : ([o.event, o.target].all pl) = (pl o.event && pl o.target) := by simp
  rw [e]
  cases pl o.event && pl o.target with
  | false => exact cF rfl (by simp)
  | true =>
    refine cT rfl ?_
    have last : (tb (!(o.sets.any fun g => !(g.fm))), [.dead]) = ((tb (o.sets.all Sg.fm), [.dead]) : T × List T) := by rw [any_not]
    cases hg : o.guard with
    | non => exact cT (by show decide ((o.guard.v).t = 0) = true; rw [hg]; rfl) ⟨_, h283, by rw [any_not]; simp [E.has]⟩
    | _ =>
      refine cF (by show decide ((o.guard.v).t = 0) = false; rw [hg]; rfl) ⟨_, r282 o.guard hs.2.2.1, ?_⟩
      rw [hg]
      simp only [E.has, Bool.not_true, Bool.false_or, Bool.true_and]
      cases rd _ with
      | false => exact cF rfl (by simp)
      | true => exact cT rfl ⟨_, h283, by rw [any_not]; simp⟩
theorem r199 (o : On) (hs : o.sz) (hl : o.sets.length ≤ 400) : Rn 199 [o.v.t] (tb (!(o.fm)), [.dead]) := f199 _ _ ⟨_, r200 o hs hl, rfl⟩
theorem r198 (l : List On) (hs : ∀ o ∈ l, o.sz ∧ o.sets.length ≤ 400) (hl : l.length ≤ 400) : Rn 198 [.sl 6 (l.map fun o => o.v.t), .s (.func (.func 199) #[] #[])] (tb (!(l.all On.fm)), [.dead, .dead]) := by
  obtain ⟨n, h1, h2⟩ := any_rule (f := W_chart_On.t) (call := fun w b => Rn 199 [w.t] (tb b, [.dead])) l281_0 On.v (fun o => !(o.fm)) l (fun o hm => r199 o (hs o hm).1 (hs o hm).2) (by omega)
  exact f198 _ _ ⟨n, f281 _ _ h1, by rw [h2, ← any_not, Bool.not_not]⟩
def Sb.step (b : Sb) : Bool := !(decide (b.do_ = bs [])) || !(decide (b.undo = bs [])) || !(decide (b.where_ = 0)) || !(decide (b.retries = 0))
def Sb.four (b : Sb) : Bool := pl b.do_ && pl b.undo && num9 b.where_ && num9 b.retries
def Sb.fm (b : Sb) : Bool := pl b.name && !((b.all && b.en) || ((b.all || b.en) && b.step)) && (!(b.step) || b.four) && b.ons.all On.fm
mutual
def Stt.fm : Stt → Nat → Bool
  | .mk b l, d => decide (d ≤ 6) && b.fm && Stt.fml l (d + 1)
def Stt.fml : List Stt → Nat → Bool
  | [], d => true
  | s :: r, d => s.fm d && Stt.fml r d
end
theorem fml_all (d : Nat) : ∀ l : List Stt, Stt.fml l d = l.all fun s => s.fm d
  | [] => rfl
  | s :: r => by rw [Stt.fml, fml_all d r]; rfl
theorem fm_mk (b : Sb) (l : List Stt) (d : Nat) : (Stt.mk b l).fm d = (decide (d ≤ 6) && b.fm && l.all fun s => s.fm (d + 1)) := by rw [Stt.fm, fml_all]
theorem r108b (l : List Stt) (d : Nat) (hd : d ≤ 6) (h : ∀ s ∈ l, Rn 110 [s.v.t, i64 ((d + 1 : Nat) : Int)] (tb (s.fm (d + 1)), [.dead, .dead])) (hl : l.length ≤ 400) :
    Rn 108 [.sl 11 (l.map fun s => s.v.t), .fn (.func 201) [] [.cbox 3 [i64 (d : Int)]]] (tb (!(l.all fun s => s.fm (d + 1))), [.dead, .fn (.func 201) [] [.cbox 3 [i64 (d : Int)]]]) := by
  have loop : ∀ (c k : Nat), k + c = l.length → ∃ n : Int, L197b_0 (l.map fun s => s.v.t) (((l.map fun s => s.v.t).length : Nat) : Int) (k : Int) (d : Int) (i64 n, [.dead, .fn (.func 201) [] [.cbox 3 [i64 (d : Int)]]]) ∧ decide (0 ≤ n) = (l.drop k).any fun s => !(s.fm (d + 1)) := by
    intro c
    induction c with
    | zero => intro k hk; exact ⟨-1, l197b_0 _ _ _ _ _ (cF (by simp; omega) rfl), by rw [List.drop_of_length_le (by omega)]; simp⟩
    | succ c ih =>
      intro k hk
      have hlt : k < l.length := by omega
      rw [List.drop_eq_getElem_cons hlt, List.any_cons]
      have h0 := h l[k] (List.getElem_mem hlt)
      have h201 : Rn 201 [(l[k]).v.t, .cbox 3 [i64 (d : Int)]] (tb (!((l[k]).fm (d + 1))), [.dead, .cbox 3 [i64 (d : Int)]]) := f201 _ _ _ ⟨_, by rw [wS (by omega)]; exact h0, rfl⟩
      have g : (l.map fun s : Stt => s.v.t)[Int.toNat (k : Int)]? = some (l[k]).v.t := getm (f := fun s : Stt => s.v.t) hlt
      cases hb : (l[k]).fm (d + 1) with
      | false => rw [hb] at h201; exact ⟨(k : Int), l197b_0 _ _ _ _ _ (cT (by simp; omega) ⟨(l[k]).v, ⟨by omega, g⟩, _, _, h201, cT rfl rfl⟩), by simp⟩
      | true =>
        rw [hb] at h201
        obtain ⟨n, h1, h2⟩ := ih (k + 1) (by omega)
        refine ⟨n, l197b_0 _ _ _ _ _ (cT (by simp; omega) ⟨(l[k]).v, ⟨by omega, g⟩, _, _, h201, cF rfl ?_⟩), by rw [Bool.not_true, Bool.false_or]; exact h2⟩
        rw [wS (by omega)]
        exact h1
  obtain ⟨n, h1, h2⟩ := loop l.length 0 (by omega)
  rw [List.drop_zero] at h2
  exact f108b _ _ _ ⟨n, (d : Int), f197b _ _ _ h1, by rw [h2, ← any_not, Bool.not_not]⟩
theorem r110 : ∀ s : Stt, s.sz → s.wt ≤ 400 → ∀ d : Nat, d ≤ 7 → Rn 110 [s.v.t, i64 (d : Int)] (tb (s.fm d), [.dead, .dead]) := by
  refine Stt.rec_in fun b l ih hsz hwt d hd => ?_
  have hlt := lt_of hwt
  rw [Stt.sz] at hsz
  obtain ⟨⟨hz1, hz2, hz3, hz4⟩, hzl⟩ := hsz
  have hzl := (szl_iff l).1 hzl
  have h198 := r198 b.ons (fun o hm => ⟨hz4 o hm, hlt.sets o hm⟩) hlt.ons
  have hname := r104 [b.name] (by simpa using hz1) (by simp)
  have hdu := r104 [b.do_, b.undo] (by simp; exact ⟨hz2, hz3⟩) (by simp)
  have h105 := r105 b.where_
  have h105' := r105 b.retries
  have ein : (Stt.mk b l).v = b.v (l.map fun s => s.v.t) := v_mk _
  rw [fm_mk, ein]
  have e1 : ([b.name].all pl) = pl b.name := by simp
  have e2 : ([b.do_, b.undo].all pl) = (pl b.do_ && pl b.undo) := by simp
  rw [e1] at hname
  rw [e2] at hdu
  -- the ons, and what lies in it
  have tail : d ≤ 6 → ∀ R : T × List T, R = (tb (b.ons.all On.fm && l.all fun s => s.fm (d + 1)), [.dead, .dead]) →
      ∃ b5 : Bool, (Rn 198 [.sl 6 (b.ons.map fun o => o.v.t), .s (.func (.func 199) #[] #[])] (tb b5, [.dead, .dead])) ∧ (cond b5 (R = (tb false, [.dead, .dead]))
        (∃ b6 : Bool, ∃ n3 : Int, (Rn 108 [.sl 11 (l.map fun s => s.v.t), .fn (.func 201) [] [.cbox 3 [i64 (d : Int)]]] (tb b6, [.dead, .fn (.func 201) [] [.cbox 3 [i64 n3]]])) ∧ (R = (tb (!b6), [.dead, .dead])))) := by
    rintro hd6 R rfl
    refine ⟨_, h198, ?_⟩
    cases b.ons.all On.fm with
    | false => exact cT rfl rfl
    | true => exact cF rfl ⟨_, _, r108b l d hd6 (fun s hm => ih s hm (hzl s hm) (hlt.each s hm) (d + 1) (by omega)) hlt.inner, by simp⟩
  have main : ∀ x : Bool, x = b.step → L110_0 0 3 0 (b.v (l.map fun s => s.v.t)) (d : Int) [tb b.all, tb b.en, tb x] (tb (decide (d ≤ 6) && b.fm && l.all fun s => s.fm (d + 1)), [.dead, .dead]) := by
    rintro x rfl
    have fd : ¬ d ≤ 6 → (decide (d ≤ 6) && b.fm && l.all fun s => s.fm (d + 1)) = false := fun h => by simp [h]
    refine l110_0 _ _ _ _ _ _ _ (cT rfl ⟨⟨by decide, by simp⟩, _, rfl, ?_⟩)
    have nxt : ∀ (kinds : Int), L110_0 kinds 3 (IntKind.wrap .i64 (0 + 1)) (b.v (l.map fun s => s.v.t)) (d : Int) [tb b.all, tb b.en, tb b.step] (tb (decide (d ≤ 6) && b.fm && l.all fun s => s.fm (d + 1)), [.dead, .dead]) →
        True := fun _ _ => trivial
    clear nxt
    have go : ∀ (k0 : Int), k0 = (if b.all = true then 1 else 0) → L110_0 k0 3 1 (b.v (l.map fun s => s.v.t)) (d : Int) [tb b.all, tb b.en, tb b.step] (tb (decide (d ≤ 6) && b.fm && l.all fun s => s.fm (d + 1)), [.dead, .dead]) := by
      rintro k0 rfl
      refine l110_0 _ _ _ _ _ _ _ (cT rfl ⟨⟨by decide, by simp⟩, _, rfl, ?_⟩)
      have go2 : ∀ (k1 : Int), k1 = (if b.all = true then 1 else 0) + (if b.en = true then 1 else 0) → L110_0 k1 3 2 (b.v (l.map fun s => s.v.t)) (d : Int) [tb b.all, tb b.en, tb b.step] (tb (decide (d ≤ 6) && b.fm && l.all fun s => s.fm (d + 1)), [.dead, .dead]) := by
        rintro k1 rfl
        refine l110_0 _ _ _ _ _ _ _ (cT rfl ⟨⟨by decide, by simp⟩, _, rfl, ?_⟩)
        have go3 : ∀ (k2 : Int), k2 = (if b.all = true then 1 else 0) + (if b.en = true then 1 else 0) + (if b.step = true then 1 else 0) → L110_0 k2 3 3 (b.v (l.map fun s => s.v.t)) (d : Int) [tb b.all, tb b.en, tb b.step] (tb (decide (d ≤ 6) && b.fm && l.all fun s => s.fm (d + 1)), [.dead, .dead]) := by
          intro k2 hk2
          refine l110_0 _ _ _ _ _ _ _ (cF rfl ?_)
          have hfm : b.fm = (pl b.name && !((b.all && b.en) || ((b.all || b.en) && b.step)) && (!(b.step) || b.four) && b.ons.all On.fm) := rfl
          cases ha : b.all with
          | true =>
            refine cF (by show (!b.all) = false; rw [ha]; rfl) (cd (fun h => tbR (fd (by omega))) (fun h => ⟨_, hname, ?_⟩))
            have hd6 : d ≤ 6 := by omega
            rw [decide_eq_true hd6, Bool.true_and]
            cases hn : pl b.name with
            | false => exact cT rfl (tbR (by rw [hfm, hn]; simp))
            | true =>
              refine cF rfl (cd (fun h => tbR ?_) (fun h => ?_))
              · rw [ha] at hk2
                rw [hfm, ha]
                cases he : b.en <;> cases hs : b.step <;> rw [he, hs] at hk2 <;> simp at hk2 ⊢
                all_goals omega
              · have hes : b.en = false ∧ b.step = false := by
                  rw [ha] at hk2
                  cases he : b.en <;> cases hs : b.step <;> rw [he, hs] at hk2 <;> simp at hk2 ⊢
                  all_goals omega
                refine tail hd6 _ (tbR ?_)
                rw [hfm, ha, hes.1, hes.2, hn]; simp
          | false =>
            refine cT (by show (!b.all) = true; rw [ha]; rfl) ?_
            cases he : b.en with
            | true =>
              refine cF (by show (!b.en) = false; rw [he]; rfl) (cd (fun h => tbR (fd (by omega))) (fun h => ⟨_, hname, ?_⟩))
              have hd6 : d ≤ 6 := by omega
              rw [decide_eq_true hd6, Bool.true_and]
              cases hn : pl b.name with
              | false => exact cT rfl (tbR (by rw [hfm, hn]; simp))
              | true =>
                refine cF rfl (cd (fun h => tbR ?_) (fun h => ?_))
                · rw [ha, he] at hk2
                  rw [hfm, ha, he]
                  cases hs : b.step <;> rw [hs] at hk2 <;> simp at hk2 ⊢
                  all_goals omega
                · have hes : b.step = false := by
                    rw [ha, he] at hk2
                    cases hs : b.step <;> rw [hs] at hk2 <;> simp at hk2 ⊢
                    all_goals omega
                  refine tail hd6 _ (tbR ?_)
                  rw [hfm, ha, he, hes, hn]; simp
            | false =>
              refine cT (by show (!b.en) = true; rw [he]; rfl) (cd (fun h => tbR (fd (by omega))) (fun h => ⟨_, hname, ?_⟩))
              have hd6 : d ≤ 6 := by omega
              rw [decide_eq_true hd6, Bool.true_and]
              cases hn : pl b.name with
              | false => exact cT rfl (tbR (by rw [hfm, hn]; simp))
              | true =>
                rw [ha, he] at hk2
                refine cF rfl (cF (by cases hs : b.step <;> rw [hs] at hk2 <;> simp at hk2 <;> subst hk2 <;> rfl) ?_)
                cases hs : b.step with
                | false =>
                  rw [hs] at hk2
                  refine cF (by simp at hk2; subst hk2; rfl) (tail hd6 _ (tbR ?_))
                  rw [hfm, ha, he, hs, hn]; simp
                | true =>
                  rw [hs] at hk2
                  have hff : b.fm = (b.four && b.ons.all On.fm) := by rw [hfm, ha, he, hs, hn]; simp
                  have h4 : b.four = ((pl b.do_ && pl b.undo) && num9 b.where_ && num9 b.retries) := rfl
                  refine cT (by simp at hk2; subst hk2; rfl) ⟨_, hdu, ?_⟩
                  rw [hff, h4]
                  cases pl b.do_ && pl b.undo with
                  | false => exact cT rfl (tbR (by simp))
                  | true =>
                    refine cF rfl ⟨_, h105, ?_⟩
                    cases num9 b.where_ with
                    | false => exact cT rfl (tbR (by simp))
                    | true =>
                      refine cF rfl ⟨_, h105', ?_⟩
                      cases num9 b.retries with
                      | false => exact cT rfl (tbR (by simp))
                      | true => exact cF rfl (tail hd6 _ (tbR (by simp)))
        cases hs : b.step with
        | true => refine cT rfl (hs ▸ go3 _ ?_); cases b.all <;> cases b.en <;> simp [hs] <;> rfl
        | false => refine cF rfl (hs ▸ go3 _ ?_); simp [hs]
      cases he : b.en with
      | true => refine cT rfl (he ▸ go2 _ ?_); cases b.all <;> simp [he] <;> rfl
      | false => refine cF rfl (he ▸ go2 _ ?_); simp [he]
    cases ha : b.all with
    | true => exact cT rfl (ha ▸ go _ (by rw [ha]; rfl))
    | false => exact cF rfl (ha ▸ go _ (by rw [ha]; rfl))
  refine f110 _ _ _ (cdn (fun h1 => main true ?_) (fun h1 => cdn (fun h2 => main true ?_) (fun h2 => cdn (fun h3 => main true ?_) (fun h3 => main _ ?_))))
  · have h1 : ¬ b.do_ = bs [] := h1
    simp [Sb.step, h1]
  · have h2 : ¬ b.undo = bs [] := h2
    simp [Sb.step, h2]
  · have h3 : ¬ b.where_ = 0 := h3
    simp [Sb.step, h3]
  · have h1 : b.do_ = bs [] := h1
    have h2 : b.undo = bs [] := h2
    have h3 : b.where_ = 0 := h3
    simp [Sb.step, h1, h2, h3, Sb.v]
end Go.Proofs.YtfknpnkdedckhaaGreatDoorT

/- Which charts are formed: by the document; whole charts by both. -/
namespace Go.Proofs.YtfknpnkdedckhaaGreatDoorT
open Go Go.Proofs
set_option linter.unusedVariables false
theorem r111 (s : ByteArray) (hs : s.size ≤ 140737488351232) : Rn 111 [st s] (tb (pl s), [.dead]) := by
  refine f111 _ _ ⟨_, r202 s (ml hs), ?_⟩
  unfold pl
  cases nm s with
  | false => exact cF rfl rfl
  | true => exact cT rfl ⟨_, r203 s, by simp⟩
theorem r112 (n : Int) : Rn 112 [i64 n] (tb (num9 n), [.dead]) := by
  refine f112 _ _ (cd (fun h => tbR ?_) (fun h => tbR ?_))
  · rw [num9, decide_eq_true h, Bool.true_and]
  · rw [num9, decide_eq_false h, Bool.false_and]
theorem r204' (x : E) (hw : x.wf) : Rn 204 [.agg [i64 x.d.fKind, i64 x.d.fN, st x.d.fS, .sl 4 x.d.fParts]] (tb (rd x), [.dead]) := r204 x hw
set_option maxHeartbeats 2000000 in
theorem r113 : ∀ s : Stt, s.sz → s.wt ≤ 400 → ∀ d : Nat, d ≤ 7 → Rn 113 [s.d.t, i64 (d : Int)] (tb (s.fm d), [.dead, .dead]) := by
  refine Stt.rec_in fun b l ih hsz hwt d hd => ?_
  have hlt := lt_of hwt
  rw [Stt.sz] at hsz
  obtain ⟨⟨hz1, hz2, hz3, hz4⟩, hzl⟩ := hsz
  have hzl := (szl_iff l).1 hzl
  have ein : (Stt.mk b l).d = b.d (l.map fun s => s.d.t) := d_mk _
  rw [fm_mk, ein]
  rcases Nat.lt_or_ge 6 d with hd6 | hd6
  · exact f113 _ _ _ (cT (by simp; omega) (tbR (by rw [decide_eq_false (by omega)]; simp)))
  rw [decide_eq_true hd6, Bool.true_and]
  have hwlen : (b.d (l.map fun s => s.d.t)).fOns = b.ons.map fun o => o.d.t := rfl
  have hilen : (b.d (l.map fun s => s.d.t)).fInner = l.map fun s => s.d.t := rfl
  -- what lies in it
  have inner : ∀ (c k : Nat), k + c = l.length → L113_2 (d : Int) (((b.d (l.map fun s => s.d.t)).fInner.length : Nat) : Int) (k : Int) (b.d (l.map fun s => s.d.t)) (tb ((l.drop k).all fun s => s.fm (d + 1)), [.dead, .dead]) := by
    intro c
    induction c with
    | zero => intro k hk; exact l113_2 _ _ _ _ _ (cF (by rw [hilen]; simp; omega) (by rw [List.drop_of_length_le (by omega)]; rfl))
    | succ c ihc =>
      intro k hk
      have hlt' : k < l.length := by omega
      rw [List.drop_eq_getElem_cons hlt', List.all_cons]
      have hm := List.getElem_mem hlt'
      have h0 := ih _ hm (hzl _ hm) (hlt.each _ hm) (d + 1) (by omega)
      have g : (b.d (l.map fun s => s.d.t)).fInner[Int.toNat (k : Int)]? = some (l[k]).d.t := by rw [hilen]; exact getm (f := fun s : Stt => s.d.t) hlt'
      refine l113_2 _ _ _ _ _ (cT (by rw [hilen]; simp; omega) ⟨(l[k]).d, ⟨by omega, g⟩, _, by rw [wS (by omega)]; exact h0, ?_⟩)
      cases (l[k]).fm (d + 1) with
      | false => exact cT rfl rfl
      | true =>
        refine cF rfl ?_
        rw [wS (by have := hlt.inner; omega), Bool.true_and]
        exact ihc (k + 1) (by omega)
  have inner0 := inner l.length 0 (by omega)
  rw [List.drop_zero] at inner0
  -- the ons
  have ons : ∀ (c k : Nat), k + c = b.ons.length → L113_0 (d : Int) (((b.d (l.map fun s => s.d.t)).fOns.length : Nat) : Int) (k : Int) (b.d (l.map fun s => s.d.t)) (tb ((b.ons.drop k).all On.fm && l.all fun s => s.fm (d + 1)), [.dead, .dead]) := by
    intro c
    induction c with
    | zero => intro k hk; exact l113_0 _ _ _ _ _ (cF (by rw [hwlen]; simp; omega) (by rw [List.drop_of_length_le (by omega)]; simpa using inner0))
    | succ c ihc =>
      intro k hk
      have hlt' : k < b.ons.length := by omega
      have next := ihc (k + 1) (by omega)
      have hm := List.getElem_mem hlt'
      obtain ⟨q1, q2, q3, q4⟩ := hz4 _ hm
      have q5 := hlt.sets _ hm
      rw [List.drop_eq_getElem_cons hlt', List.all_cons]
      generalize ho : b.ons[k] = o at q1 q2 q3 q4 q5 ⊢
      have g : (b.d (l.map fun s => s.d.t)).fOns[Int.toNat (k : Int)]? = some o.d.t := by rw [hwlen, getm (f := fun o : On => o.d.t) hlt', ho]
      have hfm : o.fm = (pl o.event && pl o.target && (!(o.guard.has) || rd o.guard) && o.sets.all Sg.fm) := rfl
      have sets : ∀ (s0 : ByteArray) (b1 b2 b3 b4 b5 : Bool), (pl o.event = true ∧ pl o.target = true ∧ (!(o.guard.has) || rd o.guard) = true) → ∀ (e p : Nat), p + e = o.sets.length →
          L113_1a (d : Int) (((b.d (l.map fun s => s.d.t)).fOns.length : Nat) : Int) (k : Int) s0 b1 b2 b3 b4 b5 ((o.d.fSets.length : Nat) : Int) (p : Int) (b.d (l.map fun s => s.d.t)) o.d
            (tb ((o.sets.drop p).all Sg.fm && ((b.ons.drop (k + 1)).all On.fm && l.all fun s => s.fm (d + 1))), [.dead, .dead]) := by
        intro s0 b1 b2 b3 b4 b5 hh e
        have hsl : o.d.fSets = o.sets.map fun g => g.d.t := rfl
        induction e with
        | zero =>
          intro p hp
          refine l113_1a _ _ _ _ _ _ _ _ _ _ _ _ _ _ (cF (by rw [hsl]; simp; omega) ?_)
          rw [wS (by have := hlt.ons; omega), List.drop_of_length_le (by omega)]
          simpa using next
        | succ e ihe =>
          intro p hp
          have hpl : p < o.sets.length := by omega
          have hg := q4 _ (List.getElem_mem hpl)
          rw [List.drop_eq_getElem_cons hpl, List.all_cons]
          have gg : o.d.fSets[Int.toNat (p : Int)]? = some (o.sets[p]).d.t := by rw [hsl]; exact getm (f := fun g : Sg => g.d.t) hpl
          refine l113_1a _ _ _ _ _ _ _ _ _ _ _ _ _ _ (cT (by rw [hsl]; simp; omega) ⟨(o.sets[p]).d, ⟨by omega, gg⟩, pl (o.sets[p]).name, r111 (o.sets[p]).name hg.1, ?_⟩)
          have hgf : (o.sets[p]).fm = (pl (o.sets[p]).name && rd (o.sets[p]).to) := rfl
          rw [hgf]
          cases pl (o.sets[p]).name with
          | false => exact cT rfl (tbR (by simp))
          | true =>
            refine cF rfl ⟨(o.sets[p]).d, ⟨by omega, gg⟩, _, r204' _ hg.2, ?_⟩
            cases rd (o.sets[p]).to with
            | false => exact cT rfl (tbR (by simp))
            | true =>
              refine cF rfl ?_
              rw [wS (by omega)]
              simpa using ihe (p + 1) (by omega)
      refine l113_0 _ _ _ _ _ (cT (by rw [hwlen]; simp; omega) ⟨o.d, ⟨by omega, g⟩, _, r111 o.event q1, ?_⟩)
      cases he : pl o.event with
      | false => exact cT rfl (tbR (by rw [hfm, he]; simp))
      | true =>
        refine cF rfl ⟨_, r111 o.target q2, ?_⟩
        cases ht : pl o.target with
        | false => exact cT rfl (tbR (by rw [hfm, ht]; simp))
        | true =>
          refine cF rfl ?_
          have hhas : o.d.fHas = o.guard.has := rfl
          rw [hhas]
          cases hg : o.guard.has with
          | true =>
            refine cT rfl ⟨_, r204' o.guard q3, ?_⟩
            cases hr : rd o.guard with
            | false => exact cT rfl (tbR (by rw [hfm, hg, hr]; simp))
            | true =>
              refine cF rfl ?_
              have := sets o.d.fTarget true (!true) true true (!true) ⟨he, ht, by rw [hg, hr]; rfl⟩ o.sets.length 0 (by omega)
              rw [List.drop_zero] at this
              rw [hfm, he, ht, hg, hr]
              simpa [Bool.and_assoc] using this
          | false =>
            refine cF rfl ?_
            have := sets o.d.fTarget true (!true) false false false ⟨he, ht, by rw [hg]; rfl⟩ o.sets.length 0 (by omega)
            rw [List.drop_zero] at this
            rw [hfm, he, ht, hg]
            simpa [Bool.and_assoc] using this
  have ons0 := ons b.ons.length 0 (by omega)
  rw [List.drop_zero] at ons0
  have L0 : b.fm = b.ons.all On.fm → L113_0 (d : Int) (((b.d (l.map fun s => s.d.t)).fOns.length : Nat) : Int) 0 (b.d (l.map fun s => s.d.t)) (tb (b.fm && l.all fun s => s.fm (d + 1)), [.dead, .dead]) := by
    intro h; rw [h]; exact ons0
  have four : b.fm = (b.four && b.ons.all On.fm) → ∃ b1 : Bool, (Rn 111 [st (b.d (l.map fun s => s.d.t)).fDo] (tb b1, [.dead])) ∧
     (cond (!b1) ((tb (b.fm && l.all fun s => s.fm (d + 1)), [T.dead, .dead]) = ((tb false, [.dead, .dead]) : T × List T))
      (∃ b2 : Bool, (Rn 111 [st (b.d (l.map fun s => s.d.t)).fUndo] (tb b2, [.dead])) ∧
       (cond (!b2) ((tb (b.fm && l.all fun s => s.fm (d + 1)), [T.dead, .dead]) = ((tb false, [.dead, .dead]) : T × List T))
        (∃ b3 : Bool, (Rn 112 [i64 (b.d (l.map fun s => s.d.t)).fWhere] (tb b3, [.dead])) ∧
         (cond (!b3) ((tb (b.fm && l.all fun s => s.fm (d + 1)), [T.dead, .dead]) = ((tb false, [.dead, .dead]) : T × List T))
          (∃ b4 : Bool, (Rn 112 [i64 (b.d (l.map fun s => s.d.t)).fRetries] (tb b4, [.dead])) ∧
           (cond (!b4) ((tb (b.fm && l.all fun s => s.fm (d + 1)), [T.dead, .dead]) = ((tb false, [.dead, .dead]) : T × List T))
            (L113_0 (d : Int) (((b.d (l.map fun s => s.d.t)).fOns.length : Nat) : Int) 0 (b.d (l.map fun s => s.d.t)) (tb (b.fm && l.all fun s => s.fm (d + 1)), [.dead, .dead])))))))))  := by
    intro h
    have h4 : b.four = (pl b.do_ && pl b.undo && num9 b.where_ && num9 b.retries) := rfl
    refine ⟨_, r111 b.do_ hz2, ?_⟩
    rw [h, h4]
    cases pl b.do_ with
    | false => exact cT rfl (tbR (by simp))
    | true =>
      refine cF rfl ⟨_, r111 b.undo hz3, ?_⟩
      cases pl b.undo with
      | false => exact cT rfl (tbR (by simp))
      | true =>
        refine cF rfl ⟨_, r112 b.where_, ?_⟩
        cases num9 b.where_ with
        | false => exact cT rfl (tbR (by simp))
        | true =>
          refine cF rfl ⟨_, r112 b.retries, ?_⟩
          cases num9 b.retries with
          | false => exact cT rfl (tbR (by simp))
          | true => refine cF rfl ?_; simpa using ons0
  refine f113 _ _ _ (cF (by simp; omega) ⟨_, r111 b.name hz1, ?_⟩)
  have hfm : b.fm = (pl b.name && !((b.all && b.en) || ((b.all || b.en) && b.step)) && (!(b.step) || b.four) && b.ons.all On.fm) := rfl
  have hst : b.step = (!(decide (b.do_ = bs [])) || !(decide (b.undo = bs [])) || !(decide (b.where_ = 0)) || !(decide (b.retries = 0))) := rfl
  have p1 : (b.d (l.map fun s => s.d.t)).fDo = b.do_ := rfl
  have p2 : (b.d (l.map fun s => s.d.t)).fUndo = b.undo := rfl
  have p3 : (b.d (l.map fun s => s.d.t)).fWhere = b.where_ := rfl
  have p4 : (b.d (l.map fun s => s.d.t)).fRetries = b.retries := rfl
  have p5 : (b.d (l.map fun s => s.d.t)).fAll = b.all := rfl
  have p6 : (b.d (l.map fun s => s.d.t)).fEnd = b.en := rfl
  cases hn : pl b.name with
  | false => exact cT rfl (tbR (by rw [hfm, hn]; simp))
  | true =>
    rw [hn] at hfm
    refine cF rfl ?_
    repeat' first
      | refine cdn (fun h => ?_) (fun h => ?_)
      | refine cb (b := W_tumbrelref06_State.fAll _) (fun h => ?_) (fun h => ?_)
      | refine cb (b := W_tumbrelref06_State.fEnd _) (fun h => ?_) (fun h => ?_)
    all_goals first
      | exact L0 (by simp_all)
      | exact four (by simp_all)
      | exact tbR (by simp_all)
end Go.Proofs.YtfknpnkdedckhaaGreatDoorT

/- Which charts are formed: whole charts by both. -/
namespace Go.Proofs.YtfknpnkdedckhaaGreatDoorT
open Go Go.Proofs
set_option linter.unusedVariables false
/-! ### Whole charts -/
def Vr.fm (x : Vr) : Bool := pl x.name && decide (-1000000000 ≤ x.n) && decide (x.n ≤ 1000000000)
def Ch.fm (c : Ch) : Bool := pl c.name && num9 c.version && c.vars.all Vr.fm && c.states.all fun s => s.fm 1
theorem r107 (x : Vr) (hs : x.name.size ≤ 140737488351232) : Rn 107 [x.v.t] (tb (!(x.fm)), [.dead]) := by
  refine f107 _ _ ⟨_, r104 [x.name] (by simpa using hs) (by simp), ?_⟩
  have e : ([x.name].all pl) = pl x.name := by simp
  rw [e]
  unfold Vr.fm
  cases pl x.name with
  | false => exact cT rfl (by simp)
  | true =>
    refine cF rfl (cd (fun h => tbR ?_) (fun h => tbR ?_))
    · have h : x.n < -1000000000 := h
      rw [decide_eq_false (by omega)]; simp
    · have h : ¬ x.n < -1000000000 := h
      rw [decide_eq_true (show (-1000000000 : Int) ≤ x.n by omega), Bool.true_and, Bool.true_and]
      by_cases hh : 1000000000 < x.n
      · rw [decide_eq_false (show ¬ x.n ≤ 1000000000 by omega)]; exact (decide_eq_true hh).symm
      · rw [decide_eq_true (show x.n ≤ 1000000000 by omega)]; exact (decide_eq_false hh).symm
theorem r109 (s : Stt) (hs : s.sz) (hw : s.wt ≤ 400) : Rn 109 [s.v.t] (tb (!(s.fm 1)), [.dead]) := f109 _ _ ⟨_, r110 s hs hw 1 (by omega), rfl⟩
theorem r37 (c : Ch) (hs : c.sz) (hl : Light c) : Rn 37 [c.v.t] (tb c.fm, [.dead]) := by
  have hv := hl.vars
  obtain ⟨n, h1, h2⟩ := any_rule (f := W_chart_Var.t) (call := fun w b => Rn 107 [w.t] (tb b, [.dead])) l196_0 Vr.v (fun x => !(x.fm)) c.vars (fun x hm => r107 x (hs.vars x hm)) (by omega)
  have h106 := f106 _ (tb (!(c.vars.all Vr.fm)), [.dead, .dead]) ⟨n, f196 _ _ h1, by rw [h2, ← any_not, Bool.not_not]⟩
  obtain ⟨n', h1', h2'⟩ := any_rule (f := W_chart_State.t) (call := fun w b => Rn 109 [w.t] (tb b, [.dead])) l197_0 Stt.v (fun s => !(s.fm 1)) c.states (fun s hm => r109 s (hs.states s hm) (hl.each.1 s hm)) (by have := hl.each.2; omega)
  have h108 := f108 _ (tb (!(c.states.all fun s => s.fm 1)), [.dead, .dead]) ⟨n', f197 _ _ h1', by rw [h2', ← any_not (fun s : Stt => s.fm 1), Bool.not_not]⟩
  refine f37 _ _ ⟨_, r104 [c.name] (by simpa using hs.name) (by simp), ?_⟩
  have e : ([c.name].all pl) = pl c.name := by simp
  rw [e]
  unfold Ch.fm
  cases pl c.name with
  | false => exact cF rfl (by simp)
  | true =>
    refine cT rfl ⟨_, r105 c.version, ?_⟩
    cases num9 c.version with
    | false => exact cF rfl (by simp)
    | true =>
      refine cT rfl ⟨_, h106, ?_⟩
      cases c.vars.all Vr.fm with
      | false => exact cF rfl (by simp)
      | true => exact cT rfl ⟨_, h108, by simp⟩
theorem r38 (c : Ch) (hs : c.sz) (hl : Light c) : Rn 38 [c.d.t] (tb c.fm, [.dead]) := by
  have hv := hl.vars
  have hst := hl.each
  have states : ∀ (d k : Nat), k + d = c.states.length → L38_1 ((c.d.fStates.length : Nat) : Int) (k : Int) c.d (tb ((c.states.drop k).all fun s => s.fm 1), [.dead]) := by
    have hlen : c.d.fStates = c.states.map fun s => s.d.t := rfl
    intro d
    induction d with
    | zero => intro k hk; exact l38_1 _ _ _ _ (cF (by rw [hlen]; simp; omega) (by rw [List.drop_of_length_le (by omega)]; rfl))
    | succ d ih =>
      intro k hk
      have hlt : k < c.states.length := by omega
      have hm := List.getElem_mem hlt
      rw [List.drop_eq_getElem_cons hlt, List.all_cons]
      have g : c.d.fStates[Int.toNat (k : Int)]? = some (c.states[k]).d.t := by rw [hlen]; exact getm (f := fun s : Stt => s.d.t) hlt
      refine l38_1 _ _ _ _ (cT (by rw [hlen]; simp; omega) ⟨(c.states[k]).d, ⟨by omega, g⟩, _, r113 _ (hs.states _ hm) (hst.1 _ hm) 1 (by omega), ?_⟩)
      cases (c.states[k]).fm 1 with
      | false => exact cT rfl rfl
      | true =>
        refine cF rfl ?_
        rw [wS (by omega), Bool.true_and]
        exact ih (k + 1) (by omega)
  have states0 := states c.states.length 0 (by omega)
  rw [List.drop_zero] at states0
  have vars : ∀ (d k : Nat), k + d = c.vars.length → L38_0 ((c.d.fVars.length : Nat) : Int) (k : Int) c.d (tb ((c.vars.drop k).all Vr.fm && c.states.all fun s => s.fm 1), [.dead]) := by
    have hlen : c.d.fVars = c.vars.map fun x => x.d.t := rfl
    intro d
    induction d with
    | zero => intro k hk; exact l38_0 _ _ _ _ (cF (by rw [hlen]; simp; omega) (by rw [List.drop_of_length_le (by omega)]; simpa using states0))
    | succ d ih =>
      intro k hk
      have hlt : k < c.vars.length := by omega
      have hm := hs.vars _ (List.getElem_mem hlt)
      have next := ih (k + 1) (by omega)
      rw [List.drop_eq_getElem_cons hlt, List.all_cons]
      have g : c.d.fVars[Int.toNat (k : Int)]? = some (c.vars[k]).d.t := by rw [hlen]; exact getm hlt
      have hx : (c.vars[k]).fm = (pl (c.vars[k]).name && decide (-1000000000 ≤ (c.vars[k]).n) && decide ((c.vars[k]).n ≤ 1000000000)) := rfl
      refine l38_0 _ _ _ _ (cT (by rw [hlen]; simp; omega) ⟨(c.vars[k]).d, ⟨by omega, g⟩, pl (c.vars[k]).name, r111 (c.vars[k]).name hm, ?_⟩)
      cases hp : pl (c.vars[k]).name with
      | false => exact cT rfl (tbR (by rw [hx, hp]; simp))
      | true =>
        refine cF rfl ⟨(c.vars[k]).d, ⟨by omega, g⟩, cd (fun h => tbR ?_) (fun h => ⟨(c.vars[k]).d, ⟨by omega, g⟩, cd (fun h' => tbR ?_) (fun h' => ?_)⟩)⟩
        · have h : (c.vars[k]).n < -1000000000 := h
          rw [hx, hp, decide_eq_false (show ¬ -1000000000 ≤ (c.vars[k]).n by omega)]; simp
        · have h' : 1000000000 < (c.vars[k]).n := h'
          rw [hx, decide_eq_false (show ¬ (c.vars[k]).n ≤ 1000000000 by omega)]; simp
        · have h : ¬ (c.vars[k]).n < -1000000000 := h
          have h' : ¬ 1000000000 < (c.vars[k]).n := h'
          rw [hx, hp, decide_eq_true (show -1000000000 ≤ (c.vars[k]).n by omega), decide_eq_true (show (c.vars[k]).n ≤ 1000000000 by omega), wS (by omega)]
          simpa using next
  have vars0 := vars c.vars.length 0 (by omega)
  rw [List.drop_zero] at vars0
  refine f38 _ _ ⟨_, r111 c.name hs.name, ?_⟩
  unfold Ch.fm
  cases pl c.name with
  | false => exact cT rfl (by simp)
  | true =>
    refine cF rfl ⟨_, r112 c.version, ?_⟩
    cases num9 c.version with
    | false => exact cT rfl (by simp)
    | true => exact cF rfl (by simpa using vars0)
end Go.Proofs.YtfknpnkdedckhaaGreatDoorT

/- The text of a chart; how long it is. -/
namespace Go.Proofs.YtfknpnkdedckhaaGreatDoorT
open Go Go.Proofs
set_option linter.unusedVariables false
abbrev By := List UInt8
theorem bl_bs (l : By) : bl (bs l) = l := by simp [bl, bs]
theorem bs_bl (s : ByteArray) : bs (bl s) = s := by simp [bl, bs]
theorem len_bl (s : ByteArray) : (bl s).length = s.size := bl_len s
def tabs (d : Nat) : By := List.replicate d 9
/-- A line. -/
def ln (d : Nat) (l : By) : By := tabs d ++ (l ++ [10])
def Sg.tx (g : Sg) : By := [32, 115, 101, 116, 32] ++ (bl g.name ++ ([32, 61, 32] ++ bl g.to.txt))
def On.tx (o : On) : By := [111, 110, 32] ++ (bl o.event ++ ((if o.guard.has = true then [32, 105, 102, 32] ++ bl o.guard.txt else []) ++ ([32, 103, 111, 32] ++ (bl o.target ++ o.sets.flatMap Sg.tx))))
def Sb.head (b : Sb) : By := [115, 116, 97, 116, 101, 32] ++ (bl b.name ++ [32, 123])
def Sb.kd (b : Sb) (d : Nat) : By :=
  if b.all = true then ln d [97, 108, 108] else if b.en = true then ln d [101, 110, 100] else if b.do_ = bs [] then []
  else ln d ([100, 111, 32] ++ (bl b.do_ ++ ([32, 117, 110, 100, 111, 32] ++ (bl b.undo ++ ([32, 97, 116, 32] ++ (Lib.itoa b.where_ ++ ([32, 114, 101, 116, 114, 105, 101, 115, 32] ++ Lib.itoa b.retries)))))))
mutual
def Stt.tx : Stt → Nat → By
  | .mk b l, d => ln d b.head ++ (b.kd (d + 1) ++ (b.ons.flatMap (fun o => ln (d + 1) o.tx) ++ (Stt.txl l (d + 1) ++ ln d [125])))
def Stt.txl : List Stt → Nat → By
  | [], d => []
  | s :: r, d => s.tx d ++ Stt.txl r d
end
theorem txl_flat (d : Nat) : ∀ l : List Stt, Stt.txl l d = l.flatMap fun s => s.tx d
  | [] => rfl
  | s :: r => by rw [Stt.txl, txl_flat d r]; rfl
theorem tx_mk (b : Sb) (l : List Stt) (d : Nat) : (Stt.mk b l).tx d = ln d b.head ++ (b.kd (d + 1) ++ (b.ons.flatMap (fun o => ln (d + 1) o.tx) ++ ((l.flatMap fun s => s.tx (d + 1)) ++ ln d [125]))) := by rw [Stt.tx, txl_flat]
def Vr.tx (x : Vr) : By := [118, 97, 114, 32] ++ (bl x.name ++ ([32, 61, 32] ++ Lib.itoa x.n))
def Ch.head (c : Ch) : By := [99, 104, 97, 114, 116, 32] ++ (bl c.name ++ ([32] ++ (Lib.itoa c.version ++ [32, 123])))
def Ch.tx (c : Ch) : By := ln 0 c.head ++ (c.vars.flatMap (fun x => ln 1 x.tx) ++ ((c.states.flatMap fun s => s.tx 1) ++ ln 0 [125]))
/-! ### Lengths -/
theorem ln_len (d : Nat) (l : By) : (ln d l).length = d + l.length + 1 := by simp [ln, tabs]; omega
theorem pl_size {s : ByteArray} (h : pl s = true) : s.size ≤ 96 := by
  simp only [pl, Bool.and_eq_true] at h
  exact nm_size h.1
theorem rd_size {x : E} (h : rd x = true) : x.txt.size ≤ 4000 := by
  simp only [rd, Bool.and_eq_true] at h
  exact ok_size h.1
theorem itoa_len {n : Int} (h0 : -1000000000 ≤ n) (h1 : n ≤ 1000000000) : (Lib.itoa n).length ≤ 11 := by
  by_cases h : 0 ≤ n
  · obtain ⟨k, rfl⟩ : ∃ k : Nat, n = k := ⟨n.toNat, by omega⟩
    rw [Lib.itoa_nonneg]
    have := dec_len 9 k (by omega)
    omega
  · obtain ⟨k, hk⟩ : ∃ k : Nat, n = -(k : Int) := ⟨(-n).toNat, by omega⟩
    rw [hk, Lib.itoa_neg k (by omega), List.length_cons]
    have := dec_len 9 k (by omega)
    omega
theorem flat_len {α : Type} {f : α → By} {w : α → Nat} {K : Nat} : ∀ {l : List α}, (∀ a ∈ l, (f a).length ≤ K * w a) → (l.flatMap f).length ≤ K * (l.map w).sum
  | [], _ => by simp
  | a :: l, h => by
    have h1 := h a (.head _)
    have h2 := flat_len (l := l) fun b hb => h b (.tail _ hb)
    simp only [List.flatMap_cons, List.length_append, List.map_cons, List.sum_cons, Nat.mul_add]
    omega
theorem sg_len {g : Sg} (h : g.fm = true) : g.tx.length ≤ 4200 * 1 := by
  simp only [Sg.fm, Bool.and_eq_true] at h
  have h1 := pl_size h.1
  have h2 := rd_size h.2
  simp only [Sg.tx, List.length_append, len_bl, List.length_cons, List.length_nil]
  omega
theorem on_len {o : On} (h : o.fm = true) : o.tx.length ≤ 4300 * o.wt := by
  simp only [On.fm, Bool.and_eq_true, Bool.or_eq_true, Bool.not_eq_true', List.all_eq_true] at h
  have h1 := pl_size h.1.1.1
  have h2 := pl_size h.1.1.2
  have h3 := flat_len (f := Sg.tx) (w := fun _ => 1) (K := 4200) (l := o.sets) fun g hg => sg_len (h.2 g hg)
  have h4 : (o.sets.map fun _ => 1).sum = o.sets.length := by
    generalize o.sets = l
    induction l with
    | nil => rfl
    | cons a l ih => simp only [List.map_cons, List.sum_cons, List.length_cons, ih]; omega
  have hw : o.wt = 1 + o.sets.length := rfl
  have h5 : (if o.guard.has = true then [32, 105, 102, 32] ++ bl o.guard.txt else ([] : By)).length ≤ 4004 := by
    split
    · rename_i hh
      rcases h.1.2 with hg | hg
      · rw [hh] at hg; cases hg
      · have := rd_size hg
        simp [len_bl]; omega
    · simp
  simp only [On.tx, List.length_append, len_bl, List.length_cons, List.length_nil]
  omega
theorem num9_b {n : Int} (h : num9 n = true) : 0 ≤ n ∧ n ≤ 1000000000 := by
  simpa [num9] using h
theorem kd_len {b : Sb} (h : b.fm = true) (d : Nat) : (b.kd d).length ≤ d + 300 := by
  simp only [Sb.fm, Bool.and_eq_true, Bool.or_eq_true, Bool.not_eq_true'] at h
  unfold Sb.kd
  split
  · rw [ln_len]; simp
  · split
    · rw [ln_len]; simp
    · split
      · simp
      · rename_i h1 h2 h3
        have hs : b.step = true := by simp [Sb.step, h3]
        rcases h.1.2 with h4 | h4
        · rw [hs] at h4; cases h4
        · simp only [Sb.four, Bool.and_eq_true] at h4
          have q1 := pl_size h4.1.1.1
          have q2 := pl_size h4.1.1.2
          have q3 := num9_b h4.1.2
          have q4 := num9_b h4.2
          have q5 := itoa_len (n := b.where_) (by omega) q3.2
          have q6 := itoa_len (n := b.retries) (by omega) q4.2
          rw [ln_len]
          simp only [List.length_append, len_bl, List.length_cons, List.length_nil]
          omega
theorem stt_len : ∀ s : Stt, ∀ d : Nat, s.fm d = true → (s.tx d).length ≤ 5000 * s.wt := by
  refine Stt.rec_in fun b l ih d h => ?_
  rw [fm_mk] at h
  simp only [Bool.and_eq_true, decide_eq_true_eq, List.all_eq_true] at h
  obtain ⟨⟨hd, hb⟩, hl⟩ := h
  have hk := kd_len hb (d + 1)
  have hb' := hb
  simp only [Sb.fm, Bool.and_eq_true, List.all_eq_true] at hb'
  have hn := pl_size hb'.1.1.1
  have ho := flat_len (f := fun o : On => ln (d + 1) o.tx) (w := On.wt) (K := 4400) (l := b.ons) fun o hm => by
    have := on_len (hb'.2 o hm)
    have hw : o.wt = 1 + o.sets.length := rfl
    rw [ln_len]; omega
  have hi := flat_len (f := fun s : Stt => s.tx (d + 1)) (w := Stt.wt) (K := 5000) (l := l) fun s hm => ih s hm (d + 1) (hl s hm)
  rw [tx_mk, wt_mk]
  have e : onsWt b.ons = (b.ons.map On.wt).sum := rfl
  simp only [List.length_append, ln_len, Sb.head, len_bl, List.length_cons, List.length_nil]
  omega
theorem ch_len {c : Ch} (h : c.fm = true) (hl : Light c) : c.tx.length ≤ 3000000 := by
  simp only [Ch.fm, Bool.and_eq_true, List.all_eq_true] at h
  have h1 := pl_size h.1.1.1
  have h2 := num9_b h.1.1.2
  have h3 := itoa_len (n := c.version) (by omega) h2.2
  have hw := hl.wt
  have hv := hl.vars
  have hvs := flat_len (f := fun x : Vr => ln 1 x.tx) (w := fun _ => 1) (K := 200) (l := c.vars) fun x hm => by
    have hx := h.1.2 x hm
    simp only [Vr.fm, Bool.and_eq_true, decide_eq_true_eq] at hx
    have q1 := pl_size hx.1.1
    have q2 := itoa_len (n := x.n) hx.1.2 hx.2
    rw [ln_len]
    simp only [Vr.tx, List.length_append, len_bl, List.length_cons, List.length_nil]
    omega
  have h4 : (c.vars.map fun _ => 1).sum = c.vars.length := by
    generalize c.vars = l
    induction l with
    | nil => rfl
    | cons a l ih => simp only [List.map_cons, List.sum_cons, List.length_cons, ih]; omega
  have hss := flat_len (f := fun s : Stt => s.tx 1) (w := Stt.wt) (K := 5000) (l := c.states) fun s hm => stt_len s 1 (h.2 s hm)
  unfold Ch.tx Ch.head
  simp only [List.length_append, ln_len, len_bl, List.length_cons, List.length_nil]
  omega
end Go.Proofs.YtfknpnkdedckhaaGreatDoorT

/- The document's numbers and signs. -/
namespace Go.Proofs.YtfknpnkdedckhaaGreatDoorT
open Go Go.Proofs
set_option linter.unusedVariables false
theorem r276 (t : ByteArray) : Rn 276 [st t] (.tup [i64 ((numV t).getD 0), tb (numB t)], [.dead]) ∨ (numB t = false ∧ ∃ n, Rn 276 [st t] (.tup [i64 n, tb false], [.dead])) := by
  have hlen := bl_len t
  have none_case : numV t = none → numB t = false := fun h => by simp [numB, h]
  have toolong : 10 < t.size → numV t = none := by
    intro h
    unfold numV
    split
    · rename_i v hv
      rw [if_neg]
      rintro ⟨h1, h2⟩
      have := dec_len 9 v (by omega)
      rw [h2] at this
      omega
    · rfl
  have empty : t.size < 1 → numV t = none := by
    intro h
    unfold numV
    split
    · rename_i v hv
      rw [if_neg]
      rintro ⟨h1, h2⟩
      exact dec_ne v (by rw [h2]; exact List.eq_nil_of_length_eq_zero (by omega))
    · rfl
  have lead : bt t 0 = 48 → 1 < t.size → numV t = none := by
    intro h0 h1
    unfold numV
    split
    · rename_i v hv
      rw [if_neg]
      rintro ⟨h2, h3⟩
      have hv0 : 1 ≤ v := by
        rcases Nat.eq_zero_or_pos v with e | e
        · rw [e] at h3
          have : (Lib.decDigits 0).length = 1 := by rw [Lib.decDigits, dif_pos (by omega)]; rfl
          rw [h3] at this; omega
        · exact e
      refine dec_head v hv0 ?_
      rw [h3]
      exact UInt8.toNat_inj.1 (by rw [← bt_getD, h0]; rfl)
    · rfl
  by_cases hz : t.size < 1
  · have h0 := empty hz
    exact .inr ⟨none_case h0, 0, f276 _ _ (cT (by simp; omega) rfl)⟩
  by_cases hb : 10 < t.size
  · have h0 := toolong hb
    exact .inr ⟨none_case h0, 0, f276 _ _ (cF (by simp; omega) (cT (by simp; omega) rfl))⟩
  by_cases hl : bt t 0 = 48 ∧ 1 < t.size
  · have h0 := lead hl.1 hl.2
    exact .inr ⟨none_case h0, 0, f276 _ _ (cF (by simp; omega) (cF (by simp; omega) ⟨⟨by omega, by omega⟩, cT (by rw [byteAt_bt]; simp; omega) (cT (by simp; omega) rfl)⟩))⟩
  -- the digits
  have key : ∀ v, dgt 0 (bl t) = some v → v ≤ 1000000000 → numV t = some v := by
    intro v hv hle
    have hd : Lib.decDigits v = bl t := by
      refine dec_dgt _ (bl t) v rfl (fun e => by rw [e] at hlen; simp at hlen; omega) ?_ hv
      by_cases h1 : 1 < t.size
      · refine .inl (fun e => hl ⟨?_, h1⟩)
        rw [bt_getD, e]
        rfl
      · exact .inr (by omega)
    unfold numV
    rw [hv]
    simp only
    rw [if_pos ⟨hle, hd⟩]
  have loop : ∀ (f k a : Nat), t.size = k + f → a < 10 ^ k → dgt 0 (bl t) = dgt a ((bl t).drop k) →
      ∃ (n : Int) (b : Bool), L276_0 t (a : Int) (k : Int) (.tup [i64 n, tb b], [.dead]) ∧ ((b = true ∧ ∃ v : Nat, n = v ∧ numV t = some v) ∨ (b = false ∧ numV t = none)) := by
    intro f
    induction f with
    | zero =>
      intro k a hk ha hd
      refine ⟨a, decide (a ≤ 1000000000), l276_0 _ _ _ _ (cF (by simp; omega) ?_), ?_⟩
      · rw [show (decide ((a : Int) ≤ 1000000000)) = decide (a ≤ 1000000000) by apply Bool.eq_iff_iff.2; simp; omega]
      · rw [List.drop_of_length_le (by omega), dgt] at hd
        by_cases h9 : a ≤ 1000000000
        · exact .inl ⟨by simpa using h9, a, rfl, key a hd h9⟩
        · refine .inr ⟨by simpa using h9, ?_⟩
          unfold numV
          rw [hd]
          simp only
          rw [if_neg (by omega)]
    | succ f ih =>
      intro k a hk ha hd
      have hkn : k < t.size := by omega
      have hdrop : (bl t).drop k = (bl t)[k]'(by omega) :: (bl t).drop (k + 1) := List.drop_eq_getElem_cons (by omega)
      have hbt : ((bl t)[k]'(by omega)).toNat = bt t k := by rw [bt_getD, List.getD_eq_getElem?_getD, List.getElem?_eq_getElem (by omega)]; rfl
      rw [hdrop, dgt, hbt] at hd
      by_cases hdig : 48 ≤ bt t k ∧ bt t k ≤ 57
      · rw [if_pos hdig] at hd
        have hp : (10 : Nat) ^ (k + 1) = 10 ^ k * 10 := Nat.pow_succ ..
        have hb9 : (10 : Nat) ^ k ≤ 10 ^ 10 := Nat.pow_le_pow_right (by omega) (by omega)
        obtain ⟨n, b, hL, hr⟩ := ih (k + 1) (10 * a + (bt t k - 48)) (by omega) (by omega) hd
        refine ⟨n, b, l276_0 _ _ _ _ (cT (by simp; omega) ?_), hr⟩
        rw [toN, byteAt_bt]
        refine ⟨⟨by omega, by omega⟩, cF (by simp; omega) ⟨⟨by omega, by omega⟩, cF (by simp; omega) ⟨⟨by omega, by omega⟩, ?_⟩⟩⟩
        have e1 : IntKind.wrap .u8 (((bt t k : Nat) : Int) - 48) = ((bt t k - 48 : Nat) : Int) := by
          rw [IntKind.wrap_u8]; omega
        rw [e1, w64 (n := 10 * (a : Int)) (by omega), w64 (n := ((bt t k - 48 : Nat) : Int)) (by omega), w64 (by omega), wS (by omega), show (10 : Int) * (a : Int) + ((bt t k - 48 : Nat) : Int) = ((10 * a + (bt t k - 48) : Nat) : Int) by omega]
        exact hL
      · rw [if_neg hdig] at hd
        have hn : numV t = none := by unfold numV; rw [hd]
        refine ⟨0, false, l276_0 _ _ _ _ (cT (by simp; omega) ?_), .inr ⟨rfl, hn⟩⟩
        rw [toN, byteAt_bt]
        refine ⟨⟨by omega, by omega⟩, cd (fun _ => rfl) (fun h1 => ⟨⟨by omega, by omega⟩, cT (by simp; omega) rfl⟩)⟩
  obtain ⟨n, b, hL, hr⟩ := loop t.size 0 0 (by omega) (by decide) (by rw [List.drop_zero])
  have hR : Rn 276 [st t] (.tup [i64 n, tb b], [.dead]) := by
    refine f276 _ _ (cF (by simp; omega) (cF (by simp; omega) ⟨⟨by omega, by omega⟩, cd (fun h => cF (by rw [byteAt_bt] at h; simp; omega) ?_) (fun h => ?_)⟩))
    · exact hL
    · exact hL
  rcases hr with ⟨rfl, v, rfl, hv⟩ | ⟨rfl, hv⟩
  · left
    have : numB t = true := by simp [numB, hv]
    rw [this, hv]
    exact hR
  · exact .inr ⟨none_case hv, n, hR⟩
theorem r277 (t : ByteArray) (h0 : 0 < t.size) : Rn 277 [st t] (i64 (sgn t), [.dead]) := by
  refine f277 _ _ ?_
  simp only [byteAt_bt]
  refine cd (fun h1 => ⟨⟨by omega, by omega⟩, ?_⟩) (fun h1 => ⟨⟨by omega, by omega⟩, ?_⟩)
  · have h1 : 1 < t.size := by omega
    have e1 : t.extract 0 2 = bs [61, 61] ↔ bt t 0 = 61 ∧ bt t 1 = 61 := two_iff h1 (by decide) (by decide)
    have e2 : t.extract 0 2 = bs [33, 61] ↔ bt t 0 = 33 ∧ bt t 1 = 61 := two_iff h1 (by decide) (by decide)
    have e3 : t.extract 0 2 = bs [60, 61] ↔ bt t 0 = 60 ∧ bt t 1 = 61 := two_iff h1 (by decide) (by decide)
    have e4 : t.extract 0 2 = bs [38, 38] ↔ bt t 0 = 38 ∧ bt t 1 = 38 := two_iff h1 (by decide) (by decide)
    have e5 : t.extract 0 2 = bs [124, 124] ↔ bt t 0 = 124 ∧ bt t 1 = 124 := two_iff h1 (by decide) (by decide)
    simp only [e1, e2, e3, e4, e5]
    refine cd (fun h => ?_) (fun h2 => cd (fun h => ?_) (fun h3 => cd (fun h => ?_) (fun h4 => cd (fun h => ?_) (fun h5 => cd (fun h => ?_) (fun h6 => ⟨⟨by omega, by omega⟩, ?_⟩)))))
    · rw [show sgn t = 2 by unfold sgn; exact if_pos (by omega)]; rfl
    · rw [show sgn t = 2 by unfold sgn; exact if_pos (by omega)]; rfl
    · rw [show sgn t = 2 by unfold sgn; exact if_pos (by omega)]; rfl
    · rw [show sgn t = 2 by unfold sgn; exact if_pos (by omega)]; rfl
    · rw [show sgn t = 2 by unfold sgn; exact if_pos (by omega)]; rfl
    repeat' refine cd (fun h => ?_) (fun h => ?_)
    all_goals first
      | (rw [show sgn t = 1 by unfold sgn; rw [if_neg (by omega), if_pos (by omega)]]; rfl)
      | (rw [show sgn t = 0 by unfold sgn; rw [if_neg (by omega), if_neg (by omega)]]; rfl)
  · repeat' refine cd (fun h => ?_) (fun h => ?_)
    all_goals first
      | (rw [show sgn t = 1 by unfold sgn; rw [if_neg (by omega), if_pos (by omega)]]; rfl)
      | (rw [show sgn t = 0 by unfold sgn; rw [if_neg (by omega), if_neg (by omega)]]; rfl)
end Go.Proofs.YtfknpnkdedckhaaGreatDoorT

/- The document's words: its functions come to the words of a text. -/
namespace Go.Proofs.YtfknpnkdedckhaaGreatDoorT
open Go Go.Proofs
set_option linter.unusedVariables false
theorem r192 (t : ByteArray) (h0 : 0 < t.size) (hs : t.size ≤ 140737488355328) : Rn 192 [st t] (fstR (fst t), [.dead]) := by
  have hq := run_le (t := t) t.size 0 0 (by omega)
  have hm : t.size ≤ maxLen := Nat.le_trans hs maxLen_big
  have hx : (t.extract 0 (run t t.size 0 0).1).size = (run t t.size 0 0).1 := size_pre t hq.2.1
  refine f192 _ _ ⟨_, _, r191 t, _, _, r273 t hm, _, r274 _, ?_⟩
  rw [ltr_nxt, toN]
  refine cb (fun h => ⟨⟨by omega, by omega⟩, _, r202 _ (by omega), cb (fun h2 => ?_) (fun h2 => ?_)⟩) (fun h => ⟨_, r275 _, ?_⟩)
  · rw [fst, if_pos h, if_pos h2]; rfl
  · rw [fst, if_pos h, if_neg (by rw [h2]; simp)]; rfl
  · rw [dig_nxt]
    have hf : fst t = if dig (Lib.decodeGo t).1 = true then (if numB (t.extract 0 (run t t.size 0 0).1) = true then some (2, (run t t.size 0 0).1, (run t t.size 0 0).2) else none)
        else if sgn t = 0 then none else some (3, sgn t, sgn t) := by rw [fst, if_neg (by rw [h]; simp)]
    refine cb (fun h2 => ⟨⟨by omega, by omega⟩, ?_⟩) (fun h2 => ⟨_, r277 t h0, cd (fun h3 => ?_) (fun h3 => ?_)⟩)
    · obtain ⟨n, hn⟩ : ∃ n, Rn 276 [st (t.extract 0 (run t t.size 0 0).1)] (.tup [i64 n, tb (numB (t.extract 0 (run t t.size 0 0).1))], [.dead]) := by
        rcases r276 (t.extract 0 (run t t.size 0 0).1) with h | ⟨h, n, hn⟩
        · exact ⟨_, h⟩
        · exact ⟨n, by rw [h]; exact hn⟩
      refine ⟨_, _, hn, cb (fun h3 => ?_) (fun h3 => ?_)⟩
      · rw [hf, if_pos h2, if_pos h3]; rfl
      · rw [hf, if_pos h2, if_neg (by rw [h3]; simp)]; rfl
    · rw [hf, if_neg (by rw [h2]; simp), if_pos (by omega)]; rfl
    · rw [hf, if_neg (by rw [h2]; simp), if_neg (by omega)]; rfl
/-- A remark, as the document goes through it. -/
theorem r103_1 (s : ByteArray) (hs : s.size ≤ 12000) {l : List T} {w : W_api_Pos} {R : T × List T} {ln : Nat} : ∀ (f i col : Nat), s.size ≤ i + f → i ≤ s.size → col ≤ i + 1 → L103_0 (suf s (rem s f i 0).1) l w ⟨ln, (col + (rem s f i 0).2 : Nat)⟩ R → L103_1 (suf s i) l w ⟨ln, col⟩ R := by
  intro f
  induction f with
  | zero =>
    intro i col h h' hc hR
    refine l103_1 _ _ _ _ _ (cF (by rw [size_suf]; simp; omega) ?_)
    exact hR
  | succ f ih =>
    intro i col h h' hc hR
    have hz := size_suf s i
    refine l103_1 _ _ _ _ _ (cd (fun hn => ⟨⟨by omega, by omega⟩, ?_⟩) (fun hn => ?_))
    · have hn : i < s.size := by omega
      rw [byteAt_bt, bt_suf, Nat.add_zero]
      have hgo : Lib.decodeGo (suf s i) = Utf8.decode s i := by rw [dec_go, if_neg (by omega), dec_suf, Nat.add_zero]
      have hd := dec_size hn
      refine cdn (fun h10 => ⟨_, _, r191 _, ⟨by omega, by rw [hgo]; omega⟩, ?_⟩) (fun h10 => ?_)
      · rw [toN, hgo]
        have e : (suf s i).extract (Utf8.decode s i).2 (suf s i).size = suf s (i + (Utf8.decode s i).2) := suf_suf s i _
        rw [e, wS (by omega)]
        rw [rem, if_pos ⟨hn, by omega⟩, show (0 : Nat) + 1 = 0 + 1 from rfl, rem_off] at hR
        refine ih (i + (Utf8.decode s i).2) (col + 1) (by omega) (by omega) (by omega) ?_
        simp only at hR
        rw [show col + ((rem s f (i + (Utf8.decode s i).2) 0).2 + 1) = col + 1 + (rem s f (i + (Utf8.decode s i).2) 0).2 by omega] at hR
        exact hR
      · rw [rem_end (by omega)] at hR
        exact hR
    · rw [rem_end (by omega)] at hR
      exact hR
theorem r103_0 (s : ByteArray) (hs : s.size ≤ 12000) {w : W_api_Pos} : ∀ (d i ln col : Nat) (out : List W_glyph_Word), s.size ≤ i + d → i ≤ s.size → ln ≤ i + 1 → col ≤ i + 1 → out.length ≤ 3000 →
    L103_0 (suf s i) (out.map W_glyph_Word.t) w ⟨ln, col⟩ (res (lexR s i ln col out)) := by
  intro d
  induction d using Nat.strongRecOn with
  | _ d ih =>
    intro i ln col out h h' hl hc ho
    have hz := size_suf s i
    rw [lexR_eq]
    refine l103_0 _ _ _ _ _ (cd (fun hn => ⟨⟨by omega, by omega⟩, ?_⟩) (fun hn => ?_))
    · have hn : i < s.size := by omega
      rw [if_neg (by omega), byteAt_bt, bt_suf, Nat.add_zero]
      have e1 : (suf s i).extract 1 (suf s i).size = suf s (i + 1) := suf_suf s i 1
      refine cd (fun h1 => ⟨⟨by omega, by omega⟩, ?_⟩) (fun h1 => ?_)
      · rw [if_pos (by omega), e1, wS (by omega)]
        exact ih (d - 1) (by omega) (i + 1) (ln + 1) 1 out (by omega) (by omega) (by omega) (by omega) ho
      rw [if_neg (by omega)]
      refine cd (fun h2 => ⟨⟨by omega, by omega⟩, ?_⟩) (fun h2 => cd (fun h3 => ⟨⟨by omega, by omega⟩, ?_⟩) (fun h3 => ?_))
      · rw [if_pos (by omega), e1, wS (by omega)]
        exact ih (d - 1) (by omega) _ _ _ _ (by omega) (by omega) (by omega) (by omega) ho
      · rw [if_pos (by omega), e1, wS (by omega)]
        exact ih (d - 1) (by omega) _ _ _ _ (by omega) (by omega) (by omega) (by omega) ho
      rw [if_neg (by omega)]
      refine cd (fun h4 => ?_) (fun h4 => ?_)
      · rw [if_pos (by omega)]
        have hp := rem_pos hn (by omega)
        have hr := rem_le (s := s) s.size i 0 (by omega)
        exact r103_1 s hs s.size i col (by omega) (by omega) hc (ih (d - 1) (by omega) _ _ _ _ (by omega) (by omega) (by omega) (by omega) ho)
      rw [if_neg (by omega)]
      have h54 := r192 (suf s i) (by omega) (by omega)
      cases hf : fst (suf s i) with
      | none =>
        rw [hf] at h54
        exact ⟨0, 0, 0, h54, cT (by simp) rfl⟩
      | some q =>
        obtain ⟨k, n, r⟩ := q
        rw [hf] at h54
        obtain ⟨hst, hr1, hn1⟩ := fst_stp (by omega) hf
        have hle := hst.le
        have hk : k ≠ 0 := by
          unfold fst at hf
          repeat' split at hf
          all_goals simp only [Option.some.injEq, Prod.mk.injEq, reduceCtorEq] at hf
          all_goals omega
        refine ⟨k, n, r, h54, cF (by simp; omega) ?_⟩
        rw [len_map]
        simp only
        by_cases h3 : out.length = 3000
        · rw [if_pos h3]
          exact cT (by simp; omega) rfl
        rw [if_neg h3]
        refine cF (by simp; omega) ⟨⟨by omega, by omega⟩, ckn (by omega) ⟨⟨by omega, by omega⟩, ?_⟩⟩
        rw [toN, w64 (by omega)]
        have e2 : (suf s i).extract n (suf s i).size = suf s (i + n) := suf_suf s i n
        rw [e2]
        have := ih (d - 1) (by omega) (i + n) ln (col + r) (out ++ [wd k ((suf s i).extract 0 n) ln col]) (by omega) (by omega) (by omega) (by omega) (by simp; omega)
        rw [map_snoc] at this
        exact this
    · rw [if_pos (by omega)]
      rfl
theorem r103 (s : ByteArray) : Rn 103 [st s] (res (wordsOf s)) := by
  refine f103 _ _ (cd (fun h => ?_) (fun h => ?_))
  · rw [wordsOf, if_pos (by omega)]; rfl
  · rw [wordsOf, if_neg (by omega)]
    have := r103_0 s (by omega) (w := ⟨0, 0⟩) s.size 0 1 1 [] (by omega) (by omega) (by omega) (by omega) (by simp)
    rw [suf_zero] at this
    exact this
end Go.Proofs.YtfknpnkdedckhaaGreatDoorT

/- The text of a chart, by the document. -/
namespace Go.Proofs.YtfknpnkdedckhaaGreatDoorT
open Go Go.Proofs
set_option linter.unusedVariables false
theorem r190 {x : E} (hw : x.wf) (hr : rd x = true) : Rn 190 [.agg [i64 x.d.fKind, i64 x.d.fN, st x.d.fS, .sl 4 x.d.fParts]] (st x.txt, [.dead]) := by
  have h := r271 x hw
  have e : prt x = (x.txt, 0) := by
    have hr' : (x.ok && x.plain) = true := hr
    unfold prt; rw [hr']; rfl
  rw [e] at h
  exact f190 x.d _ ⟨_, _, h, rfl⟩
theorem rdE {x : E} (h : (!(x.has) || rd x) = true) (hx : x.has = true) : rd x = true := by
  rw [hx] at h; simpa using h
/-- Texts are the same, byte for byte. -/
theorem sb {a b : ByteArray} (h : bl a = bl b) : ((st a, [T.dead, .dead]) : T × List T) = (st b, [.dead, .dead]) := by rw [ext_bl h]
theorem sizeL (l : By) : (bs l).size = l.length := by rw [← bl_len, bl_bs]
/-- The sets of an on. -/
theorem sets102 {tabs in_ : ByteArray} {w : W_tumbrelref06_State} {o : On} (hs : o.sz) (hf : o.fm = true) (hl : o.sets.length ≤ 400) {n n1 : Int} {R : T × List T} :
    ∀ (d k : Nat) (out : ByteArray), k + d = o.sets.length → out.size + ((o.sets.drop k).flatMap Sg.tx).length ≤ 1000000000 →
      L102_0 tabs in_ (bs (bl out ++ ((o.sets.drop k).flatMap Sg.tx ++ [10]))) n (IntKind.wrap .i64 (n1 + 1)) w R →
      L102_1 tabs in_ out n n1 ((o.d.fSets.length : Nat) : Int) (k : Int) w o.d R := by
  have hsl : o.d.fSets = o.sets.map fun g => g.d.t := rfl
  simp only [On.fm, Bool.and_eq_true, List.all_eq_true] at hf
  intro d
  induction d with
  | zero =>
    intro k out hk hsz h
    refine l102_1 _ _ _ _ _ _ _ _ _ _ (cF (by rw [hsl]; simp; omega) ⟨by rw [size_bs]; simp; omega, ?_⟩)
    rw [List.drop_of_length_le (by omega)] at h
    have e : out ++ bs [10] = bs (bl out ++ (([] : List Sg).flatMap Sg.tx ++ [10])) := ext_bl (by rw [bl_append, bl_bs, bl_bs]; rfl)
    rw [e]; exact h
  | succ d ih =>
    intro k out hk hsz h
    have hlt : k < o.sets.length := by omega
    have hm := List.getElem_mem hlt
    have hg := hs.2.2.2 _ hm
    have hgf := hf.2 _ hm
    simp only [Sg.fm, Bool.and_eq_true] at hgf
    rw [List.drop_eq_getElem_cons hlt, List.flatMap_cons] at h hsz
    generalize hgk : o.sets[k] = g at hg hgf h hsz
    have gg : o.d.fSets[Int.toNat (k : Int)]? = some g.d.t := by rw [hsl, getm (f := fun g : Sg => g.d.t) hlt, hgk]
    simp only [List.length_append, Sg.tx, len_bl, List.length_cons, List.length_nil] at hsz
    have next := ih (k + 1) (out ++ bs [32, 115, 101, 116, 32] ++ g.name ++ bs [32, 61, 32] ++ g.to.txt) (by omega) (by simp only [size_append, size_bs, List.length_cons, List.length_nil]; omega)
    refine l102_1 _ _ _ _ _ _ _ _ _ _ (cT (by rw [hsl]; simp; omega) ⟨by simp only [size_bs, List.length_cons, List.length_nil]; omega, g.d, ⟨by omega, gg⟩, ?_, ?_, g.d, ⟨by omega, gg⟩, _, r190 hg.2 hgf.2, ?_, ?_⟩)
    · show (((_ : Nat) + g.name.size : Nat) : Int) ≤ _
      simp only [size_append, size_bs, List.length_cons, List.length_nil]; omega
    · show (((out ++ bs [32, 115, 101, 116, 32] ++ g.name).size + _ : Nat) : Int) ≤ _
      simp only [size_append, size_bs, List.length_cons, List.length_nil]; omega
    · show (((out ++ bs [32, 115, 101, 116, 32] ++ g.name ++ bs [32, 61, 32]).size + _ : Nat) : Int) ≤ _
      simp only [size_append, size_bs, List.length_cons, List.length_nil]; omega
    · rw [wS (by omega)]
      refine next ?_
      have e : bs (bl (out ++ bs [32, 115, 101, 116, 32] ++ g.name ++ bs [32, 61, 32] ++ g.to.txt) ++ ((o.sets.drop (k + 1)).flatMap Sg.tx ++ [10])) = bs (bl out ++ (g.tx ++ (o.sets.drop (k + 1)).flatMap Sg.tx ++ [10])) := by
        congr 1
        simp [bl_append, bl_bs, Sg.tx]
      rw [e]; exact h
/-- The ons of a state. -/
theorem ons102 {d0 : Nat} {b : Sb} {X : List T} (hs : ∀ o ∈ b.ons, o.sz) (hf : b.ons.all On.fm = true) (h4 : b.ons.length ≤ 400) (h4' : ∀ o ∈ b.ons, o.sets.length ≤ 400) {R : T × List T} :
    ∀ (d k : Nat) (out : ByteArray), k + d = b.ons.length → out.size + ((b.ons.drop k).flatMap fun o => ln (d0 + 1) o.tx).length ≤ 1000000000 →
      L102_2 (bs (tabs d0)) (bs (tabs (d0 + 1))) (bs (bl out ++ (b.ons.drop k).flatMap fun o => ln (d0 + 1) o.tx)) (((b.d X).fInner.length : Nat) : Int) 0 (b.d X) R →
      L102_0 (bs (tabs d0)) (bs (tabs (d0 + 1))) out (((b.d X).fOns.length : Nat) : Int) (k : Int) (b.d X) R := by
  have hsl : (b.d X).fOns = b.ons.map fun o => o.d.t := rfl
  rw [List.all_eq_true] at hf
  intro d
  induction d with
  | zero =>
    intro k out hk hsz h
    refine l102_0 _ _ _ _ _ _ _ (cF (by rw [hsl]; simp; omega) ?_)
    rw [List.drop_of_length_le (by omega)] at h
    simpa [bs_bl] using h
  | succ d ih =>
    intro k out hk hsz h
    have hlt : k < b.ons.length := by omega
    have hm := List.getElem_mem hlt
    have ho := hs _ hm
    have hof := hf _ hm
    have h400 := h4' _ hm
    rw [List.drop_eq_getElem_cons hlt, List.flatMap_cons] at h hsz
    generalize hok : b.ons[k] = o at ho hof h hsz h400
    generalize hrest : ((b.ons.drop (k + 1)).flatMap fun o => ln (d0 + 1) o.tx) = rest at h hsz
    have hof' := hof
    simp only [On.fm, Bool.and_eq_true] at hof'
    have gg : (b.d X).fOns[Int.toNat (k : Int)]? = some o.d.t := by rw [hsl, getm (f := fun o : On => o.d.t) hlt, hok]
    have ht : (tabs (d0 + 1)).length = d0 + 1 := by simp [tabs]
    simp only [List.length_append, ln_len, On.tx, len_bl, List.length_cons, List.length_nil] at hsz
    have hhas : o.d.fHas = o.guard.has := rfl
    have z1 : o.d.fEvent = o.event := rfl
    have z2 : o.d.fTarget = o.target := rfl
    refine l102_0 _ _ _ _ _ _ _ (cT (by rw [hsl]; simp; omega) ⟨o.d, ⟨by omega, gg⟩, by simp only [sizeL, ht]; omega, by simp only [size_append, size_bs, sizeL, ht, List.length_cons, List.length_nil]; omega, by simp only [z1, size_append, size_bs, sizeL, ht, List.length_cons, List.length_nil]; omega, ?_⟩)
    rw [hhas]
    cases hg : o.guard.has with
    | true =>
      rw [hg, if_pos rfl] at hsz
      simp only [List.length_append, len_bl, List.length_cons, List.length_nil] at hsz
      have hr := rdE hof'.1.2 hg
      refine cT rfl ⟨by simp only [z1, size_append, size_bs, sizeL, ht, List.length_cons, List.length_nil]; omega, _, r190 ho.2.2.1 hr, by simp only [z1, size_append, size_bs, sizeL, ht, List.length_cons, List.length_nil]; omega, by simp only [z1, size_append, size_bs, sizeL, ht, List.length_cons, List.length_nil]; omega, by simp only [z1, z2, size_append, size_bs, sizeL, ht, List.length_cons, List.length_nil]; omega, ?_⟩
      refine sets102 ho hof h400 o.sets.length 0 _ (by omega) ?_ ?_
      · rw [List.drop_zero]; simp only [z1, z2, size_append, size_bs, sizeL, ht, List.length_cons, List.length_nil]; omega
      · rw [List.drop_zero, wS (by omega)]
        refine ih (k + 1) _ (by omega) ?_ ?_ <;> rw [hrest]
        · simp only [sizeL, List.length_append, len_bl, z1, z2, size_append, size_bs, ht, List.length_cons, List.length_nil]; omega
        · have e : bs (bl (bs (bl (out ++ bs (tabs (d0 + 1)) ++ bs [111, 110, 32] ++ o.d.fEvent ++ bs [32, 105, 102, 32] ++ o.guard.txt ++ bs [32, 103, 111, 32] ++ o.d.fTarget) ++ (o.sets.flatMap Sg.tx ++ [10]))) ++ rest) =
              bs (bl out ++ (ln (d0 + 1) o.tx ++ rest)) := by
            congr 1
            simp [bl_append, bl_bs, ln, On.tx, hg, z1, z2]
          rw [e]; exact h
    | false =>
      rw [hg, if_neg (by simp)] at hsz
      simp only [List.length_append, len_bl, List.length_cons, List.length_nil] at hsz
      refine cF rfl ⟨by simp only [z1, size_append, size_bs, sizeL, ht, List.length_cons, List.length_nil]; omega, by simp only [z1, z2, size_append, size_bs, sizeL, ht, List.length_cons, List.length_nil]; omega, ?_⟩
      refine sets102 ho hof h400 o.sets.length 0 _ (by omega) ?_ ?_
      · rw [List.drop_zero]; simp only [z1, z2, size_append, size_bs, sizeL, ht, List.length_cons, List.length_nil]; omega
      · rw [List.drop_zero, wS (by omega)]
        refine ih (k + 1) _ (by omega) ?_ ?_ <;> rw [hrest]
        · simp only [sizeL, List.length_append, len_bl, z1, z2, size_append, size_bs, ht, List.length_cons, List.length_nil]; omega
        · have e : bs (bl (bs (bl (out ++ bs (tabs (d0 + 1)) ++ bs [111, 110, 32] ++ o.d.fEvent ++ bs [32, 103, 111, 32] ++ o.d.fTarget) ++ (o.sets.flatMap Sg.tx ++ [10]))) ++ rest) =
              bs (bl out ++ (ln (d0 + 1) o.tx ++ rest)) := by
            congr 1
            simp [bl_append, bl_bs, ln, On.tx, hg, z1, z2]
          rw [e]; exact h
end Go.Proofs.YtfknpnkdedckhaaGreatDoorT

/- More of the shelf's layings: Itoa, Repeat, Join, the builder. -/
namespace Go.Proofs
open Go Go.Shelf Go.Lib
def Tryz.laysItoa_ren : Go.Shelf.Ren := ⟨fun | 171 => 97 | 243 => 185 | 246 => 186 | 283 => 265 | 284 => 266 | 285 => 267 | 286 => 268 | 129 => 312 | 317 => 337 | 318 => 338 | 319 => 339 | 320 => 340 | 337 => 377 | 338 => 378 | n => n, fun | 3 => 3 | 9 => 9 | 2 => 2 | 4 => 4 | 171 => 407 | 0 => 0 | 53 => 408 | 37 => 211 | 5 => 5 | 173 => 411 | 212 => 479 | 51 => 453 | 20 => 20 | 213 => 480 | 46 => 359 | 232 => 519 | 233 => 520 | n => n, fun | 17 => 0 | 18 => 4 | 19 => 5 | n => n⟩
theorem Tryz.laysItoa : Go.Proofs.LaysM.n171 Tryz.prog Tryz.laysItoa_ren where
  mixed := by kernel_rfl
  f129 := Tryz.func312.trans (congrArg some (by kernel_rfl))
  f171 := Tryz.func97.trans (congrArg some (by kernel_rfl))
  f243 := Tryz.func185.trans (congrArg some (by kernel_rfl))
  f246 := Tryz.func186.trans (congrArg some (by kernel_rfl))
  f283 := Tryz.func265.trans (congrArg some (by kernel_rfl))
  f284 := Tryz.func266.trans (congrArg some (by kernel_rfl))
  f285 := Tryz.func267.trans (congrArg some (by kernel_rfl))
  f286 := Tryz.func268.trans (congrArg some (by kernel_rfl))
  f317 := Tryz.func337.trans (congrArg some (by kernel_rfl))
  f318 := Tryz.func338.trans (congrArg some (by kernel_rfl))
  f319 := Tryz.func339.trans (congrArg some (by kernel_rfl))
  f320 := Tryz.func340.trans (congrArg some (by kernel_rfl))
  f337 := Tryz.func377.trans (congrArg some (by kernel_rfl))
  f338 := Tryz.func378.trans (congrArg some (by kernel_rfl))
  t0 := Tryz.underlying0
  a0 := Tryz.isAgg0
  z0 := Tryz.sizeOf0
  v0 := Tryz.zeroValue0
  t2 := Tryz.underlying2
  a2 := Tryz.isAgg2
  z2 := Tryz.sizeOf2
  v2 := Tryz.zeroValue2
  t3 := Tryz.underlying3
  a3 := Tryz.isAgg3
  z3 := Tryz.sizeOf3
  v3 := Tryz.zeroValue3
  t4 := Tryz.underlying4
  a4 := Tryz.isAgg4
  z4 := Tryz.sizeOf4
  v4 := Tryz.zeroValue4
  t5 := Tryz.underlying5
  a5 := Tryz.isAgg5
  z5 := Tryz.sizeOf5
  v5 := Tryz.zeroValue5
  t9 := Tryz.underlying9
  a9 := Tryz.isAgg9
  z9 := Tryz.sizeOf9
  v9 := Tryz.zeroValue9
  t20 := Tryz.underlying20
  a20 := Tryz.isAgg20
  z20 := Tryz.sizeOf20
  v20 := Tryz.zeroValue20
  t37 := Tryz.underlying211
  a37 := Tryz.isAgg211
  z37 := Tryz.sizeOf211
  v37 := Tryz.zeroValue211
  t46 := Tryz.underlying359
  a46 := Tryz.isAgg359
  z46 := Tryz.sizeOf359
  v46 := Tryz.zeroValue359
  t51 := Tryz.underlying453
  a51 := Tryz.isAgg453
  z51 := Tryz.sizeOf453
  v51 := Tryz.zeroValue453
  t53 := Tryz.underlying408
  a53 := Tryz.isAgg408
  z53 := Tryz.sizeOf408
  v53 := Tryz.zeroValue408
  t171 := Tryz.underlying407
  a171 := Tryz.isAgg407
  z171 := Tryz.sizeOf407
  v171 := Tryz.zeroValue407
  t173 := Tryz.underlying411
  a173 := Tryz.isAgg411
  z173 := Tryz.sizeOf411
  v173 := Tryz.zeroValue411
  t212 := Tryz.underlying479
  a212 := Tryz.isAgg479
  z212 := Tryz.sizeOf479
  v212 := Tryz.zeroValue479
  t213 := Tryz.underlying480
  a213 := Tryz.isAgg480
  z213 := Tryz.sizeOf480
  t232 := Tryz.underlying519
  a232 := Tryz.isAgg519
  z232 := Tryz.sizeOf519
  v232 := Tryz.zeroValue519
  t233 := Tryz.underlying520
  a233 := Tryz.isAgg520
  z233 := Tryz.sizeOf520
  v233 := Tryz.zeroValue520
  g17 := by kernel_rfl
  g18 := by kernel_rfl
  g19 := by kernel_rfl
  i0 := by kernel_rfl
  i2 := by kernel_rfl
  i3 := by kernel_rfl
  i4 := by kernel_rfl
  i5 := by kernel_rfl
  i9 := by kernel_rfl
  i20 := by kernel_rfl
  i37 := by kernel_rfl
  i46 := by kernel_rfl
  i51 := by kernel_rfl
  i53 := by kernel_rfl
  i171 := by kernel_rfl
  i173 := by kernel_rfl
  i212 := by kernel_rfl
  i232 := by kernel_rfl
  i233 := by kernel_rfl
  m17 := by kernel_rfl
  m18 := by kernel_rfl
  m19 := by kernel_rfl
def Tryz.laysRepeat_ren : Go.Shelf.Ren := ⟨fun | 105 => 183 | 212 => 261 | 99 => 262 | 165 => 263 | 166 => 182 | 170 => 264 | 169 => 100 | 263 => 333 | 264 => 334 | 206 => 335 | 240 => 260 | 241 => 336 | 276 => 332 | 277 => 376 | n => n, fun | 9 => 9 | 3 => 3 | 4 => 4 | 20 => 20 | 0 => 0 | 46 => 359 | 109 => 402 | 5 => 5 | 72 => 213 | 76 => 315 | 51 => 453 | 146 => 473 | 53 => 408 | 148 => 475 | 70 => 210 | 37 => 211 | 75 => 314 | 127 => 320 | 164 => 471 | 80 => 220 | n => n, fun | n => n⟩
theorem Tryz.laysRepeat : Go.Proofs.Lays.n105 Tryz.prog Tryz.laysRepeat_ren where
  mixed := by kernel_rfl
  f99 := Tryz.func262.trans (congrArg some (by kernel_rfl))
  f105 := Tryz.func183.trans (congrArg some (by kernel_rfl))
  f165 := Tryz.func263.trans (congrArg some (by kernel_rfl))
  f166 := Tryz.func182.trans (congrArg some (by kernel_rfl))
  f169 := Tryz.func100.trans (congrArg some (by kernel_rfl))
  f170 := Tryz.func264.trans (congrArg some (by kernel_rfl))
  f206 := Tryz.func335.trans (congrArg some (by kernel_rfl))
  f212 := Tryz.func261.trans (congrArg some (by kernel_rfl))
  f240 := Tryz.func260.trans (congrArg some (by kernel_rfl))
  f241 := Tryz.func336.trans (congrArg some (by kernel_rfl))
  f263 := Tryz.func333.trans (congrArg some (by kernel_rfl))
  f264 := Tryz.func334.trans (congrArg some (by kernel_rfl))
  f276 := Tryz.func332.trans (congrArg some (by kernel_rfl))
  f277 := Tryz.func376.trans (congrArg some (by kernel_rfl))
  t0 := Tryz.underlying0
  a0 := Tryz.isAgg0
  z0 := Tryz.sizeOf0
  v0 := Tryz.zeroValue0
  t3 := Tryz.underlying3
  a3 := Tryz.isAgg3
  z3 := Tryz.sizeOf3
  v3 := Tryz.zeroValue3
  t4 := Tryz.underlying4
  a4 := Tryz.isAgg4
  z4 := Tryz.sizeOf4
  v4 := Tryz.zeroValue4
  t5 := Tryz.underlying5
  a5 := Tryz.isAgg5
  z5 := Tryz.sizeOf5
  v5 := Tryz.zeroValue5
  t9 := Tryz.underlying9
  a9 := Tryz.isAgg9
  z9 := Tryz.sizeOf9
  v9 := Tryz.zeroValue9
  t20 := Tryz.underlying20
  a20 := Tryz.isAgg20
  z20 := Tryz.sizeOf20
  v20 := Tryz.zeroValue20
  t37 := Tryz.underlying211
  a37 := Tryz.isAgg211
  z37 := Tryz.sizeOf211
  v37 := Tryz.zeroValue211
  t46 := Tryz.underlying359
  a46 := Tryz.isAgg359
  z46 := Tryz.sizeOf359
  v46 := Tryz.zeroValue359
  t51 := Tryz.underlying453
  a51 := Tryz.isAgg453
  z51 := Tryz.sizeOf453
  v51 := Tryz.zeroValue453
  t53 := Tryz.underlying408
  a53 := Tryz.isAgg408
  z53 := Tryz.sizeOf408
  v53 := Tryz.zeroValue408
  t70 := Tryz.underlying210
  a70 := Tryz.isAgg210
  z70 := Tryz.sizeOf210
  v70 := Tryz.zeroValue210
  t72 := Tryz.underlying213
  a72 := Tryz.isAgg213
  z72 := Tryz.sizeOf213
  v72 := Tryz.zeroValue213
  t75 := Tryz.underlying314
  a75 := Tryz.isAgg314
  z75 := Tryz.sizeOf314
  v75 := Tryz.zeroValue314
  t76 := Tryz.underlying315
  a76 := Tryz.isAgg315
  z76 := Tryz.sizeOf315
  v76 := Tryz.zeroValue315
  t109 := Tryz.underlying402
  a109 := Tryz.isAgg402
  z109 := Tryz.sizeOf402
  v109 := Tryz.zeroValue402
  t127 := Tryz.underlying320
  a127 := Tryz.isAgg320
  z127 := Tryz.sizeOf320
  v127 := Tryz.zeroValue320
  t146 := Tryz.underlying473
  a146 := Tryz.isAgg473
  z146 := Tryz.sizeOf473
  v146 := Tryz.zeroValue473
  t148 := Tryz.underlying475
  a148 := Tryz.isAgg475
  z148 := Tryz.sizeOf475
  v148 := Tryz.zeroValue475
  t164 := Tryz.underlying471
  a164 := Tryz.isAgg471
  z164 := Tryz.sizeOf471
  v164 := Tryz.zeroValue471
def Tryz.laysJoin_ren : Go.Shelf.Ren := ⟨fun | 156 => 184 | 165 => 263 | 166 => 182 | 169 => 100 | 240 => 260 | 241 => 336 | 276 => 332 | 277 => 376 | n => n, fun | 31 => 104 | 9 => 9 | 3 => 3 | 4 => 4 | 0 => 0 | 20 => 20 | 72 => 213 | 76 => 315 | 70 => 210 | 37 => 211 | 75 => 314 | 127 => 320 | 164 => 471 | 5 => 5 | 80 => 220 | n => n, fun | n => n⟩
theorem Tryz.laysJoin : Go.Proofs.Lays.n156 Tryz.prog Tryz.laysJoin_ren where
  mixed := by kernel_rfl
  f156 := Tryz.func184.trans (congrArg some (by kernel_rfl))
  f165 := Tryz.func263.trans (congrArg some (by kernel_rfl))
  f166 := Tryz.func182.trans (congrArg some (by kernel_rfl))
  f169 := Tryz.func100.trans (congrArg some (by kernel_rfl))
  f240 := Tryz.func260.trans (congrArg some (by kernel_rfl))
  f241 := Tryz.func336.trans (congrArg some (by kernel_rfl))
  f276 := Tryz.func332.trans (congrArg some (by kernel_rfl))
  f277 := Tryz.func376.trans (congrArg some (by kernel_rfl))
  t0 := Tryz.underlying0
  a0 := Tryz.isAgg0
  z0 := Tryz.sizeOf0
  v0 := Tryz.zeroValue0
  t3 := Tryz.underlying3
  a3 := Tryz.isAgg3
  z3 := Tryz.sizeOf3
  v3 := Tryz.zeroValue3
  t4 := Tryz.underlying4
  a4 := Tryz.isAgg4
  z4 := Tryz.sizeOf4
  v4 := Tryz.zeroValue4
  t9 := Tryz.underlying9
  a9 := Tryz.isAgg9
  z9 := Tryz.sizeOf9
  v9 := Tryz.zeroValue9
  t20 := Tryz.underlying20
  a20 := Tryz.isAgg20
  z20 := Tryz.sizeOf20
  v20 := Tryz.zeroValue20
  t31 := Tryz.underlying104
  a31 := Tryz.isAgg104
  z31 := Tryz.sizeOf104
  v31 := Tryz.zeroValue104
  t37 := Tryz.underlying211
  a37 := Tryz.isAgg211
  z37 := Tryz.sizeOf211
  v37 := Tryz.zeroValue211
  t70 := Tryz.underlying210
  a70 := Tryz.isAgg210
  z70 := Tryz.sizeOf210
  v70 := Tryz.zeroValue210
  t72 := Tryz.underlying213
  a72 := Tryz.isAgg213
  z72 := Tryz.sizeOf213
  v72 := Tryz.zeroValue213
  t75 := Tryz.underlying314
  a75 := Tryz.isAgg314
  z75 := Tryz.sizeOf314
  v75 := Tryz.zeroValue314
  t76 := Tryz.underlying315
  a76 := Tryz.isAgg315
  z76 := Tryz.sizeOf315
  v76 := Tryz.zeroValue315
  t127 := Tryz.underlying320
  a127 := Tryz.isAgg320
  z127 := Tryz.sizeOf320
  v127 := Tryz.zeroValue320
  t164 := Tryz.underlying471
  a164 := Tryz.isAgg471
  z164 := Tryz.sizeOf471
  v164 := Tryz.zeroValue471
def Tryz.laysBS_ren : Go.Shelf.Ren := ⟨fun | 169 => 100 | n => n, fun | 70 => 210 | 9 => 9 | 0 => 0 | 72 => 213 | 37 => 211 | 127 => 320 | 3 => 3 | 5 => 5 | n => n, fun | n => n⟩
theorem Tryz.laysBS : Go.Proofs.Lays.n169 Tryz.prog Tryz.laysBS_ren where
  mixed := by kernel_rfl
  f169 := Tryz.func100.trans (congrArg some (by kernel_rfl))
  t0 := Tryz.underlying0
  a0 := Tryz.isAgg0
  z0 := Tryz.sizeOf0
  v0 := Tryz.zeroValue0
  t3 := Tryz.underlying3
  a3 := Tryz.isAgg3
  z3 := Tryz.sizeOf3
  v3 := Tryz.zeroValue3
  t9 := Tryz.underlying9
  a9 := Tryz.isAgg9
  z9 := Tryz.sizeOf9
  v9 := Tryz.zeroValue9
  t37 := Tryz.underlying211
  a37 := Tryz.isAgg211
  z37 := Tryz.sizeOf211
  v37 := Tryz.zeroValue211
  t70 := Tryz.underlying210
  a70 := Tryz.isAgg210
  z70 := Tryz.sizeOf210
  v70 := Tryz.zeroValue210
  t72 := Tryz.underlying213
  a72 := Tryz.isAgg213
  z72 := Tryz.sizeOf213
  v72 := Tryz.zeroValue213
  t127 := Tryz.underlying320
  a127 := Tryz.isAgg320
  z127 := Tryz.sizeOf320
  v127 := Tryz.zeroValue320
end Go.Proofs
