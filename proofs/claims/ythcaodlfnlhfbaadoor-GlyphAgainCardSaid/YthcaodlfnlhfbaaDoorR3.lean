/- GlyphAgain, GlyphRemarks: what the laws' functions come to. -/
import Derived.Test.YthcaodlfnlhfbaaDoorG14
namespace Go.Proofs.YthcaodlfnlhfbaaDoorT
open Go Go.Proofs
set_option linter.unusedVariables false
theorem cat_snoc (x : W_glyph_Word) : ∀ l : List W_glyph_Word, cat (l ++ [x]) = (cat l ++ x.fText) ++ bs [32]
  | [] => by refine ext_bl ?_; simp [cat, bl_append, bl, bs]
  | y :: l => by
    refine ext_bl ?_
    rw [List.cons_append, bl_cat_cons, cat_snoc x l, bl_append, bl_append, bl_append, bl_append, bl_cat_cons]
    simp
theorem same_loop3 {A B : List W_glyph_Word} (h : LikeL False A B) (hA : A.length ≤ 3000) : L3_1 (A.map W_glyph_Word.t) (B.map W_glyph_Word.t) (((B.map W_glyph_Word.t).length : Nat) : Int) 0 (tb true, [.dead]) := by
  have loop : ∀ (d k : Nat), k + d = A.length → L3_1 (A.map W_glyph_Word.t) (B.map W_glyph_Word.t) (((B.map W_glyph_Word.t).length : Nat) : Int) (k : Int) (tb true, [.dead]) := by
    intro d
    induction d with
    | zero => intro k hk; exact l3_1 _ _ _ _ _ (cF (by simp [← h.1]; omega) rfl)
    | succ d ih =>
      intro k hk
      have hlt : k < A.length := by omega
      have hlt' : k < B.length := by rw [← h.1]; exact hlt
      obtain ⟨x1, x2, _⟩ := h.2 k _ _ (List.getElem?_eq_getElem hlt) (List.getElem?_eq_getElem hlt')
      refine l3_1 _ _ _ _ _ (cT (by simp [← h.1]; omega) ⟨B[k], ⟨by omega, getm hlt'⟩, A[k], ⟨by omega, getm hlt⟩, cF (by simp [x1]) ⟨B[k], ⟨by omega, getm hlt'⟩, A[k], ⟨by omega, getm hlt⟩, cF (by simp [x2]) ?_⟩⟩)
      rw [wS (by omega)]
      exact ih (k + 1) (by omega)
  exact loop A.length 0 (by omega)
theorem same_loop4 {A B : List W_glyph_Word} (h : LikeL False A B) (hA : A.length ≤ 3000) : L4_1 (A.map W_glyph_Word.t) (B.map W_glyph_Word.t) (((A.map W_glyph_Word.t).length : Nat) : Int) 0 (tb true, [.dead, .dead, .dead]) := by
  have loop : ∀ (d k : Nat), k + d = A.length → L4_1 (A.map W_glyph_Word.t) (B.map W_glyph_Word.t) (((A.map W_glyph_Word.t).length : Nat) : Int) (k : Int) (tb true, [.dead, .dead, .dead]) := by
    intro d
    induction d with
    | zero => intro k hk; exact l4_1 _ _ _ _ _ (cF (by simp; omega) rfl)
    | succ d ih =>
      intro k hk
      have hlt : k < A.length := by omega
      have hlt' : k < B.length := by rw [← h.1]; exact hlt
      obtain ⟨x1, x2, _⟩ := h.2 k _ _ (List.getElem?_eq_getElem hlt) (List.getElem?_eq_getElem hlt')
      refine l4_1 _ _ _ _ _ (cT (by simp; omega) ⟨B[k], ⟨by omega, getm hlt'⟩, A[k], ⟨by omega, getm hlt⟩, cF (by simp [x1]) ⟨B[k], ⟨by omega, getm hlt'⟩, A[k], ⟨by omega, getm hlt⟩, cF (by simp [x2]) ?_⟩⟩)
      rw [wS (by omega)]
      exact ih (k + 1) (by omega)
  exact loop A.length 0 (by omega)
theorem glyphAgain_row (s : ByteArray) : Rn 3 [st s] (tb true, [.dead]) := by
  have h12 := r12 s
  have hwd := words_wd s
  have hln := words_len s
  have hnil : (wordsOf s).2.2 ≠ 0 → (wordsOf s).1 = [] := words_err s
  generalize wordsOf s = o at *
  unfold res at h12
  refine f3 _ _ ⟨_, r11, cF rfl ⟨_, ⟨_, _⟩, _, h12, cdn (fun hn => tbR ?_) (fun h0 => ?_)⟩⟩
  · rw [hnil (by simpa using hn)]; rfl
  have loop : ∀ (l pre : List W_glyph_Word), pre ++ l = o.1 → L3_0 (o.1.map W_glyph_Word.t) (cat pre) (((o.1.map W_glyph_Word.t).length : Nat) : Int) ((pre.length : Nat) : Int) (tb true, [.dead]) := by
    intro l
    induction l with
    | nil =>
      intro pre hp
      rw [List.append_nil] at hp
      subst hp
      have h12' := r12 (cat o.1)
      refine l3_0 _ _ _ _ _ (cF (by simp) ?_)
      by_cases hbig : 12000 < (cat o.1).size
      · have hw : wordsOf (cat o.1) = ([], (1, 1), 4) := by rw [wordsOf, if_pos hbig]
        rw [hw] at h12'
        exact ⟨_, ⟨_, _⟩, _, h12', cT (by simp; omega) (tbR (by simp))⟩
      · have hw : wordsOf (cat o.1) = lexR (cat o.1) 0 1 1 [] := by rw [wordsOf, if_neg hbig]
        obtain ⟨e1, e2⟩ := lex_again (T := cat o.1) o.1 0 1 1 [] [] (suf_zero _) (Nat.zero_le _) (fun x hx => (hwd x hx).1) (by simp; omega) .nil
        rw [← hw, List.nil_append] at e2
        rw [← hw] at e1
        unfold res at h12'
        refine ⟨_, ⟨_, _⟩, _, h12', cF (by simp; omega) (cF (by rw [e1]; rfl) (cF (by simp [e2.1]) (same_loop3 e2 hln)))⟩
    | cons x l ih =>
      intro pre hp
      have hsz : ∀ y ∈ pre, y.fText.size ≤ 12000 := fun y hy => (hwd y (by rw [← hp]; exact List.mem_append_left _ hy)).2
      have hx : x.fText.size ≤ 12000 := (hwd x (by rw [← hp]; exact List.mem_append_right _ (.head _))).2
      have hpl : pre.length < o.1.length := by rw [← hp]; simp
      have hc := cat_size pre hsz
      have hc' : (cat pre).size ≤ 12001 * 3000 := Nat.le_trans hc (Nat.mul_le_mul_left _ (by omega))
      have hg : (o.1.map W_glyph_Word.t)[Int.toNat ((pre.length : Nat) : Int)]? = some x.t := by rw [toN, List.getElem?_map, ← hp]; simp
      have hs1 : (cat pre ++ x.fText).size = (cat pre).size + x.fText.size := ByteArray.size_append
      have hs2 : (bs [32]).size = 1 := rfl
      have := ih (pre ++ [x]) (by rw [List.append_assoc]; exact hp)
      rw [cat_snoc, List.length_append] at this
      refine l3_0 _ _ _ _ _ (cT (by simp; omega) ⟨x, ⟨by omega, hg⟩, by omega, by omega, ?_⟩)
      rw [wS (by omega)]
      exact this
  exact loop o.1 [] rfl
theorem glyphRemarks_row (s r u : ByteArray) : Rn 4 [st s, st r, st u] (tb true, [.dead, .dead, .dead]) := by
  by_cases h1 : 3000 < s.size
  · exact f4 _ _ _ _ ⟨_, r11, cF rfl (cT (by simp; omega) ⟨_, r11, rfl⟩)⟩
  by_cases h2 : 3000 < u.size
  · exact f4 _ _ _ _ ⟨_, r11, cF rfl (cF (by simp; omega) (cT (by simp; omega) ⟨_, r11, rfl⟩))⟩
  by_cases h3 : 3000 < r.size
  · exact f4 _ _ _ _ ⟨_, r11, cF rfl (cF (by simp; omega) (cF (by simp; omega) (cT (by simp; omega) ⟨_, r11, rfl⟩)))⟩
  refine f4 _ _ _ _ ⟨_, r11, cF rfl (cF (by simp; omega) (cF (by simp; omega) (cF (by simp; omega) ?_)))⟩
  have loop : ∀ (d k : Nat), k + d = r.size → (∀ j, j < k → bt r j ≠ 10) → L4_0 s r u (k : Int) (tb true, [.dead, .dead, .dead]) := by
    intro d
    induction d with
    | zero =>
      intro k hk hj
      have hz1 : (s ++ bs [10]).size = s.size + 1 := ByteArray.size_append
      have hz2 : (s ++ bs [10, 35]).size = s.size + 2 := ByteArray.size_append
      have hz3 : ((s ++ bs [10, 35]) ++ r).size = s.size + 2 + r.size := by rw [ByteArray.size_append, hz2]
      have hz4 : (((s ++ bs [10, 35]) ++ r) ++ bs [10]).size = s.size + 2 + r.size + 1 := by rw [ByteArray.size_append, hz3]; rfl
      have hb1 : (bs [10]).size = 1 := rfl
      have hb2 : (bs [10, 35]).size = 2 := rfl
      obtain ⟨e1, e2⟩ := remarks_like (s := s) (r := r) (u := u) (by omega) (by omega) (by omega) (fun j h => hj j (by omega))
      have hA := r12 ((s ++ bs [10]) ++ u)
      have hB := r12 ((((s ++ bs [10, 35]) ++ r) ++ bs [10]) ++ u)
      have hl := words_len ((s ++ bs [10]) ++ u)
      unfold res at hA hB
      refine l4_0 _ _ _ _ _ (cF (by simp; omega) ⟨by omega, by omega, _, ⟨_, _⟩, _, hA, by omega, by omega, by omega, by omega, _, ⟨_, _⟩, _, hB, cF (by simp [e1]) (cF (by simp [e2.1]) (same_loop4 e2 hl))⟩)
    | succ d ih =>
      intro k hk hj
      refine l4_0 _ _ _ _ _ (cT (by simp; omega) ⟨⟨by omega, by omega⟩, cd (fun _ => rfl) (fun hn => ?_)⟩)
      rw [toN, byteAt_bt] at hn
      rw [wS (by omega)]
      refine ih (k + 1) (by omega) (fun j h => ?_)
      rcases Nat.lt_or_ge j k with g | g
      · exact hj j g
      · have : j = k := by omega
        subst this
        omega
  exact loop r.size 0 (by omega) (fun j h => by omega)
end Go.Proofs.YthcaodlfnlhfbaaDoorT
