/- A remark says nothing. -/
import Derived.Test.YthcaodlfnlhfbaaDoorG13
namespace Go.Proofs.YthcaodlfnlhfbaaDoorT
open Go Go.Proofs
set_option linter.unusedVariables false
theorem decN_ag {n n' b0 b1 b2 b3 c1 c2 c3 : Nat} (h : (b1 = 10 ∧ c1 = 10) ∨ (b1 = c1 ∧ 1 < n ∧ 1 < n' ∧ ((b2 = 10 ∧ c2 = 10) ∨ (b2 = c2 ∧ 2 < n ∧ 2 < n' ∧ ((b3 = 10 ∧ c3 = 10) ∨ (b3 = c3 ∧ 3 < n ∧ 3 < n')))))) :
    Lib.decodeN n b0 b1 b2 b3 = Lib.decodeN n' b0 c1 c2 c3 := by
  rcases h with ⟨rfl, rfl⟩ | ⟨rfl, h1, h2, ⟨rfl, rfl⟩ | ⟨rfl, h3, h4, ⟨rfl, rfl⟩ | ⟨rfl, h5, h6⟩⟩⟩
  · simp [Lib.decodeN]
  · simp [Lib.decodeN, h1, h2]
  · simp [Lib.decodeN, h1, h2, h3, h4]
  · simp [Lib.decodeN, h1, h2, h3, h4, h5, h6]
theorem decN_stay (n b0 b1 b2 b3 : Nat) : (Lib.decodeN n b0 b1 b2 b3).2 ≤ 4 ∧ (b1 = 10 → (Lib.decodeN n b0 b1 b2 b3).2 ≤ 1) ∧ (b2 = 10 → (Lib.decodeN n b0 b1 b2 b3).2 ≤ 2) ∧ (b3 = 10 → (Lib.decodeN n b0 b1 b2 b3).2 ≤ 3) := by
  unfold Lib.decodeN
  repeat' split
  all_goals (simp only; omega)
/-- Two texts that agree up to a line feed. -/
structure Ag (s t : ByteArray) (m : Nat) : Prop where
  ls : m < s.size
  lt : m < t.size
  nl : bt s m = 10
  eq : ∀ j, j ≤ m → bt s j = bt t j
section
variable {s t : ByteArray} {m : Nat}
theorem Ag.dec (h : Ag s t m) {i : Nat} (hi : i ≤ m) : Utf8.decode s i = Utf8.decode t i := by
  have h1 := h.ls
  have h2 := h.lt
  have hn := h.nl
  have hn' : bt t m = 10 := by rw [← h.eq m (Nat.le_refl _)]; exact hn
  rw [dec_eq, dec_eq, ← h.eq i hi]
  rcases Nat.lt_or_ge m (i + 1) with h3 | h3
  · have : i = m := by omega
    subst this
    rw [hn]
    simp [Lib.decodeN]
  refine decN_ag ?_
  rcases Nat.lt_or_ge m (i + 2) with h4 | h4
  · have : i + 1 = m := by omega
    subst this
    exact .inl ⟨hn, hn'⟩
  refine .inr ⟨h.eq _ (by omega), by omega, by omega, ?_⟩
  rcases Nat.lt_or_ge m (i + 3) with h5 | h5
  · have : i + 2 = m := by omega
    subst this
    exact .inl ⟨hn, hn'⟩
  refine .inr ⟨h.eq _ (by omega), by omega, by omega, ?_⟩
  exact .inr ⟨h.eq _ (by omega), by omega, by omega⟩
theorem dec_stay {i : Nat} (hi : i < m) (hn : bt s m = 10) : i + (Utf8.decode s i).2 ≤ m := by
  rw [dec_eq]
  obtain ⟨h1, h2, h3, h4⟩ := decN_stay (s.size - i) (bt s i) (bt s (i + 1)) (bt s (i + 2)) (bt s (i + 3))
  rcases Nat.lt_or_ge m (i + 2) with g | g
  · have : i + 1 = m := by omega
    subst this
    have := h2 hn; omega
  rcases Nat.lt_or_ge m (i + 3) with g' | g'
  · have : i + 2 = m := by omega
    subst this
    have := h3 hn; omega
  rcases Nat.lt_or_ge m (i + 4) with g2 | g2
  · have : i + 3 = m := by omega
    subst this
    have := h4 hn; omega
  omega
/-- A remark goes up to the next line feed. -/
theorem rem_to {q : Nat} (hq : q < s.size) (hn : bt s q = 10) : ∀ (d i f k : Nat), q ≤ i + d → i ≤ q → (∀ j, i ≤ j → j < q → bt s j ≠ 10) → s.size ≤ i + f → (rem s f i k).1 = q := by
  intro d
  induction d using Nat.strongRecOn with
  | _ d ih =>
    intro i f k h hi hj hf
    rcases Nat.lt_or_ge i q with g | g
    · obtain ⟨f, rfl⟩ : ∃ f', f = f' + 1 := ⟨f - 1, by omega⟩
      have hst := dec_stay (s := s) g hn
      have hz := dec_size (s := s) (i := i) (by omega)
      rw [rem, if_pos ⟨by omega, hj i (by omega) g⟩]
      exact ih (d - 1) (by omega) _ _ _ (by omega) (by omega) (fun j h1 h2 => hj j (by omega) h2) (by omega)
    · have : i = q := by omega
      subst this
      rw [rem_end (by omega)]
theorem Ag.rem (h : Ag s t m) : ∀ (d i f g k : Nat), m ≤ i + d → i ≤ m → s.size ≤ i + f → t.size ≤ i + g → rem s f i k = rem t g i k ∧ (rem s f i k).1 ≤ m := by
  have h1 := h.ls
  have h2 := h.lt
  intro d
  induction d using Nat.strongRecOn with
  | _ d ih =>
    intro i f g k hd hi hf hg
    have hb := h.eq i hi
    by_cases hc : bt s i = 10
    · rw [rem_end (by omega), rem_end (by omega)]
      exact ⟨rfl, hi⟩
    · have hlt : i < m := by
        rcases Nat.lt_or_ge i m with g | g
        · exact g
        · have : i = m := by omega
          subst this
          exact absurd h.nl hc
      obtain ⟨f, rfl⟩ : ∃ f', f = f' + 1 := ⟨f - 1, by omega⟩
      obtain ⟨g, rfl⟩ : ∃ g', g = g' + 1 := ⟨g - 1, by omega⟩
      have hst := dec_stay (s := s) hlt h.nl
      have hz := dec_size (s := s) (i := i) (by omega)
      have hdc := h.dec hi
      rw [Go.Proofs.YthcaodlfnlhfbaaDoorT.rem, Go.Proofs.YthcaodlfnlhfbaaDoorT.rem, if_pos ⟨by omega, hc⟩, if_pos ⟨by omega, by omega⟩, ← hdc]
      exact ih (d - 1) (by omega) _ _ _ _ (by omega) (by omega) (by omega) (by omega)
theorem Ag.run (h : Ag s t m) : ∀ (d i f g k : Nat), m ≤ i + d → i ≤ m → s.size ≤ i + f → t.size ≤ i + g → run s f i k = run t g i k ∧ (run s f i k).1 ≤ m := by
  have h1 := h.ls
  have h2 := h.lt
  intro d
  induction d using Nat.strongRecOn with
  | _ d ih =>
    intro i f g k hd hi hf hg
    have hdc := h.dec hi
    obtain ⟨f, rfl⟩ : ∃ f', f = f' + 1 := ⟨f - 1, by omega⟩
    obtain ⟨g, rfl⟩ : ∃ g', g = g' + 1 := ⟨g - 1, by omega⟩
    rw [Go.Proofs.YthcaodlfnlhfbaaDoorT.run, Go.Proofs.YthcaodlfnlhfbaaDoorT.run, ← hdc]
    by_cases hc : ins (Utf8.decode s i).1 = true
    · have hlt : i < m := by
        rcases Nat.lt_or_ge i m with g | g
        · exact g
        · have : i = m := by omega
          subst this
          rw [dec_low (by rw [h.nl]; omega), h.nl] at hc
          exact absurd hc (by decide)
      have hst := dec_stay (s := s) hlt h.nl
      have hz := dec_size (s := s) (i := i) (by omega)
      rw [if_pos ⟨by omega, hc⟩, if_pos ⟨by omega, hc⟩]
      exact ih (d - 1) (by omega) _ _ _ _ (by omega) (by omega) (by omega) (by omega)
    · rw [if_neg (fun h => hc h.2), if_neg (fun h => hc h.2)]
      exact ⟨rfl, hi⟩
theorem Ag.suf (h : Ag s t m) {i : Nat} (hi : i ≤ m) : Ag (suf s i) (suf t i) (m - i) := by
  have h1 := h.ls
  have h2 := h.lt
  refine ⟨by rw [size_suf]; omega, by rw [size_suf]; omega, ?_, fun j hj => ?_⟩
  · rw [bt_suf, show i + (m - i) = m by omega]; exact h.nl
  · rw [bt_suf, bt_suf]; exact h.eq _ (by omega)
theorem Ag.fst (h : Ag s t m) (hm : 0 < m) : fst s = fst t ∧ ∀ k n r, fst s = some (k, n, r) → n ≤ m ∧ t.extract 0 n = s.extract 0 n := by
  have h1 := h.ls
  have h2 := h.lt
  have hgo : Lib.decodeGo s = Utf8.decode s 0 := by rw [dec_go, if_neg (by omega)]
  have hgo' : Lib.decodeGo t = Utf8.decode t 0 := by rw [dec_go, if_neg (by omega)]
  have hd := h.dec (Nat.zero_le m)
  obtain ⟨hr, hle⟩ := h.run m 0 s.size t.size 0 (by omega) (by omega) (by omega) (by omega)
  have hx : ∀ n, n ≤ m → t.extract 0 n = s.extract 0 n := fun n hn => pre_of_bt (by omega) (by omega) (fun j hj => (h.eq j (by omega)).symm)
  have hb0 := h.eq 0 (by omega)
  have hb1 := h.eq 1 (by omega)
  have hsg : sgn s = sgn t := by
    unfold sgn
    rw [hb0, hb1]
    simp only [show (1 < s.size) = (1 < t.size) from propext ⟨fun _ => by omega, fun _ => by omega⟩]
  have hsm : sgn s ≤ m := by
    unfold sgn
    split
    · rename_i hc
      rcases Nat.lt_or_ge m 2 with g | g
      · have : m = 1 := by omega
        subst this
        have := h.nl
        omega
      · exact g
    · split <;> omega
  unfold Go.Proofs.YthcaodlfnlhfbaaDoorT.fst
  rw [hgo, hgo', ← hd, ← hr, ← hsg, hx _ hle]
  refine ⟨rfl, fun k n r hk => ?_⟩
  have : n ≤ m := by
    repeat' split at hk
    all_goals simp only [Option.some.injEq, Prod.mk.injEq, reduceCtorEq] at hk
    all_goals omega
  exact ⟨this, hx n this⟩
/-- Up to the line feed the same words; or both behind it. -/
theorem Ag.lex (h : Ag s t m) : ∀ (d i ln col : Nat) (out : List W_glyph_Word), m ≤ i + d → i ≤ m →
    lexR s i ln col out = lexR t i ln col out ∨ ∃ ln' out', lexR s i ln col out = lexR s (m + 1) ln' 1 out' ∧ lexR t i ln col out = lexR t (m + 1) ln' 1 out' := by
  have h1 := h.ls
  have h2 := h.lt
  intro d
  induction d using Nat.strongRecOn with
  | _ d ih =>
    intro i ln col out hd hi
    have hb := h.eq i hi
    rw [lexR_eq (s := s) (i := i), lexR_eq (s := t) (i := i), if_neg (show ¬ s.size ≤ i by omega), if_neg (show ¬ t.size ≤ i by omega), ← hb]
    by_cases h10 : bt s i = 10
    · rw [if_pos h10, if_pos h10]
      rcases Nat.lt_or_ge i m with g | g
      · exact ih (d - 1) (by omega) _ _ _ _ (by omega) (by omega)
      · have : i = m := by omega
        subst this
        exact .inr ⟨_, _, rfl, rfl⟩
    have hlt : i < m := by
      rcases Nat.lt_or_ge i m with g | g
      · exact g
      · have : i = m := by omega
        subst this
        exact absurd h.nl h10
    rw [if_neg h10, if_neg h10]
    by_cases hsp : bt s i = 32 ∨ bt s i = 9
    · rw [if_pos hsp, if_pos hsp]
      exact ih (d - 1) (by omega) _ _ _ _ (by omega) (by omega)
    rw [if_neg hsp, if_neg hsp]
    by_cases h35 : bt s i = 35
    · rw [if_pos h35, if_pos h35]
      obtain ⟨hr, hle⟩ := h.rem m i s.size t.size 0 (by omega) hi (by omega) (by omega)
      have hp := rem_pos (s := s) (i := i) (by omega) h10
      rw [← hr]
      exact ih (d - 1) (by omega) _ _ _ _ (by omega) hle
    rw [if_neg h35, if_neg h35]
    obtain ⟨hf, hn⟩ := (h.suf hi).fst (by omega)
    rw [← hf]
    cases hq : Go.Proofs.YthcaodlfnlhfbaaDoorT.fst (Go.Proofs.YthcaodlfnlhfbaaDoorT.suf s i) with
    | none => exact .inl rfl
    | some q =>
      obtain ⟨k, n, r⟩ := q
      obtain ⟨hst, hr1, hn1⟩ := fst_stp (by rw [size_suf]; omega) hq
      have hle := hst.le
      obtain ⟨hnm, hx⟩ := hn k n r hq
      simp only
      by_cases h3 : out.length = 3000
      · rw [if_pos h3, if_pos h3]; exact .inl rfl
      · rw [if_neg h3, if_neg h3, hx]
        exact ih (d - 1) (by omega) _ _ _ _ (by omega) (by omega)
end
theorem lex_err {s : ByteArray} : ∀ (d i ln col : Nat) (out : List W_glyph_Word), s.size ≤ i + d → i ≤ s.size → (lexR s i ln col out).2.2 ≠ 0 → (lexR s i ln col out).1 = [] := by
  intro d
  induction d using Nat.strongRecOn with
  | _ d ih =>
    intro i ln col out h hi
    rw [lexR_eq]
    split
    · exact fun h => absurd rfl h
    · rename_i h0
      split
      · exact ih (d - 1) (by omega) _ _ _ _ (by omega) (by omega)
      · rename_i h1
        split
        · exact ih (d - 1) (by omega) _ _ _ _ (by omega) (by omega)
        · split
          · have hp := rem_pos (s := s) (i := i) (by omega) h1
            have hr := rem_le (s := s) s.size i 0 hi
            exact ih (d - 1) (by omega) _ _ _ _ (by omega) (by omega)
          · split
            · exact fun _ => rfl
            · rename_i k n r hk
              obtain ⟨hst, hr1, hn1⟩ := fst_stp (by rw [size_suf]; omega) hk
              have hle := hst.le
              rw [size_suf] at hn1
              split
              · exact fun _ => rfl
              · exact ih (d - 1) (by omega) _ _ _ _ (by omega) (by omega)
theorem words_err (s : ByteArray) : (wordsOf s).2.2 ≠ 0 → (wordsOf s).1 = [] := by
  unfold wordsOf
  split
  · exact fun _ => rfl
  · exact lex_err s.size 0 1 1 [] (by omega) (by omega)
theorem LikeL.rfl' {xs : List W_glyph_Word} : LikeL False xs xs := ⟨rfl, fun k x y hx hy => by rw [hx] at hy; cases hy; exact ⟨rfl, rfl, fun h => h.elim⟩⟩
theorem remarks_like {s r u : ByteArray} (hs : s.size ≤ 3000) (hr : r.size ≤ 3000) (hu : u.size ≤ 3000) (hn : ∀ j, j < r.size → bt r j ≠ 10) :
    (wordsOf ((s ++ bs [10]) ++ u)).2.2 = (wordsOf ((((s ++ bs [10, 35]) ++ r) ++ bs [10]) ++ u)).2.2 ∧ LikeL False (wordsOf ((s ++ bs [10]) ++ u)).1 (wordsOf ((((s ++ bs [10, 35]) ++ r) ++ bs [10]) ++ u)).1 := by
  have la := bl_len s
  have lr := bl_len r
  have lu := bl_len u
  generalize hA : (s ++ bs [10]) ++ u = A
  generalize hB : (((s ++ bs [10, 35]) ++ r) ++ bs [10]) ++ u = B
  have bA : bl A = bl s ++ 10 :: bl u := by rw [← hA, bl_append, bl_append]; simp [bl, bs]
  have bB : bl B = bl s ++ 10 :: 35 :: (bl r ++ 10 :: bl u) := by rw [← hB, bl_append, bl_append, bl_append, bl_append]; simp [bl, bs]
  have zA : A.size = s.size + 1 + u.size := by rw [← bl_len, bA, List.length_append, List.length_cons]; omega
  have zB : B.size = s.size + 3 + r.size + u.size := by rw [← bl_len, bB, List.length_append, List.length_cons, List.length_cons, List.length_append, List.length_cons]; omega
  have gA : ∀ j, j < s.size → bt A j = bt s j := by
    intro j hj; unfold bt; rw [bA, List.getD_eq_getElem?_getD, List.getElem?_append, if_pos (by omega), ← List.getD_eq_getElem?_getD]
  have gB : ∀ j, j < s.size → bt B j = bt s j := by
    intro j hj; unfold bt; rw [bB, List.getD_eq_getElem?_getD, List.getElem?_append, if_pos (by omega), ← List.getD_eq_getElem?_getD]
  have sB : bl (suf B (s.size + 1)) = 35 :: (bl r ++ 10 :: bl u) := by
    rw [bl_suf, bB, List.drop_append, List.drop_eq_nil_of_le (by omega), la, show s.size + 1 - s.size = 1 by omega]; rfl
  have nA : bt A s.size = 10 := by
    unfold bt; rw [bA, List.getD_eq_getElem?_getD, List.getElem?_append, if_neg (by omega), la, Nat.sub_self]; rfl
  have nB : bt B s.size = 10 := by
    unfold bt; rw [bB, List.getD_eq_getElem?_getD, List.getElem?_append, if_neg (by omega), la, Nat.sub_self]; rfl
  have tB : ∀ j, bt B (s.size + 1 + j) = ((35 :: (bl r ++ 10 :: bl u)).getD j 0).toNat := by
    intro j; rw [← bt_suf]; unfold bt; rw [sB]
  have hag : Ag A B s.size := ⟨by omega, by omega, nA, fun j hj => by
    rcases Nat.lt_or_ge j s.size with g | g
    · rw [gA j g, gB j g]
    · have : j = s.size := by omega
      subst this
      rw [nA, nB]⟩
  have hA' : wordsOf A = lexR A 0 1 1 [] := by rw [wordsOf, if_neg (by omega)]
  have hB' : wordsOf B = lexR B 0 1 1 [] := by rw [wordsOf, if_neg (by omega)]
  rw [hA', hB']
  rcases hag.lex s.size 0 1 1 [] (by omega) (by omega) with h | ⟨ln', out', h1, h2⟩
  · rw [h]; exact ⟨rfl, LikeL.rfl'⟩
  · rw [h1, h2]
    have b35 : bt B (s.size + 1) = 35 := by have := tB 0; simpa using this
    have q10 : bt B (s.size + 2 + r.size) = 10 := by
      have := tB (r.size + 1)
      rw [show s.size + 1 + (r.size + 1) = s.size + 2 + r.size by omega, List.getD_cons_succ, List.getD_eq_getElem?_getD, List.getElem?_append, if_neg (by omega), lr, Nat.sub_self] at this
      simpa using this
    have mid : ∀ j, s.size + 1 ≤ j → j < s.size + 2 + r.size → bt B j ≠ 10 := by
      intro j h3 h4
      obtain ⟨e, rfl⟩ : ∃ e, j = s.size + 1 + e := ⟨j - (s.size + 1), by omega⟩
      rw [tB]
      cases e with
      | zero => simp
      | succ e =>
        rw [List.getD_cons_succ, List.getD_eq_getElem?_getD, List.getElem?_append, if_pos (by omega), ← List.getD_eq_getElem?_getD]
        exact hn e (by omega)
    have hrem := rem_to (s := B) (q := s.size + 2 + r.size) (by omega) q10 B.size (s.size + 1) B.size 0 (by omega) (by omega) mid (by omega)
    rw [lexR_eq (s := B), if_neg (by omega), if_neg (by omega), if_neg (by omega), if_pos b35, hrem, lexR_eq (s := B), if_neg (by omega), if_pos q10]
    have hsuf : suf A (s.size + 1) = suf B (s.size + 2 + r.size + 1) := by
      have l1 : bl (suf A (s.size + 1)) = bl u := by
        rw [bl_suf, bA, List.drop_append, List.drop_eq_nil_of_le (by omega), la, show s.size + 1 - s.size = 1 by omega]
        rfl
      have l2 : bl (suf B (s.size + 2 + r.size + 1)) = bl u := by
        rw [show s.size + 2 + r.size + 1 = s.size + 1 + (r.size + 2) by omega, ← suf_suf, bl_suf, sB, List.drop_succ_cons, List.drop_append, List.drop_eq_nil_of_le (by omega), lr, show r.size + 1 - r.size = 1 by omega]
        rfl
      exact ext_bl (by rw [l1, l2])
    obtain ⟨e1, e2, _⟩ := lex_like (P := False) (s := A) (t := B) A.size (s.size + 1) (s.size + 2 + r.size + 1) ln' (ln' + 1) 1 1 out' out' (by omega) hsuf (by omega) (by omega) (fun h => h.elim) LikeL.rfl'
    exact ⟨e1, e2⟩
end Go.Proofs.YthcaodlfnlhfbaaDoorT
