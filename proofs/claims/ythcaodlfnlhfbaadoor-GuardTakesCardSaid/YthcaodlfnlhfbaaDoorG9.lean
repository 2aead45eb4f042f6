/- The words of a text: the program's function comes to them, too. -/
import Derived.Test.YthcaodlfnlhfbaaDoorG8
namespace Go.Proofs.YthcaodlfnlhfbaaDoorT
open Go Go.Proofs
set_option linter.unusedVariables false
/-- The place behind a rune. -/
def bh (a b n : Int) : W_api_Pos := if n = 10 then ⟨IntKind.wrap .i64 (a + 1), 1⟩ else ⟨a, IntKind.wrap .i64 (b + 1)⟩
theorem r38 (a b n : Int) : Rn 38 [.agg [i64 a, i64 b], i32 n] ((bh a b n).t, [.dead, .dead]) := by
  refine f38 ⟨a, b⟩ n _ (cd (fun h => ?_) (fun h => ?_))
  · rw [bh, if_pos h]; rfl
  · rw [bh, if_neg h]; rfl
/-- A rune that is looked at. -/
theorem step12 {w : W_api_Pos} {s s1 : ByteArray} {l l' : List T} {n n' : Int} {b b' : Bool} {n1 n2 e m1 m2 : Int} {pos : Nat} {R : T × List T} (h : pos < s1.size) (hb : ((Utf8.decode s1 pos).1 : Int) = 10 ∨ b = false)
    (h37 : Rn 37 [lx s l n false n1 n2, i64 pos, i32 (Utf8.decode s1 pos).1] (i64 e, [lx s l' n' b' m1 m2, .dead, .dead]))
    (he : e ≠ 0 → R = (.tup [.sl 4 [], .agg [i64 m1, i64 m2], i64 e], [.dead]))
    (hk : e = 0 → L12_0 w s l' n' b' (bh m1 m2 (Utf8.decode s1 pos).1).fLine (bh m1 m2 (Utf8.decode s1 pos).1).fCol s1 (pos + (Utf8.decode s1 pos).2) R) : L12_0 w s l n b n1 n2 s1 pos R := by
  have tail : cond (!(decide ((e : Int) = 0))) (R = (.tup [.sl 4 [], .agg [i64 m1, i64 m2], i64 e], [.dead]))
      (∃ w1 : W_api_Pos, Rn 38 [.agg [i64 m1, i64 m2], i32 (Utf8.decode s1 pos).1] (w1.t, [.dead, .dead]) ∧ L12_0 w s l' n' b' w1.fLine w1.fCol s1 (pos + (Utf8.decode s1 pos).2) R) :=
    cdn (fun h => he h) (fun h => ⟨_, r38 _ _ _, hk h⟩)
  refine l12_0 _ _ _ _ _ _ _ _ _ _ (cT (bleT h) (cd (fun h10 => ?_) (fun h10 => ?_)))
  · cases l' with
    | nil => exact .inl ⟨e, s, n', b', m1, m2, h37, tail⟩
    | cons y ys => exact .inr ⟨e, s, y, ys, n', b', m1, m2, h37, tail⟩
  · rcases hb with hb | rfl
    · exact absurd hb h10
    · cases l' with
      | nil => exact cT rfl (.inl ⟨e, s, n', b', m1, m2, h37, tail⟩)
      | cons y ys => exact cT rfl (.inr ⟨e, s, y, ys, n', b', m1, m2, h37, tail⟩)
/-- A rune of a remark. -/
theorem note12 {w : W_api_Pos} {s s1 : ByteArray} {l : List T} {n n1 n2 : Int} {pos : Nat} {R : T × List T} (h : pos < s1.size) (h10 : ((Utf8.decode s1 pos).1 : Int) ≠ 10)
    (hk : L12_0 w s l n true n1 (IntKind.wrap .i64 (n2 + 1)) s1 (pos + (Utf8.decode s1 pos).2) R) : L12_0 w s l n true n1 n2 s1 pos R := by
  refine l12_0 _ _ _ _ _ _ _ _ _ _ (cT (bleT h) (cF (by simpa using h10) (cF rfl ⟨_, r38 _ _ _, ?_⟩)))
  rw [bh, if_neg h10]
  exact hk
theorem r37_skip (s : ByteArray) (l : List T) (n : Int) (b : Bool) (n1 n2 : Int) (i r : Int) (h : i < n) : Rn 37 [lx s l n b n1 n2, i64 i, i32 r] (i64 0, [lx s l n b n1 n2, .dead, .dead]) :=
  f37 _ _ _ _ _ _ _ _ _ (cT (by simpa using h) rfl)
theorem r37_blank (s : ByteArray) (l : List T) (n : Int) (b : Bool) (n1 n2 : Int) (i r : Int) (h : r = 32 ∨ r = 9 ∨ r = 10) : Rn 37 [lx s l n b n1 n2, i64 i, i32 r] (i64 0, [lx s l n b n1 n2, .dead, .dead]) := by
  refine f37 _ _ _ _ _ _ _ _ _ (cd (fun _ => rfl) (fun _ => cd (fun _ => rfl) (fun h1 => cd (fun _ => rfl) (fun h2 => cd (fun _ => rfl) (fun h3 => absurd h (by omega))))))
theorem r37_note (s : ByteArray) (l : List T) (n : Int) (b : Bool) (n1 n2 : Int) (i : Int) (h : n ≤ i) : Rn 37 [lx s l n b n1 n2, i64 i, i32 35] (i64 0, [lx s l n true n1 n2, .dead, .dead]) := by
  refine f37 _ _ _ _ _ _ _ _ _ (cF (by simp; omega) (cF rfl (cF rfl (cF rfl (cT rfl rfl)))))
theorem mnC_snoc (l : List T) (x : T) : mnC 30 4 (l ++ [x]) = .cown 30 4 (l ++ [x]) := by cases l <;> rfl
theorem r37_word (s : ByteArray) (l : List T) (n : Int) (n1 n2 : Int) (i : Nat) (hi : i < s.size) (hs : s.size ≤ 140737488355328) (hn : n ≤ i) (hl : l.length ≤ 3000)
    (h32 : ((Utf8.decode s i).1 : Int) ≠ 32) (h9 : ((Utf8.decode s i).1 : Int) ≠ 9) (h10 : ((Utf8.decode s i).1 : Int) ≠ 10) (h35 : ((Utf8.decode s i).1 : Int) ≠ 35) :
    match fst (suf s i) with
    | none => Rn 37 [lx s l n false n1 n2, i64 i, i32 (Utf8.decode s i).1] (i64 11, [lx s l n false n1 n2, .dead, .dead])
    | some (k, m, r) => if l.length = 3000 then Rn 37 [lx s l n false n1 n2, i64 i, i32 (Utf8.decode s i).1] (i64 4, [lx s l n false n1 n2, .dead, .dead])
        else Rn 37 [lx s l n false n1 n2, i64 i, i32 (Utf8.decode s i).1] (i64 0, [lx s (l ++ [(wd k ((suf s i).extract 0 m) n1 n2).t]) ((i + m : Nat) : Int) false n1 n2, .dead, .dead]) := by
  obtain ⟨w, h59, hw⟩ := r59 s l n false n1 n2 i hi hs
  have hz := size_suf s i
  cases hf : fst (suf s i) with
  | none =>
    rw [hf] at h59
    exact f37 _ _ _ _ _ _ _ _ _ (cF (by simp; omega) (cF (by simpa using h32) (cF (by simpa using h9) (cF (by simpa using h10) (cF (by simpa using h35) ⟨_, _, h59, cT rfl rfl⟩)))))
  | some q =>
    obtain ⟨k, m, r⟩ := q
    rw [hf] at h59
    have hw := hw k m r hf
    obtain ⟨hst, hr1, hn1⟩ := fst_stp (by omega) hf
    have hx := size_pre (suf s i) hn1
    simp only
    split
    · rename_i h3
      exact f37 _ _ _ _ _ _ _ _ _ (cF (by simp; omega) (cF (by simpa using h32) (cF (by simpa using h9) (cF (by simpa using h10) (cF (by simpa using h35) ⟨_, _, h59, cF rfl (cT (by simp; omega) rfl)⟩)))))
    · rename_i h3
      refine f37 _ _ _ _ _ _ _ _ _ (cF (by simp; omega) (cF (by simpa using h32) (cF (by simpa using h9) (cF (by simpa using h10) (cF (by simpa using h35) ⟨_, _, h59, cF rfl (cF (by simp; omega) (ckn (by omega) ?_))⟩)))))
      subst hw
      have e : IntKind.wrap .i64 ((i : Int) + (((wd k ((suf s i).extract 0 m) n1 n2).fText.size : Nat) : Int)) = ((i + m : Nat) : Int) := by
        show IntKind.wrap .i64 ((i : Int) + ((((suf s i).extract 0 m).size : Nat) : Int)) = _
        rw [hx, w64 (by omega)]; omega
      rw [e, lx, mnC_snoc]
theorem Stp1.inv {s : ByteArray} {j m r : Nat} (h : Stp1 s j m r) (hr : 1 ≤ r) : ∃ r', r = r' + 1 ∧ (Utf8.decode s j).1 ≠ 10 ∧ Stp1 s (j + (Utf8.decode s j).2) m r' := by
  cases h with
  | nil => omega
  | cons h hn h' => exact ⟨_, rfl, hn, h'⟩
/-- Over the runes of a word. -/
theorem skip12 {w : W_api_Pos} {s : ByteArray} (hs : s.size ≤ 12000) {l : List T} {ln m : Nat} {R : T × List T} : ∀ {j r : Nat}, Stp1 s j m r → ∀ col : Nat, col ≤ j + 1 → m ≤ s.size → L12_0 w s l (m : Int) false ln ((col + r : Nat) : Int) s m R → L12_0 w s l (m : Int) false ln (col : Int) s j R := by
  intro j r h
  induction h with
  | nil j => intro col hc hm hR; exact hR
  | @cons j m r hj hn h' ih =>
    intro col hc hm hR
    have hz := dec_size hj
    have hle := h'.le
    refine step12 hj (.inr rfl) (r37_skip s l _ false ln col j _ (by omega)) (fun h => absurd rfl h) (fun _ => ?_)
    rw [bh, if_neg (by omega), wS (by omega)]
    exact ih (col + 1) (by omega) hm (by rw [show col + 1 + r = col + (r + 1) by omega]; exact hR)
theorem l12 (s : ByteArray) (hs : s.size ≤ 12000) {w : W_api_Pos} : ∀ (d i ln col skip : Nat) (out : List W_glyph_Word), s.size ≤ i + d → i ≤ s.size → ln ≤ i + 1 → col ≤ i + 1 → out.length ≤ 3000 → skip ≤ i →
    L12_0 w s (out.map W_glyph_Word.t) (skip : Int) false ln col s i (res (lexR s i ln col out)) := by
  intro d
  induction d using Nat.strongRecOn with
  | _ d ih =>
    intro i ln col skip out h h' hl hc ho hsk
    rw [lexR_eq]
    by_cases hi : s.size ≤ i
    · rw [if_pos hi]
      exact l12_0 _ _ _ _ _ _ _ _ _ _ (cF (bleF (by omega)) rfl)
    rw [if_neg hi]
    have hi : i < s.size := by omega
    have hz := dec_size hi
    -- a byte below 128
    have low : ∀ {c : Nat}, bt s i = c → c < 128 → Utf8.decode s i = (c, 1) := fun hc h => by rw [dec_low (by omega), hc]
    by_cases h10 : bt s i = 10
    · rw [if_pos h10]
      have hd := low h10 (by omega)
      refine step12 hi (.inr rfl) (r37_blank s _ _ false ln col i _ (by rw [hd]; simp)) (fun h => absurd rfl h) (fun _ => ?_)
      rw [hd, bh, if_pos (by simp), wS (by omega)]
      exact ih (d - 1) (by omega) (i + 1) (ln + 1) 1 skip out (by omega) (by omega) (by omega) (by omega) ho (by omega)
    rw [if_neg h10]
    by_cases hb : bt s i = 32 ∨ bt s i = 9
    · rw [if_pos hb]
      have hd : Utf8.decode s i = (bt s i, 1) := dec_low (by omega)
      refine step12 hi (.inr rfl) (r37_blank s _ _ false ln col i _ (by rw [hd]; simp only; omega)) (fun h => absurd rfl h) (fun _ => ?_)
      rw [hd, bh, if_neg (by simp only; omega), wS (by omega)]
      exact ih (d - 1) (by omega) (i + 1) ln (col + 1) skip out (by omega) (by omega) (by omega) (by omega) ho (by omega)
    rw [if_neg hb]
    by_cases h35 : bt s i = 35
    · rw [if_pos h35]
      have hd := low h35 (by omega)
      have hnote : Rn 37 [lx s (out.map W_glyph_Word.t) (skip : Int) false ln col, i64 i, i32 (Utf8.decode s i).1] (i64 0, [lx s (out.map W_glyph_Word.t) (skip : Int) true ln col, .dead, .dead]) := by
        rw [hd]; exact r37_note s _ _ false ln col i (by omega)
      refine step12 hi (.inr rfl) hnote (fun h => absurd rfl h) (fun _ => ?_)
      rw [hd, bh, if_neg (by simp), wS (by omega)]
      -- to the remark's end
      have rest : ∀ (f j c : Nat), s.size ≤ j + f → i < j → j ≤ s.size → c ≤ j + 1 → L12_0 w s (out.map W_glyph_Word.t) (skip : Int) true ln c s j (res (lexR s (rem s f j 0).1 ln (c + (rem s f j 0).2) out)) := by
        intro f
        induction f with
        | zero =>
          intro j c h1 h2 h3 h4
          rw [rem, lexR_eq, if_pos (by simp only; omega)]
          exact l12_0 _ _ _ _ _ _ _ _ _ _ (cF (bleF (by omega)) rfl)
        | succ f ihf =>
          intro j c h1 h2 h3 h4
          by_cases hj : j < s.size
          · have hzj := dec_size hj
            by_cases hj10 : bt s j = 10
            · rw [rem_end (by omega)]
              have hdj : Utf8.decode s j = (10, 1) := by rw [dec_low (by omega), hj10]
              rw [lexR_eq, if_neg (by simp only; omega), if_pos (by simp only; omega)]
              refine step12 hj (.inl (by rw [hdj]; rfl)) (r37_blank s _ _ false ln c j _ (by rw [hdj]; simp)) (fun h => absurd rfl h) (fun _ => ?_)
              rw [hdj, bh, if_pos (by simp), wS (by omega)]
              exact ih (d - 1) (by omega) (j + 1) (ln + 1) 1 skip out (by omega) (by omega) (by omega) (by omega) ho (by omega)
            · have hne : (Utf8.decode s j).1 ≠ 10 := fun e => hj10 ((dec_asc (by omega)).1 e)
              refine note12 hj (by omega) ?_
              rw [wS (by omega), rem, if_pos ⟨hj, hj10⟩, rem_off]
              have := ihf (j + (Utf8.decode s j).2) (c + 1) (by omega) (by omega) (by omega) (by omega)
              simp only
              rw [show c + ((rem s f (j + (Utf8.decode s j).2) 0).2 + 1) = c + 1 + (rem s f (j + (Utf8.decode s j).2) 0).2 by omega]
              exact this
          · rw [rem_end (by omega), lexR_eq, if_pos (by simp only; omega)]
            exact l12_0 _ _ _ _ _ _ _ _ _ _ (cF (bleF (by omega)) rfl)
      have hfin := rest s.size (i + 1) (col + 1) (by omega) (by omega) (by omega) (by omega)
      have hrem : rem s s.size i 0 = ((rem s s.size (i + 1) 0).1, (rem s s.size (i + 1) 0).2 + 1) := by
        rw [rem_more s.size (s.size + 1) i 0 (by omega) (by omega), rem, if_pos ⟨hi, h10⟩, hd, rem_off]
      rw [hrem]
      simp only
      rw [show col + ((rem s s.size (i + 1) 0).2 + 1) = col + 1 + (rem s s.size (i + 1) 0).2 by omega]
      exact hfin
    rw [if_neg h35]
    have ne : ∀ {c : Nat}, c < 128 → bt s i ≠ c → ((Utf8.decode s i).1 : Int) ≠ c := fun hc h e => h ((dec_asc hc).1 (by omega))
    have hw := r37_word s (out.map W_glyph_Word.t) (skip : Int) ln col i hi (by omega) (by omega) (by simpa using ho) (ne (c := 32) (by omega) (by omega)) (ne (c := 9) (by omega) (by omega)) (ne (c := 10) (by omega) (by omega)) (ne (c := 35) (by omega) (by omega))
    have hzs := size_suf s i
    cases hf : fst (suf s i) with
    | none =>
      rw [hf] at hw
      exact step12 hi (.inr rfl) hw (fun _ => rfl) (fun h => absurd h (by decide))
    | some q =>
      obtain ⟨k, m, r⟩ := q
      rw [hf] at hw
      obtain ⟨hst, hr1, hn1⟩ := fst_stp (by omega) hf
      have hst := hst.suf
      simp only [len_map] at hw
      simp only
      by_cases h3 : out.length = 3000
      · rw [if_pos h3] at hw
        rw [if_pos h3]
        exact step12 hi (.inr rfl) hw (fun _ => rfl) (fun h => absurd h (by decide))
      · rw [if_neg h3] at hw
        rw [if_neg h3]
        rw [Nat.add_zero] at hst
        have hle := hst.le
        obtain ⟨r', rfl, hn, h''⟩ := hst.inv hr1
        have hle' := h''.le
        refine step12 hi (.inr rfl) hw (fun h => absurd rfl h) (fun _ => ?_)
        rw [bh, if_neg (by omega), wS (by omega)]
        refine skip12 hs h'' (col + 1) (by omega) (by omega) ?_
        have := ih (d - 1) (by omega) (i + m) ln (col + (r' + 1)) (i + m) (out ++ [wd k ((suf s i).extract 0 m) ln col]) (by omega) (by omega) (by omega) (by omega) (by simp; omega) (by omega)
        rw [map_snoc] at this
        rw [show col + 1 + r' = col + (r' + 1) by omega]
        exact this
theorem r12 (s : ByteArray) : Rn 12 [st s] (res (wordsOf s)) := by
  refine f12 _ _ (cd (fun h => ?_) (fun h => ?_))
  · rw [wordsOf, if_pos (by omega)]; rfl
  · rw [wordsOf, if_neg (by omega)]
    exact l12 s (by omega) s.size 0 1 1 0 [] (by omega) (by omega) (by omega) (by omega) (by simp) (by omega)
end Go.Proofs.YthcaodlfnlhfbaaDoorT
