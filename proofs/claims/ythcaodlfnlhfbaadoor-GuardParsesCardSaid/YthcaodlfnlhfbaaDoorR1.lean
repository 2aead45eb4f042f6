/- The document's words: its functions come to the words of a text. -/
import Derived.Test.YthcaodlfnlhfbaaDoorX1
import Derived.Test.YthcaodlfnlhfbaaDoorG9
namespace Go.Proofs.YthcaodlfnlhfbaaDoorT
open Go Go.Proofs
set_option linter.unusedVariables false
/-- The rune that a text begins with, as the document has it: -1, if it is none. -/
def nxt (s : ByteArray) : Int := if (Lib.decodeGo s).1 = 65533 ∧ (Lib.decodeGo s).2 ≤ 1 then -1 else ((Lib.decodeGo s).1 : Int)
theorem r40 (s : ByteArray) : Rn 40 [st s] (.tup [i32 (nxt s), i64 (Lib.decodeGo s).2], [.dead]) := by
  refine f40 _ _ ⟨_, _, runs55 s, cd (fun h => cd (fun h' => ?_) (fun h' => ?_)) (fun h => ?_)⟩
  · rw [nxt, if_pos (by omega)]
  · rw [nxt, if_neg (by omega)]
  · rw [nxt, if_neg (by omega)]
theorem ins_nxt (s : ByteArray) : ins (nxt s) = ins (Lib.decodeGo s).1 := by
  unfold nxt
  split
  · rename_i h
    rw [h.1]; rfl
  · rfl
theorem ltr_nxt (s : ByteArray) : ltr (nxt s) = ltr (Lib.decodeGo s).1 := by
  unfold nxt
  split
  · rename_i h
    rw [h.1]; rfl
  · rfl
theorem dig_nxt (s : ByteArray) : dig (nxt s) = dig (Lib.decodeGo s).1 := by
  unfold nxt
  split
  · rename_i h
    rw [h.1]; rfl
  · rfl
/-- The document's run. -/
theorem r41 (t : ByteArray) (hs : t.size ≤ maxLen) : Rn 41 [st t] (.tup [i64 (run t t.size 0 0).1, i64 (run t t.size 0 0).2], [.dead]) := by
  have hm := Nat.le_trans hs maxLen_lt
  have loop : ∀ (f n k : Nat), t.size ≤ n + f → n ≤ t.size → k ≤ n → L41_0 t (n : Int) (k : Int) (.tup [i64 (run t f n k).1, i64 (run t f n k).2], [.dead]) := by
    intro f
    induction f with
    | zero => intro n k h h' hk; exact l41_0 _ _ _ _ (cF (by simp; omega) (by rw [run]))
    | succ f ih =>
      intro n k h h' hk
      refine l41_0 _ _ _ _ (cd (fun h1 => ?_) (fun h1 => ?_))
      · have hn : n < t.size := by omega
        refine ⟨⟨by omega, by omega⟩, nxt (suf t n), (Lib.decodeGo (suf t n)).2, ?_, ins (nxt (suf t n)), r61 _, ?_⟩
        · rw [toN]; exact r40 _
        have hd : Lib.decodeGo (suf t n) = Utf8.decode t n := by
          rw [dec_go, if_neg (by rw [size_suf]; omega), dec_suf, Nat.add_zero]
        rw [ins_nxt, hd]
        have hz := dec_size hn
        refine cb (fun h2 => ?_) (fun h2 => ?_)
        · rw [run, if_neg (by simp at h2; simp [h2])]
        · have h2 : ins (Utf8.decode t n).1 = true := by simpa using h2
          rw [run, if_pos ⟨hn, h2⟩, w64 (by omega), wS (by omega), show (n : Int) + ((Utf8.decode t n).2 : Int) = ((n + (Utf8.decode t n).2 : Nat) : Int) by omega]
          exact ih _ _ (by omega) (by omega) (by omega)
      · rw [run_end _ _ _ (by omega)]
  exact f41 _ _ (loop t.size 0 0 (by omega) (by omega) (by omega))
theorem r14 (t : ByteArray) (hs : t.size ≤ maxLen) : Rn 14 [st t] (tb (nm t), [.dead]) := by
  refine f14 _ _ ⟨_, _, r40 t, _, _, r41 t hs, _, r16 _, ?_⟩
  rw [ltr_nxt]
  refine cb (fun h => cd (fun h' => tbR ?_) (fun h' => tbR ?_)) (fun h => tbR ?_)
  · simp [nm, h, show (run t t.size 0 0).1 = t.size by omega]; omega
  · simp [nm, show ¬ (run t t.size 0 0).1 = t.size by omega]
  · simp [nm, h]
theorem r54 (t : ByteArray) (h0 : 0 < t.size) (hs : t.size ≤ 140737488355328) : Rn 54 [st t] (fstR (fst t), [.dead]) := by
  have hq := run_le (t := t) t.size 0 0 (by omega)
  have hm : t.size ≤ maxLen := Nat.le_trans hs maxLen_big
  have hx : (t.extract 0 (run t t.size 0 0).1).size = (run t t.size 0 0).1 := size_pre t hq.2.1
  refine f54 _ _ ⟨_, _, r40 t, _, _, r41 t hm, _, r16 _, ?_⟩
  rw [ltr_nxt, toN]
  refine cb (fun h => ⟨⟨by omega, by omega⟩, _, r14 _ (by omega), cb (fun h2 => ?_) (fun h2 => ?_)⟩) (fun h => ⟨_, r77 _, ?_⟩)
  · rw [fst, if_pos h, if_pos h2]; rfl
  · rw [fst, if_pos h, if_neg (by rw [h2]; simp)]; rfl
  · rw [dig_nxt]
    have hf : fst t = if dig (Lib.decodeGo t).1 = true then (if numB (t.extract 0 (run t t.size 0 0).1) = true then some (2, (run t t.size 0 0).1, (run t t.size 0 0).2) else none)
        else if sgn t = 0 then none else some (3, sgn t, sgn t) := by rw [fst, if_neg (by rw [h]; simp)]
    refine cb (fun h2 => ⟨⟨by omega, by omega⟩, ?_⟩) (fun h2 => ⟨_, r79 t h0, cd (fun h3 => ?_) (fun h3 => ?_)⟩)
    · obtain ⟨n, hn⟩ : ∃ n, Rn 78 [st (t.extract 0 (run t t.size 0 0).1)] (.tup [i64 n, tb (numB (t.extract 0 (run t t.size 0 0).1))], [.dead]) := by
        rcases r78 (t.extract 0 (run t t.size 0 0).1) with h | ⟨h, n, hn⟩
        · exact ⟨_, h⟩
        · exact ⟨n, by rw [h]; exact hn⟩
      refine ⟨_, _, hn, cb (fun h3 => ?_) (fun h3 => ?_)⟩
      · rw [hf, if_pos h2, if_pos h3]; rfl
      · rw [hf, if_pos h2, if_neg (by rw [h3]; simp)]; rfl
    · rw [hf, if_neg (by rw [h2]; simp), if_pos (by omega)]; rfl
    · rw [hf, if_neg (by rw [h2]; simp), if_neg (by omega)]; rfl
/-- A remark, as the document goes through it. -/
theorem r25_1 (s : ByteArray) (hs : s.size ≤ 12000) {l : List T} {w : W_api_Pos} {R : T × List T} {ln : Nat} : ∀ (f i col : Nat), s.size ≤ i + f → i ≤ s.size → col ≤ i + 1 → L25_0 (suf s (rem s f i 0).1) l w ⟨ln, (col + (rem s f i 0).2 : Nat)⟩ R → L25_1 (suf s i) l w ⟨ln, col⟩ R := by
  intro f
  induction f with
  | zero =>
    intro i col h h' hc hR
    refine l25_1 _ _ _ _ _ (cF (by rw [size_suf]; simp; omega) ?_)
    exact hR
  | succ f ih =>
    intro i col h h' hc hR
    have hz := size_suf s i
    refine l25_1 _ _ _ _ _ (cd (fun hn => ⟨⟨by omega, by omega⟩, ?_⟩) (fun hn => ?_))
    · have hn : i < s.size := by omega
      rw [byteAt_bt, bt_suf, Nat.add_zero]
      have hgo : Lib.decodeGo (suf s i) = Utf8.decode s i := by rw [dec_go, if_neg (by omega), dec_suf, Nat.add_zero]
      have hd := dec_size hn
      refine cdn (fun h10 => ⟨_, _, r40 _, ⟨by omega, by rw [hgo]; omega⟩, ?_⟩) (fun h10 => ?_)
      · rw [toN, hgo]
        have e : (suf s i).extract (Utf8.decode s i).2 (suf s i).size = suf s (i + (Utf8.decode s i).2) := suf_suf s i _
        rw [e, wS (by omega)]
        rw [rem, if_pos ⟨hn, by omega⟩, show (0 : Nat) + 1 = 0 + 1 from rfl, rem_off] at hR
        refine ih (i + (Utf8.decode s i).2) (col + 1) (by omega) (by omega) (by omega) ?_
        simp only at hR
        rw [show col + ((rem s f (i + (Utf8.decode s i).2) 0).2 + 1) = col + 1 + (rem s f (i + (Utf8.decode s i).2) 0).2 by omega] at hR
        exact hR
      · rw [rem_end (by omega)] at hR
        exact hR
    · rw [rem_end (by omega)] at hR
      exact hR
theorem r25_0 (s : ByteArray) (hs : s.size ≤ 12000) {w : W_api_Pos} : ∀ (d i ln col : Nat) (out : List W_glyph_Word), s.size ≤ i + d → i ≤ s.size → ln ≤ i + 1 → col ≤ i + 1 → out.length ≤ 3000 →
    L25_0 (suf s i) (out.map W_glyph_Word.t) w ⟨ln, col⟩ (res (lexR s i ln col out)) := by
  intro d
  induction d using Nat.strongRecOn with
  | _ d ih =>
    intro i ln col out h h' hl hc ho
    have hz := size_suf s i
    rw [lexR_eq]
    refine l25_0 _ _ _ _ _ (cd (fun hn => ⟨⟨by omega, by omega⟩, ?_⟩) (fun hn => ?_))
    · have hn : i < s.size := by omega
      rw [if_neg (by omega), byteAt_bt, bt_suf, Nat.add_zero]
      have e1 : (suf s i).extract 1 (suf s i).size = suf s (i + 1) := suf_suf s i 1
      refine cd (fun h1 => ⟨⟨by omega, by omega⟩, ?_⟩) (fun h1 => ?_)
      · rw [if_pos (by omega), e1, wS (by omega)]
        exact ih (d - 1) (by omega) (i + 1) (ln + 1) 1 out (by omega) (by omega) (by omega) (by omega) ho
      rw [if_neg (by omega)]
      refine cd (fun h2 => ⟨⟨by omega, by omega⟩, ?_⟩) (fun h2 => cd (fun h3 => ⟨⟨by omega, by omega⟩, ?_⟩) (fun h3 => ?_))
      · rw [if_pos (by omega), e1, wS (by omega)]
        exact ih (d - 1) (by omega) _ _ _ _ (by omega) (by omega) (by omega) (by omega) ho
      · rw [if_pos (by omega), e1, wS (by omega)]
        exact ih (d - 1) (by omega) _ _ _ _ (by omega) (by omega) (by omega) (by omega) ho
      rw [if_neg (by omega)]
      refine cd (fun h4 => ?_) (fun h4 => ?_)
      · rw [if_pos (by omega)]
        have hp := rem_pos hn (by omega)
        have hr := rem_le (s := s) s.size i 0 (by omega)
        exact r25_1 s hs s.size i col (by omega) (by omega) hc (ih (d - 1) (by omega) _ _ _ _ (by omega) (by omega) (by omega) (by omega) ho)
      rw [if_neg (by omega)]
      have h54 := r54 (suf s i) (by omega) (by omega)
      cases hf : fst (suf s i) with
      | none =>
        rw [hf] at h54
        exact ⟨0, 0, 0, h54, cT (by simp) rfl⟩
      | some q =>
        obtain ⟨k, n, r⟩ := q
        rw [hf] at h54
        obtain ⟨hst, hr1, hn1⟩ := fst_stp (by omega) hf
        have hle := hst.le
        have hk : k ≠ 0 := by
          unfold fst at hf
          repeat' split at hf
          all_goals simp only [Option.some.injEq, Prod.mk.injEq, reduceCtorEq] at hf
          all_goals omega
        refine ⟨k, n, r, h54, cF (by simp; omega) ?_⟩
        rw [len_map]
        simp only
        by_cases h3 : out.length = 3000
        · rw [if_pos h3]
          exact cT (by simp; omega) rfl
        rw [if_neg h3]
        refine cF (by simp; omega) ⟨⟨by omega, by omega⟩, ckn (by omega) ⟨⟨by omega, by omega⟩, ?_⟩⟩
        rw [toN, w64 (by omega)]
        have e2 : (suf s i).extract n (suf s i).size = suf s (i + n) := suf_suf s i n
        rw [e2]
        have := ih (d - 1) (by omega) (i + n) ln (col + r) (out ++ [wd k ((suf s i).extract 0 n) ln col]) (by omega) (by omega) (by omega) (by omega) (by simp; omega)
        rw [map_snoc] at this
        exact this
    · rw [if_pos (by omega)]
      rfl
theorem r25 (s : ByteArray) : Rn 25 [st s] (res (wordsOf s)) := by
  refine f25 _ _ (cd (fun h => ?_) (fun h => ?_))
  · rw [wordsOf, if_pos (by omega)]; rfl
  · rw [wordsOf, if_neg (by omega)]
    have := r25_0 s (by omega) (w := ⟨0, 0⟩) s.size 0 1 1 [] (by omega) (by omega) (by omega) (by omega) (by simp)
    rw [suf_zero] at this
    exact this
end Go.Proofs.YthcaodlfnlhfbaaDoorT
