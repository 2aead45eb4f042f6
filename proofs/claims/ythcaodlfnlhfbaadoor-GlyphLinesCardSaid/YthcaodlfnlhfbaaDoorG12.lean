/- GlyphLines: what the law's function comes to. -/
import Derived.Test.YthcaodlfnlhfbaaDoorG11
namespace Go.Proofs.YthcaodlfnlhfbaaDoorT
open Go Go.Proofs
set_option linter.unusedVariables false
def nl (s : ByteArray) : ByteArray := bs [10] ++ s
theorem bl_nl (s : ByteArray) : bl (nl s) = 10 :: bl s := by rw [nl, bl_append]; rfl
theorem size_nl (s : ByteArray) : (nl s).size = s.size + 1 := by rw [← bl_len, bl_nl, List.length_cons, bl_len]
theorem suf_nl (s : ByteArray) : suf s 0 = suf (nl s) 1 := ext_bl (by rw [bl_suf, bl_suf, bl_nl]; rfl)
theorem bt_nl (s : ByteArray) : bt (nl s) 0 = 10 := by unfold bt; rw [bl_nl]; rfl
theorem glyphLines_row (s : ByteArray) : Rn 8 [st s] (tb true, [.dead]) := by
  by_cases h8 : 8000 < s.size
  · exact f8 _ _ ⟨_, r11, cF rfl (cT (by simp; omega) ⟨_, r11, rfl⟩)⟩
  have h12 := r12 s
  have h12' := r12 (nl s)
  have hw : wordsOf s = lexR s 0 1 1 [] := by rw [wordsOf, if_neg (by omega)]
  have hw' : wordsOf (nl s) = lexR (nl s) 1 2 1 [] := by
    rw [wordsOf, if_neg (by rw [size_nl]; omega), lexR_eq, if_neg (by rw [size_nl]; omega), if_pos (bt_nl s)]
  obtain ⟨he, hl, hp⟩ := lex_like (P := True) (s := s) (t := nl s) s.size 0 1 1 2 1 1 [] [] (by omega) (suf_nl s) (by omega) (by rw [size_nl]; omega) (fun _ => ⟨rfl, rfl⟩) .nil
  have hb := lex_bound (s := s) (B := 8001) s.size 0 1 1 [] (by omega) (by omega) (by omega) (by omega) (fun x hx => by simp at hx)
  rw [← hw, ← hw'] at he hl hp
  rw [← hw] at hb
  have hlen := words_len s
  have hend := endp_like (s := s) (t := nl s) s.size 0 1 1 1 (by omega) (suf_nl s) (by omega) (by rw [size_nl]; omega) (by omega) (by omega) (by omega)
  have hend' : endp (nl s) (nl s).size 0 1 1 = endp (nl s) s.size 1 ((1 + 1 : Nat) : Int) ((1 : Nat) : Int) := by
    rw [size_nl, endp, if_pos (by rw [size_nl]; omega)]
    have hd : Utf8.decode (nl s) 0 = (10, 1) := by rw [dec_low (by rw [bt_nl]; omega), bt_nl]
    rw [hd, bh, if_pos (by simp)]
    rfl
  generalize wordsOf s = o at *
  generalize wordsOf (nl s) = o' at *
  unfold res at h12 h12'
  have last : ∀ R : T × List T, R = (tb true, [.dead]) → ∃ w8 : W_api_Pos, (Rn 27 [(st s)] (w8.t, [.dead])) ∧ (((ByteArray.size (bs [10]) + ByteArray.size s : Nat) : Int) ≤ 9223372036854775807 ∧
      (∃ w9 : W_api_Pos, (Rn 27 [(st ((bs [10]) ++ s))] (w9.t, [.dead])) ∧
       (cond (decide ((w9.fLine : Int) = (IntKind.wrap .i64 (w8.fLine + 1))))
        (R = ((tb (decide ((w9.fCol : Int) = w8.fCol))), [.dead]))
        (R = ((tb false), [.dead]))))) := by
    rintro R rfl
    refine ⟨_, r27 s, by have : (bs [10]).size = 1 := rfl; omega, _, r27 (nl s), ?_⟩
    rw [hend']
    obtain ⟨e1, e2, e3, e4⟩ := hend
    have e0 : endp s s.size 0 1 1 = endp s s.size 0 ((1 : Nat) : Int) ((1 : Nat) : Int) := rfl
    rw [e0]
    refine cT ?_ (tbR ?_)
    · rw [w64 (by omega)]; simpa using e1
    · simpa using e2
  have loop : ∀ (d k : Nat), k + d = o.1.length → L8_0 s (o.1.map W_glyph_Word.t) (o'.1.map W_glyph_Word.t) (((o.1.map W_glyph_Word.t).length : Nat) : Int) (k : Int) (tb true, [.dead]) := by
    intro d
    induction d with
    | zero => intro k hk; exact l8_0 _ _ _ _ _ _ (cF (by simp; omega) (last _ rfl))
    | succ d ih =>
      intro k hk
      have hlt : k < o.1.length := by omega
      have hlt' : k < o'.1.length := by rw [← hl.1]; exact hlt
      have hx := hl.2 k _ _ (List.getElem?_eq_getElem hlt) (List.getElem?_eq_getElem hlt')
      have hbd := hb.2 _ (List.getElem_mem hlt)
      have g : (o.1.map W_glyph_Word.t)[Int.toNat (k : Int)]? = some (o.1[k]).t := getm hlt
      have g' : (o'.1.map W_glyph_Word.t)[Int.toNat (k : Int)]? = some (o'.1[k]).t := getm hlt'
      obtain ⟨x1, x2, x3⟩ := hx
      obtain ⟨x3, x4⟩ := x3 trivial
      refine l8_0 _ _ _ _ _ _ (cT (by simp; omega) ⟨_, ⟨by omega, g'⟩, _, ⟨by omega, g⟩, cF (by simp [x1]) ⟨_, ⟨by omega, g'⟩, _, ⟨by omega, g⟩, cF (by simp [x2]) ⟨_, ⟨by omega, g'⟩, _, ⟨by omega, g⟩, cF ?_ ⟨_, ⟨by omega, g'⟩, _, ⟨by omega, g⟩, cF (by simp [x4]) ?_⟩⟩⟩⟩)
      · rw [w64 (by omega)]; simp [x3]
      · rw [wS (by omega)]
        exact ih (k + 1) (by omega)
  refine f8 _ _ ⟨_, r11, cF rfl (cF (by simp; omega) ⟨_, ⟨_, _⟩, _, h12, by have : (bs [10]).size = 1 := rfl; omega, _, ⟨_, _⟩, _, h12', cF (by simp [he]) (cF (by simp [hl.1]) (cdn (fun hn => ?_) (fun hn => loop o.1.length 0 (by omega))))⟩)⟩
  have hq := hp trivial (by simpa using hn)
  refine cF ?_ (cF ?_ (loop o.1.length 0 (by omega)))
  · have hb1 := hb.1
    have e : IntKind.wrap .i64 (((o.2.1.1 : Nat) : Int) + 1) = ((o.2.1.1 + 1 : Nat) : Int) := wS (by omega)
    show (!(decide ((((o'.2.1.1 : Nat) : Int)) = IntKind.wrap .i64 (((o.2.1.1 : Nat) : Int) + 1)))) = false
    rw [e, hq.1]
    simp
  · simp [hq.2]
end Go.Proofs.YthcaodlfnlhfbaaDoorT
