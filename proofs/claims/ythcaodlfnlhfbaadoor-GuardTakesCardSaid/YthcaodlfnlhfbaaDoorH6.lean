/- GuardParses, GuardTakes: what the laws' functions come to. -/
import Derived.Test.YthcaodlfnlhfbaaDoorH5
namespace Go.Proofs.YthcaodlfnlhfbaaDoorT
open Go Go.Proofs
set_option linter.unusedVariables false
theorem r81_of (l : List E) (hl : l.length ≤ 2) (IH : ∀ y ∈ l, Rn 56 [y.v.v, y.v.v] (tb true, [.dead, .dead])) : Rn 81 [.sl 1 (vs l), .sl 1 (vs l), .s (.func (.func 56) #[] #[])] (tb true, [.dead, .dead, .dead]) := by
  have loop : ∀ (d k : Nat), k + d = l.length → L81_0 (vs l) (vs l) (((vs l).length : Nat) : Int) (k : Int) (tb true, [.dead, .dead, .dead]) := by
    intro d
    induction d with
    | zero => intro k hk; exact l81_0 _ _ _ _ _ (cF (by simp; omega) rfl)
    | succ d ih =>
      intro k hk
      have hlt : k < l.length := by omega
      refine l81_0 _ _ _ _ _ (cT (by simp; omega) ⟨(l[k]).v, ⟨by omega, getv hlt⟩, (l[k]).v, ⟨by omega, getv hlt⟩, _, IH _ (List.getElem_mem hlt), cF rfl ?_⟩)
      rw [wS (by omega)]
      exact ih (k + 1) (by omega)
  exact f81 _ _ _ (cF (by simp) (loop l.length 0 (by omega)))
set_option maxHeartbeats 1000000 in
/-- Alike, if the same. -/
theorem r56 : ∀ x : E, Rn 56 [x.v.v, x.v.v] (tb true, [.dead, .dead]) := by
  refine E.rec_ops fun x IH => ?_
  have h66 := r66 x
  have h81 := r81_of x.ops (ops_len x) IH
  cases x with
  | non => exact f56 _ _ _ ⟨_, h66, _, h66, cF (by simp) (cT rfl rfl)⟩
  | lit n => exact f56 _ _ _ ⟨_, h66, _, h66, cF (by simp) (cF rfl (cT rfl ⟨⟨n⟩, rfl, cT rfl ⟨⟨n⟩, rfl, tbR (by simp)⟩⟩))⟩
  | ref s => exact f56 _ _ _ ⟨_, h66, _, h66, cF (by simp) (cF rfl (cF rfl (cT rfl ⟨⟨s⟩, rfl, cT rfl ⟨⟨s⟩, rfl, tbR (by simp)⟩⟩)))⟩
  | not x => exact f56 _ _ _ ⟨_, h66, _, h66, cF (by simp) (cF rfl (cF rfl (cF rfl (cF rfl (cT rfl (cF rfl (cF rfl (cT rfl ⟨⟨x.v⟩, rfl, _, f175 _ _ rfl, cF rfl (cF rfl (cT rfl ⟨⟨x.v⟩, rfl, _, f175 _ _ rfl, cT rfl ⟨_, h81, rfl⟩⟩))⟩))))))))⟩
  | neg x => exact f56 _ _ _ ⟨_, h66, _, h66, cF (by simp) (cF rfl (cF rfl (cF rfl (cF rfl (cT rfl (cF rfl (cF rfl (cF rfl (cT rfl ⟨⟨x.v⟩, rfl, _, f176 _ _ rfl, cF rfl (cF rfl (cF rfl (cT rfl ⟨⟨x.v⟩, rfl, _, f176 _ _ rfl, cT rfl ⟨_, h81, rfl⟩⟩)))⟩)))))))))⟩
  | bin op l r => exact f56 _ _ _ ⟨_, h66, _, h66, cF (by simp) (cF rfl (cF rfl (cF rfl (cT rfl ⟨⟨op, l.v, r.v⟩, rfl, cT rfl ⟨⟨op, l.v, r.v⟩, rfl, cF (by simp) (cT rfl (cF rfl (cF rfl (cF rfl (cF rfl (cT rfl ⟨⟨op, l.v, r.v⟩, rfl, _, f177 _ _ rfl, cF rfl (cF rfl (cF rfl (cF rfl (cT rfl ⟨⟨op, l.v, r.v⟩, rfl, _, f177 _ _ rfl, cT rfl ⟨_, h81, rfl⟩⟩))))⟩))))))⟩⟩))))⟩
/-- 1 + 2. -/
def g12 : ByteArray := bs [49, 32, 43, 32, 50]
def e12 : E := .bin (bs [43]) (.lit 1) (.lit 2)
theorem g12_words : (wordsOf g12).2.2 = 0 ∧ (wordsOf g12).1.map W_glyph_Word.fKind = [2, 3, 2] ∧ (wordsOf g12).1.map W_glyph_Word.fText = [bs [49], bs [43], bs [50]] := by decide +kernel
theorem e12_ok : e12.ok = true := by decide +kernel
theorem three {l : List W_glyph_Word} (hk : l.map W_glyph_Word.fKind = [2, 3, 2]) (ht : l.map W_glyph_Word.fText = [bs [49], bs [43], bs [50]]) : ∃ w0 w1 w2, l = [w0, w1, w2] ∧ (w0.fKind = 2 ∧ w1.fKind = 3 ∧ w2.fKind = 2) ∧ w0.fText = bs [49] ∧ w1.fText = bs [43] ∧ w2.fText = bs [50] := by
  have hl : l.length = 3 := by rw [← List.length_map (f := W_glyph_Word.fKind), hk]; rfl
  obtain ⟨w0, w1, w2, rfl⟩ : ∃ w0 w1 w2, l = [w0, w1, w2] := by
    match l, hl with
    | [w0, w1, w2], _ => exact ⟨_, _, _, rfl⟩
  simp only [List.map_cons, List.map_nil, List.cons.injEq, and_true] at hk ht
  exact ⟨w0, w1, w2, rfl, hk, ht⟩
theorem r29_of {o : Out} (h : o.2.2 = 0 ∧ o.1.map W_glyph_Word.fKind = [2, 3, 2] ∧ o.1.map W_glyph_Word.fText = [bs [49], bs [43], bs [50]]) (hwd : ∀ x ∈ o.1, Wd x ∧ x.fText.size ≤ 12000) (hln : o.1.length ≤ 3000) (h12 : Rn 12 [st g12] (res o)) : Rn 29 [] (tb true, []) := by
  obtain ⟨h0, hk, ht⟩ := h
  obtain ⟨w0, w1, w2, hws, ⟨k0, k1, k2⟩, t0, t1, t2⟩ := three hk ht
  unfold res at h12
  rw [hws] at hwd hln h12
  rw [h0] at h12
  · have hl : lvl w1.fText = 4 := by rw [t1]; decide
    have n0 : num w0.fText = 1 := by rw [t0]; decide +kernel
    have n2 : num w2.fText = 2 := by rw [t2]; decide +kernel
    have p0 : Pr [w0, w1, w2] (.sg 0) (.lit 1) 1 false := by
      have := Pr.sNum (ws := [w0, w1, w2]) (a := 0) (w := w0) rfl k0
      rw [n0] at this
      exact this
    have p2 : Pr [w0, w1, w2] (.sg 2) (.lit 2) 3 false := by
      have := Pr.sNum (ws := [w0, w1, w2]) (a := 2) (w := w2) rfl k2
      rw [n2] at this
      exact this
    have pe : ∀ k m x, Pr [w0, w1, w2] (.lp k m x 3 false) x 3 false := fun k m x => Pr.lEnd (fun w h => by simp at h)
    have pall : Pr [w0, w1, w2] (.cl 1 0) e12 3 false := by
      refine Pr.clm p0 (Pr.lBin (w := w1) (y := .lit 2) (a1 := 3) (b1 := false) rfl k1 (by omega) (by omega) (Pr.clm p2 (pe _ _ _)) ?_)
      rw [t1]
      exact pe _ _ _
    obtain ⟨h35, _⟩ := take_of (ws := [w0, w1, w2]) (fun w h => kd_of_wd (hwd w h).1) (fun w h => (hwd w h).2) hln pall
    rw [if_neg (by simp), if_neg (by rw [e12_ok]; simp)] at h35
    have h30 : Rn 30 [st g12] (.tup [e12.v.v, i64 0], [.dead]) := f30 _ _ ⟨_, ⟨_, _⟩, _, h12, cF rfl ⟨_, _, _, h35, cT rfl (cF (by simp) rfl)⟩⟩
    exact f29 _ ⟨_, _, h30, cT rfl ⟨_, r56 e12, rfl⟩⟩
theorem r29 : Rn 29 [] (tb true, []) := by
  exact r29_of g12_words (words_wd g12) (words_len g12) (r12 g12)
theorem guardParses_row (s : ByteArray) : Rn 9 [st s] (tb true, [.dead]) := by
  obtain ⟨x, e, h1, h2⟩ := parse_both s
  exact f9 _ _ ⟨_, r29, cF rfl ⟨_, _, h1, x.d, _, h2, x.d, r33 x, _, r32 x, cT rfl (tbR (by simp))⟩⟩
theorem guardTakes_row (s : ByteArray) : Rn 10 [st s] (tb true, [.dead]) := by
  by_cases hf : s.size ≤ 12000
  · have h25 := r25 s
    have hwd := words_wd s
    have hln := words_len s
    generalize wordsOf s = o at *
    unfold res at h25
    refine f10 _ _ ⟨_, r29, cF rfl ⟨_, f34 _ _ rfl, cF (by simp; omega) ⟨_, ⟨_, _⟩, _, h25, cdn (fun _ => rfl) (fun h0 => ?_)⟩⟩⟩
    obtain ⟨x, n, e, h1, h2, _⟩ := take_both o.1 (fun w h => kd_of_wd (hwd w h).1) (fun w h => (hwd w h).2) hln
    have loop : ∀ (d k : Nat), k + d = o.1.length → L10_0 (o.1.map W_glyph_Word.t) ((o.1.map W_glyph_Word.t).take k) (((o.1.map W_glyph_Word.t).length : Nat) : Int) (k : Int) (tb true, [.dead]) := by
      intro d
      induction d with
      | zero =>
        intro k hk
        refine l10_0 _ _ _ _ _ (cF (by simp; omega) ?_)
        rw [List.take_of_length_le (by simp; omega)]
        exact ⟨_, _, _, h1, x.d, _, _, h2, x.d, r33 x, _, r32 x, cT rfl (cT (by simp) (tbR (by simp)))⟩
      | succ d ih =>
        intro k hk
        have hlt : k < o.1.length := by omega
        have h := ih (k + 1) (by omega)
        rw [List.take_succ_eq_append_getElem (by simp; omega)] at h
        refine l10_0 _ _ _ _ _ (cT (by simp; omega) ⟨rw_ o.1[k], ⟨by omega, by rw [toN, List.getElem?_map, List.getElem?_eq_getElem hlt]; rfl⟩, ckn (by simp; omega) ?_⟩)
        rw [wS (by omega)]
        have e : (o.1.map W_glyph_Word.t)[k]'(by simp; omega) = (rw_ o.1[k]).t := by simp [W_glyph_Word.t, W_tumbrelref03_Word.t]
        rw [e] at h
        exact h
    exact loop o.1.length 0 (by omega)
  · exact f10 _ _ ⟨_, r29, cF rfl ⟨_, f34 _ _ rfl, cT (by simp; omega) ⟨_, r29, rfl⟩⟩⟩
end Go.Proofs.YthcaodlfnlhfbaaDoorT
