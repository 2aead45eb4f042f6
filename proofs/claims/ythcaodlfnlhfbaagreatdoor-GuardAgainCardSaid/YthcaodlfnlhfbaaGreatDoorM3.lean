/- Which expressions can be read, by the program. (Wants P printed by the changed guard.cfg; its theorems were built over X12 alone, not yet in this place.) -/
import Derived.Test.YthcaodlfnlhfbaaGreatDoorM1
import Derived.Test.YthcaodlfnlhfbaaGreatDoorM2
namespace Go.Proofs.YthcaodlfnlhfbaaGreatDoorT
open Go Go.Proofs
set_option linter.unusedVariables false
theorem r29 (L : List ByteArray) (hL : L.length ≤ 1000) : Rn 29 [.sl 1 (L.map st), .s (.func (.func 15) #[] #[])] (tb (L.any resv), [.dead, .dead]) := by
  have loop : ∀ (d k : Nat), k + d = L.length → ∃ n : Int, L44_0 (L.map st) (((L.map st).length : Nat) : Int) (k : Int) (i64 n, [.dead, .dead]) ∧ decide (0 ≤ n) = (L.drop k).any resv := by
    intro d
    induction d with
    | zero => intro k hk; exact ⟨-1, l44_0 _ _ _ _ (cF (by simp; omega) rfl), by rw [List.drop_of_length_le (by omega)]; simp⟩
    | succ d ih =>
      intro k hk
      have hlt : k < L.length := by omega
      rw [List.drop_eq_getElem_cons hlt, List.any_cons]
      have h := r15 L[k]
      cases hb : resv L[k] with
      | true => rw [hb] at h; exact ⟨(k : Int), l44_0 _ _ _ _ (cT (by simp; omega) ⟨L[k], ⟨by omega, getm hlt⟩, _, h, cT rfl rfl⟩), by simp⟩
      | false =>
        rw [hb] at h
        obtain ⟨n, h1, h2⟩ := ih (k + 1) (by omega)
        refine ⟨n, l44_0 _ _ _ _ (cT (by simp; omega) ⟨L[k], ⟨by omega, getm hlt⟩, _, h, cF rfl ?_⟩), by rw [Bool.false_or]; exact h2⟩
        rw [wS (by omega)]
        exact h1
  obtain ⟨n, h1, h2⟩ := loop L.length 0 (by omega)
  rw [List.drop_zero] at h2
  exact f29 _ _ ⟨n, f44 _ _ h1, by rw [h2]⟩
theorem r18 (x : E) (hw : x.wf) : Rn 18 [x.v.v] (tb (x.ok && x.plain), [.dead]) := by
  refine f18 _ _ ⟨_, r28 x hw, ?_⟩
  cases hk : x.ok with
  | false => exact rfl
  | true =>
    obtain ⟨L, h30, hm, hl⟩ := refsSaid x hw hk
    refine ⟨_, h30, _, r29 L hl, tbR ?_⟩
    rw [E.plain, Bool.true_and]
    congr 1
    refine Bool.eq_iff_iff.2 ?_
    simp only [List.any_eq_true]
    constructor
    · rintro ⟨s, h1, h2⟩; exact ⟨s, (hm s).2 h1, h2⟩
    · rintro ⟨s, h1, h2⟩; exact ⟨s, (hm s).1 h1, h2⟩
end Go.Proofs.YthcaodlfnlhfbaaGreatDoorT

/- The program's Print and Parse; GuardBack, GuardAgain. -/
namespace Go.Proofs.YthcaodlfnlhfbaaGreatDoorT
open Go Go.Proofs
set_option linter.unusedVariables false
/-- What guard.Print answers. -/
def prt (x : E) : ByteArray × Int := if x.ok && x.plain then (x.txt, 0) else (bs [], 1)
theorem r8 (x : E) (hw : x.wf) : Rn 8 [x.v.v] (.tup [st (prt x).1, i64 (prt x).2], [.dead]) := by
  refine f8 _ _ ⟨_, r18 x hw, ?_⟩
  unfold prt
  cases h : (x.ok && x.plain) with
  | false => exact rfl
  | true =>
    have hp := ok_parts (Bool.and_eq_true_iff.1 h).1
    exact ⟨_, r19 x hp.2 hp.1, rfl⟩
/-- What was printed is parsed as it was, within brackets, too. -/
theorem parse_of {s : ByteArray} {x : E} (hx : x.ok = true) (h0 : (wordsOf s).2.2 = 0) (hp : Pr (wordsOf s).1 (.cl 1 0) x (wordsOf s).1.length false) : Rn 10 [st s] (.tup [x.v.v, i64 0], [.dead]) := by
  have h21 := r21 s
  have hwd := words_wd s
  have hln := words_len s
  generalize wordsOf s = o at *
  unfold res at h21
  rw [h0] at h21
  have h22 := take_p (fun w h => kd_of_wd (hwd w h).1) (fun w h => (hwd w h).2) hln hp
  rw [if_neg (by simp), if_neg (by rw [hx]; simp)] at h22
  exact f10 _ _ ⟨_, ⟨_, _⟩, _, h21, cF rfl ⟨_, _, _, h22, cT rfl (cF (by simp) rfl)⟩⟩
theorem parse_txt {x : E} (hx : x.ok = true) (hp : x.plain = true) : Rn 10 [st x.txt] (.tup [x.v.v, i64 0], [.dead]) :=
  parse_of hx (words_txt hx).1 (read_back hx hp (words_txt hx).2)
theorem parse_brk {x : E} (hx : x.ok = true) (hp : x.plain = true) : Rn 10 [st (bs [40] ++ x.txt ++ bs [41])] (.tup [x.v.v, i64 0], [.dead]) :=
  parse_of hx (words_brk hx).1 (read_brk hx hp (words_brk hx).2)
/-- What guard.Parse answers: no expression, and an error; or one that can be printed. -/
theorem parse_any (s : ByteArray) : (∃ e : Int, e ≠ 0 ∧ Rn 10 [st s] (.tup [E.non.v.v, i64 e], [.dead])) ∨ ∃ x : E, x.wf ∧ x.ok = true ∧ x.plain = true ∧ Rn 10 [st s] (.tup [x.v.v, i64 0], [.dead]) := by
  have h21 := r21 s
  have hwd := words_wd s
  have hln := words_len s
  generalize wordsOf s = o at *
  unfold res at h21
  by_cases h0 : o.2.2 = 0
  · obtain ⟨x, a, b, hp, ha⟩ := pr_cl o.1 (fun w h => kd_of_wd (hwd w h).1) 1
    have h22 := take_p (fun w h => kd_of_wd (hwd w h).1) (fun w h => (hwd w h).2) hln hp
    have hwf : x.wf := pr_wf (fun w h => (hwd w h).2) hp trivial
    cases b with
    | true =>
      rw [if_pos rfl] at h22
      exact .inl ⟨12, by omega, f10 _ _ ⟨_, ⟨_, _⟩, _, h21, cF (by simpa using h0) ⟨_, _, _, h22, cF rfl rfl⟩⟩⟩
    | false =>
      rw [if_neg (by simp)] at h22
      cases hk : x.ok with
      | false =>
        rw [hk, if_pos rfl] at h22
        exact .inl ⟨13, by omega, f10 _ _ ⟨_, ⟨_, _⟩, _, h21, cF (by simpa using h0) ⟨_, _, _, h22, cF rfl rfl⟩⟩⟩
      | true =>
        rw [hk, if_neg (by simp)] at h22
        by_cases hl : a < o.1.length
        · exact .inl ⟨12, by omega, f10 _ _ ⟨_, ⟨_, _⟩, _, h21, cF (by simpa using h0) ⟨_, _, _, h22, cT rfl (cT (by simpa using hl) rfl)⟩⟩⟩
        · exact .inr ⟨x, hwf, hk, pr_plain hp trivial rfl, f10 _ _ ⟨_, ⟨_, _⟩, _, h21, cF (by simpa using h0) ⟨_, _, _, h22, cT rfl (cF (by simpa using hl) rfl)⟩⟩⟩
  · exact .inl ⟨o.2.2, by omega, f10 _ _ ⟨_, ⟨_, _⟩, _, h21, cT (by simpa using h0) rfl⟩⟩
theorem r12 (s : ByteArray) : Rn 12 [st s] (tb (decide ((s.size : Int) ≤ 12000)), [.dead]) := f12 _ _ rfl
theorem guardBack_row {n : Nat} {w : W_tumbrelref04_Node} (hS : ByteArray.size w.fS ≤ maxLen) (hs : ∃ m, m < n ∧ SlT Tryz.prog m 24 w.fParts) : Rn 3 [w.t] (tb true, [.dead]) := by
  obtain ⟨m, _, hs⟩ := hs
  obtain ⟨b, h7⟩ := r7 hs
  refine f3 _ _ ⟨_, r6, cF rfl ⟨_, h7, ?_⟩⟩
  cases b with
  | false => exact cT rfl ⟨_, r6, rfl⟩
  | true =>
    obtain ⟨x, hwf, h9, _⟩ := raw m w hS hs
    refine cF rfl ⟨_, h9, _, _, r8 x hwf, ?_⟩
    unfold prt
    cases h : (x.ok && x.plain) with
    | false => exact cT (by simp) (tbR (by simp))
    | true =>
      have hk := Bool.and_eq_true_iff.1 h
      exact cF (by simp) ⟨_, _, parse_txt hk.1 hk.2, cT rfl ⟨_, h9, _, r11 x, rfl⟩⟩
theorem guardAgain_row (s : ByteArray) : Rn 4 [st s] (tb true, [.dead]) := by
  refine f4 _ _ ⟨_, r6, cF rfl ⟨_, r12 s, ?_⟩⟩
  refine cb (fun hf => ⟨_, r6, rfl⟩) (fun hf => ?_)
  rcases parse_any s with ⟨e, he, h10⟩ | ⟨x, hwf, hk, hpl, h10⟩
  · exact ⟨_, _, h10, cT (by simpa using he) (tbR (by simp [E.v]))⟩
  · have h8 := r8 x hwf
    have hz := ok_size hk
    have e : prt x = (x.txt, 0) := by unfold prt; rw [hk, hpl]; rfl
    rw [e] at h8
    exact ⟨_, _, h10, cF rfl ⟨_, _, h8, _, _, parse_txt hk hpl, by rw [size_bs]; simp; omega, by rw [size_append, size_bs, size_bs]; simp; omega, _, _, parse_brk hk hpl,
      cT rfl (cT rfl (cT rfl ⟨_, r11 x, cT rfl ⟨_, r11 x, rfl⟩⟩))⟩⟩
end Go.Proofs.YthcaodlfnlhfbaaGreatDoorT
