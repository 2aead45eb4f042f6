/- Which expressions can be read, by the program. (Wants P printed by the changed guard.cfg; its theorems were built over X12 alone, not yet in this place.) -/
import Derived.Test.YthcaodlfnlhfbaaGreatDoorM1
import Derived.Test.YthcaodlfnlhfbaaGreatDoorM2
namespace Go.Proofs.YthcaodlfnlhfbaaGreatDoorT
open Go Go.Proofs
set_option linter.unusedVariables false
theorem r29 (L : List ByteArray) (hL : L.length ≤ 1000) : Rn 29 [.sl 1 (L.map st), .s (.func (.func 15) #[] #[])] (tb (L.any resv), [.dead, .dead]) := by
  have loop : ∀ (d k : Nat), k + d = L.length → ∃ n : Int, L44_0 (L.map st) (((L.map st).length : Nat) : Int) (k : Int) (i64 n, [.dead, .dead]) ∧ decide (0 ≤ n) = (L.drop k).any resv := by
    intro d
    induction d with
    | zero => intro k hk; exact ⟨-1, l44_0 _ _ _ _ (cF (by simp; omega) rfl), by rw [List.drop_of_length_le (by omega)]; simp⟩
    | succ d ih =>
      intro k hk
      have hlt : k < L.length := by omega
      rw [List.drop_eq_getElem_cons hlt, List.any_cons]
      have h := r15 L[k]
      cases hb : resv L[k] with
      | true => rw [hb] at h; exact ⟨(k : Int), l44_0 _ _ _ _ (cT (by simp; omega) ⟨L[k], ⟨by omega, getm hlt⟩, _, h, cT rfl rfl⟩), by simp⟩
      | false =>
        rw [hb] at h
        obtain ⟨n, h1, h2⟩ := ih (k + 1) (by omega)
        refine ⟨n, l44_0 _ _ _ _ (cT (by simp; omega) ⟨L[k], ⟨by omega, getm hlt⟩, _, h, cF rfl ?_⟩), by rw [Bool.false_or]; exact h2⟩
        rw [wS (by omega)]
        exact h1
  obtain ⟨n, h1, h2⟩ := loop L.length 0 (by omega)
  rw [List.drop_zero] at h2
  exact f29 _ _ ⟨n, f44 _ _ h1, by rw [h2]⟩
theorem r18 (x : E) (hw : x.wf) : Rn 18 [x.v.v] (tb (x.ok && x.plain), [.dead]) := by
  refine f18 _ _ ⟨_, r28 x hw, ?_⟩
  cases hk : x.ok with
  | false => exact rfl
  | true =>
    obtain ⟨L, h30, hm, hl⟩ := refsSaid x hw hk
    refine ⟨_, h30, _, r29 L hl, tbR ?_⟩
    rw [E.plain, Bool.true_and]
    congr 1
    refine Bool.eq_iff_iff.2 ?_
    simp only [List.any_eq_true]
    constructor
    · rintro ⟨s, h1, h2⟩; exact ⟨s, (hm s).2 h1, h2⟩
    · rintro ⟨s, h1, h2⟩; exact ⟨s, (hm s).1 h1, h2⟩
end Go.Proofs.YthcaodlfnlhfbaaGreatDoorT

/- The program's Print and Parse; GuardBack, GuardAgain. -/
namespace Go.Proofs.YthcaodlfnlhfbaaGreatDoorT
open Go Go.Proofs
set_option linter.unusedVariables false
/-- What guard.Print answers. -/
def prt (x : E) : ByteArray × Int := if x.ok && x.plain then (x.txt, 0) else (bs [], 1)
theorem r8 (x : E) (hw : x.wf) : Rn 8 [x.v.v] (.tup [st (prt x).1, i64 (prt x).2], [.dead]) := by
  refine f8 _ _ ⟨_, r18 x hw, ?_⟩
  unfold prt
  cases h : (x.ok && x.plain) with
  | false => exact rfl
  | true =>
    have hp := ok_parts (Bool.and_eq_true_iff.1 h).1
    exact ⟨_, r19 x hp.2 hp.1, rfl⟩
/-- What was printed is parsed as it was, within brackets, too. -/
theorem parse_of {s : ByteArray} {x : E} (hx : x.ok = true) (h0 : (wordsOf s).2.2 = 0) (hp : Pr (wordsOf s).1 (.cl 1 0) x (wordsOf s).1.length false) : Rn 10 [st s] (.tup [x.v.v, i64 0], [.dead]) := by
  have h21 := r21 s
  have hwd := words_wd s
  have hln := words_len s
  generalize wordsOf s = o at *
  unfold res at h21
  rw [h0] at h21
  have h22 := take_p (fun w h => kd_of_wd (hwd w h).1) (fun w h => (hwd w h).2) hln hp
  rw [if_neg (by simp), if_neg (by rw [hx]; simp)] at h22
  exact f10 _ _ ⟨_, ⟨_, _⟩, _, h21, cF rfl ⟨_, _, _, h22, cT rfl (cF (by simp) rfl)⟩⟩
theorem parse_txt {x : E} (hx : x.ok = true) (hp : x.plain = true) : Rn 10 [st x.txt] (.tup [x.v.v, i64 0], [.dead]) :=
  parse_of hx (words_txt hx).1 (read_back hx hp (words_txt hx).2)
theorem parse_brk {x : E} (hx : x.ok = true) (hp : x.plain = true) : Rn 10 [st (bs [40] ++ x.txt ++ bs [41])] (.tup [x.v.v, i64 0], [.dead]) :=
  parse_of hx (words_brk hx).1 (read_brk hx hp (words_brk hx).2)
/-- What guard.Parse answers: no expression, and an error; or one that can be printed. -/
theorem parse_any (s : ByteArray) : (∃ e : Int, e ≠ 0 ∧ Rn 10 [st s] (.tup [E.non.v.v, i64 e], [.dead])) ∨ ∃ x : E, x.wf ∧ x.ok = true ∧ x.plain = true ∧ Rn 10 [st s] (.tup [x.v.v, i64 0], [.dead]) := by
  have h21 := r21 s
  have hwd := words_wd s
  have hln := words_len s
  generalize wordsOf s = o at *
  unfold res at h21
  by_cases h0 : o.2.2 = 0
  · obtain ⟨x, a, b, hp, ha⟩ := pr_cl o.1 (fun w h => kd_of_wd (hwd w h).1) 1
    have h22 := take_p (fun w h => kd_of_wd (hwd w h).1) (fun w h => (hwd w h).2) hln hp
    have hwf : x.wf := pr_wf (fun w h => (hwd w h).2) hp trivial
    cases b with
    | true =>
      rw [if_pos rfl] at h22
      exact .inl ⟨12, by omega, f10 _ _ ⟨_, ⟨_, _⟩, _, h21, cF (by simpa using h0) ⟨_, _, _, h22, cF rfl rfl⟩⟩⟩
    | false =>
      rw [if_neg (by simp)] at h22
      cases hk : x.ok with
      | false =>
        rw [hk, if_pos rfl] at h22
        exact .inl ⟨13, by omega, f10 _ _ ⟨_, ⟨_, _⟩, _, h21, cF (by simpa using h0) ⟨_, _, _, h22, cF rfl rfl⟩⟩⟩
      | true =>
        rw [hk, if_neg (by simp)] at h22
        by_cases hl : a < o.1.length
        · exact .inl ⟨12, by omega, f10 _ _ ⟨_, ⟨_, _⟩, _, h21, cF (by simpa using h0) ⟨_, _, _, h22, cT rfl (cT (by simpa using hl) rfl)⟩⟩⟩
        · exact .inr ⟨x, hwf, hk, pr_plain hp trivial rfl, f10 _ _ ⟨_, ⟨_, _⟩, _, h21, cF (by simpa using h0) ⟨_, _, _, h22, cT rfl (cF (by simpa using hl) rfl)⟩⟩⟩
  · exact .inl ⟨o.2.2, by omega, f10 _ _ ⟨_, ⟨_, _⟩, _, h21, cT (by simpa using h0) rfl⟩⟩
theorem r12 (s : ByteArray) : Rn 12 [st s] (tb (decide ((s.size : Int) ≤ 12000)), [.dead]) := f12 _ _ rfl
theorem guardBack_row {n : Nat} {w : W_tumbrelref04_Node} (hS : ByteArray.size w.fS ≤ maxLen) (hs : ∃ m, m < n ∧ SlT Tryz.prog m 24 w.fParts) : Rn 3 [w.t] (tb true, [.dead]) := by
  obtain ⟨m, _, hs⟩ := hs
  obtain ⟨b, h7⟩ := r7 hs
  refine f3 _ _ ⟨_, r6, cF rfl ⟨_, h7, ?_⟩⟩
  cases b with
  | false => exact cT rfl ⟨_, r6, rfl⟩
  | true =>
    obtain ⟨x, hwf, h9, _⟩ := raw m w hS hs
    refine cF rfl ⟨_, h9, _, _, r8 x hwf, ?_⟩
    unfold prt
    cases h : (x.ok && x.plain) with
    | false => exact cT (by simp) (tbR (by simp))
    | true =>
      have hk := Bool.and_eq_true_iff.1 h
      exact cF (by simp) ⟨_, _, parse_txt hk.1 hk.2, cT rfl ⟨_, h9, _, r11 x, rfl⟩⟩
theorem guardAgain_row (s : ByteArray) : Rn 4 [st s] (tb true, [.dead]) := by
  refine f4 _ _ ⟨_, r6, cF rfl ⟨_, r12 s, ?_⟩⟩
  refine cb (fun hf => ⟨_, r6, rfl⟩) (fun hf => ?_)
  rcases parse_any s with ⟨e, he, h10⟩ | ⟨x, hwf, hk, hpl, h10⟩
  · exact ⟨_, _, h10, cT (by simpa using he) (tbR (by simp [E.v]))⟩
  · have h8 := r8 x hwf
    have hz := ok_size hk
    have e : prt x = (x.txt, 0) := by unfold prt; rw [hk, hpl]; rfl
    rw [e] at h8
    exact ⟨_, _, h10, cF rfl ⟨_, _, h8, _, _, parse_txt hk hpl, by rw [size_bs]; simp; omega, by rw [size_append, size_bs, size_bs]; simp; omega, _, _, parse_brk hk hpl,
      cT rfl (cT rfl (cT rfl ⟨_, r11 x, cT rfl ⟨_, r11 x, rfl⟩⟩))⟩⟩
end Go.Proofs.YthcaodlfnlhfbaaGreatDoorT

/- The document's names. -/
namespace Go.Proofs.YthcaodlfnlhfbaaGreatDoorT
open Go Go.Proofs
set_option linter.unusedVariables false
/-- The rune that a text begins with, as the document has it: -1, if it is none. -/
def nxt (s : ByteArray) : Int := if (Lib.decodeGo s).1 = 65533 ∧ (Lib.decodeGo s).2 ≤ 1 then -1 else ((Lib.decodeGo s).1 : Int)
theorem r92 (s : ByteArray) : Rn 92 [st s] (.tup [i32 (nxt s), i64 (Lib.decodeGo s).2], [.dead]) := by
  refine f92 _ _ ⟨_, _, runs113 s, cd (fun h => cd (fun h' => ?_) (fun h' => ?_)) (fun h => ?_)⟩
  · rw [nxt, if_pos (by omega)]
  · rw [nxt, if_neg (by omega)]
  · rw [nxt, if_neg (by omega)]
theorem ins_nxt (s : ByteArray) : ins (nxt s) = ins (Lib.decodeGo s).1 := by
  unfold nxt
  split
  · rename_i h
    rw [h.1]; rfl
  · rfl
theorem ltr_nxt (s : ByteArray) : ltr (nxt s) = ltr (Lib.decodeGo s).1 := by
  unfold nxt
  split
  · rename_i h
    rw [h.1]; rfl
  · rfl
theorem dig_nxt (s : ByteArray) : dig (nxt s) = dig (Lib.decodeGo s).1 := by
  unfold nxt
  split
  · rename_i h
    rw [h.1]; rfl
  · rfl
/-- The document's run. -/
theorem r93 (t : ByteArray) (hs : t.size ≤ maxLen) : Rn 93 [st t] (.tup [i64 (run t t.size 0 0).1, i64 (run t t.size 0 0).2], [.dead]) := by
  have hm := Nat.le_trans hs maxLen_lt
  have loop : ∀ (f n k : Nat), t.size ≤ n + f → n ≤ t.size → k ≤ n → L93_0 t (n : Int) (k : Int) (.tup [i64 (run t f n k).1, i64 (run t f n k).2], [.dead]) := by
    intro f
    induction f with
    | zero => intro n k h h' hk; exact l93_0 _ _ _ _ (cF (by simp; omega) (by rw [run]))
    | succ f ih =>
      intro n k h h' hk
      refine l93_0 _ _ _ _ (cd (fun h1 => ?_) (fun h1 => ?_))
      · have hn : n < t.size := by omega
        refine ⟨⟨by omega, by omega⟩, nxt (suf t n), (Lib.decodeGo (suf t n)).2, ?_, ins (nxt (suf t n)), r114 _, ?_⟩
        · rw [toN]; exact r92 _
        have hd : Lib.decodeGo (suf t n) = Utf8.decode t n := by
          rw [dec_go, if_neg (by rw [size_suf]; omega), dec_suf, Nat.add_zero]
        rw [ins_nxt, hd]
        have hz := dec_size hn
        refine cb (fun h2 => ?_) (fun h2 => ?_)
        · rw [run, if_neg (by simp at h2; simp [h2])]
        · have h2 : ins (Utf8.decode t n).1 = true := by simpa using h2
          rw [run, if_pos ⟨hn, h2⟩, w64 (by omega), wS (by omega), show (n : Int) + ((Utf8.decode t n).2 : Int) = ((n + (Utf8.decode t n).2 : Nat) : Int) by omega]
          exact ih _ _ (by omega) (by omega) (by omega)
      · rw [run_end _ _ _ (by omega)]
  exact f93 _ _ (loop t.size 0 0 (by omega) (by omega) (by omega))
theorem r75 (t : ByteArray) (hs : t.size ≤ maxLen) : Rn 75 [st t] (tb (nm t), [.dead]) := by
  refine f75 _ _ ⟨_, _, r92 t, _, _, r93 t hs, _, r94 _, ?_⟩
  rw [ltr_nxt]
  refine cb (fun h => cd (fun h' => tbR ?_) (fun h' => tbR ?_)) (fun h => tbR ?_)
  · simp [nm, h, show (run t t.size 0 0).1 = t.size by omega]; omega
  · simp [nm, show ¬ (run t t.size 0 0).1 = t.size by omega]
  · simp [nm, h]
end Go.Proofs.YthcaodlfnlhfbaaGreatDoorT

/- Expressions as the document has them: formed ones. -/
namespace Go.Proofs.YthcaodlfnlhfbaaGreatDoorT
open Go Go.Proofs
set_option linter.unusedVariables false
theorem r55 : ∀ x : E, x.wf → Rn 55 [x.d.t] (tb x.snd, [.dead]) := by
  refine E.rec_ops fun x IH hw => ?_
  have hlen := ops_len x
  have hww := E.ops_wf hw
  have loop : ∀ (d k : Nat), k + d = x.ops.length → L55_0 (((x.d.fParts).length : Nat) : Int) (k : Int) x.d (tb ((x.ops.drop k).all E.snd), [.dead]) := by
    intro d
    induction d with
    | zero =>
      intro k hk
      rw [d_parts]
      refine l55_0 _ _ _ _ (cF (by simp; omega) (tbR ?_))
      rw [List.drop_of_length_le (by omega)]
      rfl
    | succ d ih =>
      intro k hk
      have hlt : k < x.ops.length := by omega
      have h := ih (k + 1) (by omega)
      rw [List.drop_eq_getElem_cons hlt]
      rw [d_parts] at h ⊢
      refine l55_0 _ _ _ _ (cT (by simp; omega) ⟨(x.ops[k]).d, ⟨by omega, by rw [d_parts]; exact getd hlt⟩, _, IH _ (List.getElem_mem hlt) (hww _ (List.getElem_mem hlt)), cb (fun hb => tbR ?_) (fun hb => ?_)⟩)
      · have hb : (x.ops[k]).snd = false := by simpa using hb
        rw [List.all_cons, hb, Bool.false_and]
      · have hb : (x.ops[k]).snd = true := by simpa using hb
        rw [wS (by omega)]
        simp only [List.all_cons, hb, Bool.true_and]
        exact h
  have hall := loop x.ops.length 0 (by omega)
  rw [List.drop_zero] at hall
  cases x with
  | non => exact f55 _ _ (cF rfl (cF rfl (cF rfl (cF rfl (cF rfl rfl)))))
  | lit m =>
    refine f55 _ _ (cT rfl (cd (fun hm => tbR ?_) (fun hm => tbR ?_)))
    · have hm : 0 ≤ m := hm
      exact decide_eq_decide.2 ⟨fun h => h.2, fun h => ⟨hm, h⟩⟩
    · have hm : ¬ 0 ≤ m := hm
      exact decide_eq_false (fun h => hm h.1)
  | ref s => exact f55 _ _ (cF rfl (cT rfl ⟨_, r75 s hw, rfl⟩))
  | not x =>
    have e : (E.not x).snd = (E.not x).ops.all E.snd := by simp [E.snd, E.ops]
    rw [e]
    exact f55 _ _ (cF rfl (cF rfl (cT rfl (cF rfl hall))))
  | neg x =>
    have e : (E.neg x).snd = (E.neg x).ops.all E.snd := by simp [E.snd, E.ops]
    rw [e]
    exact f55 _ _ (cF rfl (cF rfl (cF rfl (cT rfl (cF rfl hall)))))
  | bin op l r =>
    refine f55 _ _ (cF rfl (cF rfl (cF rfl (cF rfl (cT rfl (cT rfl ⟨_, r76 op, cb (fun hb => tbR ?_) (fun hb => ?_)⟩))))))
    · have hb : decide (lvl op ≠ 0) = false := by simpa using hb
      simp [E.snd, hb]
    · have hb : decide (lvl op ≠ 0) = true := by simpa using hb
      have e : (E.bin op l r).snd = (E.bin op l r).ops.all E.snd := by simp only [E.snd, E.ops, hb, List.all_cons, List.all_nil, Bool.and_true, Bool.true_and]
      rw [e]
      exact hall
theorem r37 (x : E) (hw : x.wf) : Rn 37 [x.d.t] (tb x.ok, [.dead]) := by
  refine f37 _ _ ⟨_, r53 x, cd (fun h => ?_) (fun h => tbR ?_)⟩
  · have h40 : x.nodes ≤ 40 := by unfold least at h; split at h <;> omega
    refine ⟨_, r54 x h40, cd (fun h12 => ⟨_, r55 x hw, tbR ?_⟩) (fun h12 => tbR ?_)⟩
    · rw [E.ok, decide_eq_true h40, Bool.true_and, E.sd, leB_t h12, Bool.and_true]
    · rw [E.ok, E.sd, leB_f h12, Bool.and_false, Bool.and_false]
  · have : ¬ x.nodes ≤ 40 := by unfold least at h; split at h <;> omega
    rw [E.ok, decide_eq_false this, Bool.false_and]
end Go.Proofs.YthcaodlfnlhfbaaGreatDoorT

/- The text of an expression, by the document. -/
namespace Go.Proofs.YthcaodlfnlhfbaaGreatDoorT
open Go Go.Proofs
set_option linter.unusedVariables false
theorem r40 (s : ByteArray) : Rn 40 [st s] (i64 (lvl s), [.dead]) := by
  refine f40 _ _ ?_
  refine cd (fun h => ?_) (fun h1 => ?_)
  · subst h; exact rfl
  refine cd (fun h => ?_) (fun h2 => ?_)
  · subst h; exact rfl
  refine cd (fun h => ?_) (fun h3 => ?_)
  · subst h; exact rfl
  refine cd (fun h => ?_) (fun h4 => ?_)
  · subst h; exact rfl
  refine cd (fun h => ?_) (fun h5 => ?_)
  · subst h; exact rfl
  refine cd (fun h => ?_) (fun h6 => ?_)
  · subst h; exact rfl
  refine cd (fun h => ?_) (fun h7 => ?_)
  · subst h; exact rfl
  refine cd (fun h => ?_) (fun h8 => ?_)
  · subst h; exact rfl
  refine cd (fun h => ?_) (fun h9 => ?_)
  · subst h; exact rfl
  have : lvl s = 0 := by simp only [lvl, h1, h2, h3, h4, h5, h6, h7, h8, h9, if_false, or_self]
  rw [this]; rfl
theorem r56 (x : E) : Rn 56 [x.d.t] (i64 (x.str : Int), [.dead]) := by
  cases x with
  | bin op l r => exact f56 _ _ (cT rfl ⟨_, r40 op, rfl⟩)
  | _ => exact f56 _ _ (cF rfl rfl)
theorem r39 {x : E} (h : Rn 26 [x.d.t] (st x.txt, [.dead])) (hz : x.txt.size ≤ 4000) (m : Nat) : Rn 39 [x.d.t, i64 (m : Int)] (st (wrp x.str m x.txt), [.dead, .dead]) := by
  refine f39 _ _ _ ⟨_, r56 x, cd (fun hm => ⟨_, h, by rw [size_bs]; simp; omega, by rw [size_append, size_bs, size_bs]; simp; omega, ?_⟩) (fun hm => ⟨_, h, ?_⟩)⟩
  · rw [wrp, if_pos (by omega)]
  · rw [wrp, if_neg (by omega)]
theorem r26 : ∀ x : E, x.snd = true → x.nodes ≤ 40 → Rn 26 [x.d.t] (st x.txt, [.dead]) := by
  intro x
  induction x with
  | non => intro h; cases h
  | lit n =>
    intro h hn
    simp only [E.snd, decide_eq_true_eq] at h
    exact f26 _ _ (cT rfl ⟨_, r31 h, rfl⟩)
  | ref s => exact fun h hn => f26 _ _ (cF rfl (cT rfl rfl))
  | not x ih =>
    intro h hn
    simp only [E.nodes] at hn
    have hz := small_of (x := x) h (by omega)
    have := wrp_size x.str 6 x.txt
    exact f26 _ _ (cF rfl (cF rfl (cT rfl ⟨x.d, ⟨by omega, rfl⟩, _, r39 (ih h (by omega)) hz 6, by rw [size_bs]; simp; omega, rfl⟩)))
  | neg x ih =>
    intro h hn
    simp only [E.nodes] at hn
    have hz := small_of (x := x) h (by omega)
    have := wrp_size x.str 6 x.txt
    exact f26 _ _ (cF rfl (cF rfl (cF rfl (cT rfl ⟨x.d, ⟨by omega, rfl⟩, _, r39 (ih h (by omega)) hz 6, by rw [size_bs]; simp; omega, rfl⟩))))
  | bin op l r ih1 ih2 =>
    intro h hn
    simp only [E.nodes] at hn
    simp only [E.snd, Bool.and_eq_true, decide_eq_true_eq] at h
    have hl := small_of h.1.2 (by omega)
    have hr := small_of h.2 (by omega)
    have hop := lvl_size h.1.1
    have hle := lvl_le op
    have w1 := wrp_size l.str (lft (lvl op)) l.txt
    have w2 := wrp_size r.str (lvl op + 1) r.txt
    have a1 := r39 (ih1 h.1.2 (by omega)) hl (lft (lvl op))
    have a2 := r39 (ih2 h.2 (by omega)) hr (lvl op + 1)
    have e1 : IntKind.wrap .i64 ((lvl op : Int) + 1) = ((lvl op + 1 : Nat) : Int) := wS (by omega)
    refine f26 _ _ (cF rfl (cF rfl (cF rfl (cF rfl ⟨_, r40 op, cd (fun h3 => ?_) (fun h3 => ?_)⟩))))
    · have h3 : lvl op = 3 := by omega
      have e2 : lft (lvl op) = 4 := by rw [h3]; rfl
      rw [e1]
      rw [e2] at a1 w1
      refine ⟨l.d, ⟨by omega, rfl⟩, _, a1, ?_, ?_, ?_, r.d, ⟨by omega, rfl⟩, _, a2, ?_, ?_⟩
      all_goals try (simp only [E.d, size_append, size_bs]; simp; omega)
      rw [E.txt, e2]
      rfl
    · have h3 : lvl op ≠ 3 := by omega
      have e2 : lft (lvl op) = lvl op := by rw [lft, if_neg h3]
      rw [e1]
      rw [e2] at a1 w1
      refine ⟨l.d, ⟨by omega, rfl⟩, _, a1, ?_, ?_, ?_, r.d, ⟨by omega, rfl⟩, _, a2, ?_, ?_⟩
      all_goals try (simp only [E.d, size_append, size_bs]; simp; omega)
      rw [E.txt, e2]
      rfl
theorem r25 (x : E) (hw : x.wf) : Rn 25 [x.d.t] (tb (x.ok && x.plain), [.dead]) := by
  refine f25 _ _ ⟨_, r37 x hw, ?_⟩
  cases x.ok with
  | false => exact rfl
  | true => exact ⟨_, r38 x, rfl⟩
end Go.Proofs.YthcaodlfnlhfbaaGreatDoorT

/- GuardPrints. -/
namespace Go.Proofs.YthcaodlfnlhfbaaGreatDoorT
open Go Go.Proofs
set_option linter.unusedVariables false
theorem r13 (x : E) (hw : x.wf) : Rn 13 [x.d.t] (.tup [st (prt x).1, i64 (prt x).2], [.dead]) := by
  refine f13 _ _ ⟨_, r25 x hw, ?_⟩
  unfold prt
  cases h : (x.ok && x.plain) with
  | false => exact rfl
  | true =>
    have hp := ok_parts (Bool.and_eq_true_iff.1 h).1
    exact ⟨_, r26 x hp.2 hp.1, rfl⟩
theorem guardPrints_row {n : Nat} {w : W_tumbrelref04_Node} (hS : ByteArray.size w.fS ≤ maxLen) (hs : ∃ m, m < n ∧ SlT Tryz.prog m 24 w.fParts) (s : ByteArray) : Rn 5 [w.t, st s] (tb true, [.dead, .dead]) := by
  obtain ⟨m, _, hs⟩ := hs
  obtain ⟨b, h7⟩ := r7 hs
  refine f5 _ _ _ ⟨_, r6, cF rfl ⟨_, h7, ?_⟩⟩
  cases b with
  | false => exact cT rfl ⟨_, r6, rfl⟩
  | true =>
    obtain ⟨x, hwf, h9, h14⟩ := raw m w hS hs
    exact cF rfl ⟨_, h9, _, _, r8 x hwf, _, h14, _, _, r13 x hwf, cT (by simp) (cT (by simp) ⟨_, r15 s, _, r16 s, tbR (by simp)⟩)⟩
end Go.Proofs.YthcaodlfnlhfbaaGreatDoorT
