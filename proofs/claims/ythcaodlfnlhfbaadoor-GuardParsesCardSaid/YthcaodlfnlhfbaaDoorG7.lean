/- The word that a text begins with: the program's, the document's. -/
import Derived.Test.YthcaodlfnlhfbaaDoorG6
namespace Go.Proofs.YthcaodlfnlhfbaaDoorT
open Go Go.Proofs
set_option linter.unusedVariables false
/-- The kind of the word that a text begins with, its bytes, its runes. -/
def fst (t : ByteArray) : Option (Nat × Nat × Nat) :=
  if ltr (Lib.decodeGo t).1 = true then (if nm (t.extract 0 (run t t.size 0 0).1) = true then some (1, (run t t.size 0 0).1, (run t t.size 0 0).2) else none)
  else if dig (Lib.decodeGo t).1 = true then (if numB (t.extract 0 (run t t.size 0 0).1) = true then some (2, (run t t.size 0 0).1, (run t t.size 0 0).2) else none)
  else if sgn t = 0 then none else some (3, sgn t, sgn t)
theorem size_pre (t : ByteArray) {n : Nat} (h : n ≤ t.size) : (t.extract 0 n).size = n := by
  rw [← bl_len, bl_extract, List.drop_zero, List.length_take, bl_len]
  omega
theorem sgn_le {t : ByteArray} (h : 0 < t.size) : sgn t ≤ t.size := by
  unfold sgn
  split
  · rename_i h'; omega
  · split <;> omega
def fstR (o : Option (Nat × Nat × Nat)) : T := match o with
  | some (k, n, r) => .tup [i64 k, i64 n, i64 r]
  | none => .tup [i64 0, i64 0, i64 0]
/-- The lexer, as it is handed on. -/
abbrev lx (s : ByteArray) (l : List T) (n : Int) (b : Bool) (n1 n2 : Int) : T := .cbox 73 [st s, mnC 30 4 l, i64 n, tb b, i64 n1, i64 n2]
theorem r87 (s : ByteArray) (l : List T) (n : Int) (b : Bool) (n1 n2 : Int) (i : Nat) (hi : i ≤ s.size) (hs : s.size ≤ 140737488355328) :
    Rn 87 [lx s l n b n1 n2, i64 i] (i64 (run (suf s i) (suf s i).size 0 0).1, [lx s l n b n1 n2, .dead]) := by
  have hz := size_suf s i
  generalize ht : suf s i = t at hz ⊢
  have loop : ∀ (f pos k : Nat), t.size ≤ pos + f → pos ≤ t.size → L87_0 (i : Int) s l n b n1 n2 t pos (i64 (run t f pos k).1, [lx s l n b n1 n2, .dead]) := by
    intro f
    induction f with
    | zero =>
      intro pos k h h'
      refine l87_0 _ _ _ _ _ _ _ _ _ _ (cF (bleF (by omega)) ?_)
      rw [w64 (by omega), run, show ((s.size : Nat) : Int) - (i : Int) = ((pos : Nat) : Int) by omega]
    | succ f ih =>
      intro pos k h h'
      refine l87_0 _ _ _ _ _ _ _ _ _ _ (cble (fun hn => ⟨_, r39 _, cb (fun h2 => ?_) (fun h2 => ?_)⟩) (fun hn => ?_))
      · rw [run, if_neg (by simp at h2; simp [h2])]
      · have h2 : ins (Utf8.decode t pos).1 = true := by simpa using h2
        have := dec_size (s := t) (i := pos) (by omega)
        rw [run, if_pos ⟨by omega, h2⟩]
        exact ih _ _ (by omega) (by omega)
      · rw [w64 (by omega), run_end _ _ _ (by omega), show ((s.size : Nat) : Int) - (i : Int) = ((pos : Nat) : Int) by omega]
  refine f87 _ _ _ _ _ _ _ _ ⟨⟨by omega, by omega⟩, ?_⟩
  rw [toN]
  have e : s.extract i s.size = t := ht
  rw [e]
  exact loop _ _ _ (by omega) (by omega)
/-- A word as it lies in memory. -/
def wd (k : Nat) (w : ByteArray) (n1 n2 : Int) : W_glyph_Word := ⟨k, w, n1, n2⟩
theorem r59 (s : ByteArray) (l : List T) (n : Int) (b : Bool) (n1 n2 : Int) (i : Nat) (hi : i < s.size) (hs : s.size ≤ 140737488355328) :
    ∃ w : W_glyph_Word, Rn 59 [lx s l n b n1 n2, i64 i, i32 (Utf8.decode s i).1] (.tup [w.t, tb (fst (suf s i)).isSome], [lx s l n b n1 n2, .dead, .dead]) ∧
      ∀ k m r, fst (suf s i) = some (k, m, r) → w = wd k ((suf s i).extract 0 m) n1 n2 := by
  have hz := size_suf s i
  have hgo : Lib.decodeGo (suf s i) = Utf8.decode s i := by rw [dec_go, if_neg (by omega), dec_suf, Nat.add_zero]
  have h87 := r87 s l n b n1 n2 i (by omega) hs
  have hq := run_le (t := suf s i) (suf s i).size 0 0 (by omega)
  have e : s.extract i s.size = suf s i := rfl
  generalize ht : suf s i = t at hz hgo h87 hq e ⊢
  have hx : (t.extract 0 (run t t.size 0 0).1).size = (run t t.size 0 0).1 := size_pre t hq.2.1
  have hm : (run t t.size 0 0).1 ≤ maxLen := Nat.le_trans (Nat.le_trans hq.2.1 (by omega)) maxLen_big
  by_cases hl : ltr (Utf8.decode s i).1 = true
  · refine ⟨wd 1 (t.extract 0 (run t t.size 0 0).1) n1 n2, f59 _ _ _ _ _ _ _ _ _ ⟨⟨by omega, by omega⟩, _, r15 _, cT hl ⟨_, h87, ?_⟩⟩, ?_⟩
    · rw [toN, toN, e]
      refine ⟨⟨by omega, by omega⟩, _, r13 _ (by omega), ?_⟩
      have hf : (fst t).isSome = nm (t.extract 0 (run t t.size 0 0).1) := by
        rw [fst, hgo, if_pos hl]
        split
        · rename_i h; rw [h]; rfl
        · rename_i h; simpa using h
      rw [hf]; rfl
    · intro k m r hk
      rw [fst, hgo, if_pos hl] at hk
      split at hk
      · simp only [Option.some.injEq, Prod.mk.injEq] at hk
        obtain ⟨rfl, rfl, rfl⟩ := hk; rfl
      · cases hk
  have hl : ltr (Utf8.decode s i).1 = false := by simpa using hl
  by_cases hd : dig (Utf8.decode s i).1 = true
  · refine ⟨wd 2 (t.extract 0 (run t t.size 0 0).1) n1 n2, f59 _ _ _ _ _ _ _ _ _ ⟨⟨by omega, by omega⟩, _, r15 _, cF hl ⟨_, r60 _, cT hd ⟨_, h87, ?_⟩⟩⟩, ?_⟩
    · rw [toN, toN, e]
      refine ⟨⟨by omega, by omega⟩, _, r88 _ (by omega), ?_⟩
      have hf : (fst t).isSome = numB (t.extract 0 (run t t.size 0 0).1) := by
        rw [fst, hgo, if_neg (by rw [hl]; simp), if_pos hd]
        split
        · rename_i h; rw [h]; rfl
        · rename_i h; simpa using h
      rw [hf]; rfl
    · intro k m r hk
      rw [fst, hgo, if_neg (by rw [hl]; simp), if_pos hd] at hk
      split at hk
      · simp only [Option.some.injEq, Prod.mk.injEq] at hk
        obtain ⟨rfl, rfl, rfl⟩ := hk; rfl
      · cases hk
  have hd : dig (Utf8.decode s i).1 = false := by simpa using hd
  have hf : fst t = if sgn t = 0 then none else some (3, sgn t, sgn t) := by rw [fst, hgo, if_neg (by rw [hl]; simp), if_neg (by rw [hd]; simp)]
  have hfind := sg_find (t := t) (by omega)
  have loop : ∀ (d k : Nat), k + d = 15 → (sg.take k).find? (hasP t) = none →
      L59_0 t 15 (k : Int) s l n b n1 n2 ⟨0, bs [], 0, 0⟩ (sg.map st) (.tup [(match sg.find? (hasP t) with | some p => wd 3 p n1 n2 | none => wd 0 (bs []) 0 0).t, tb (sg.find? (hasP t)).isSome], [lx s l n b n1 n2, .dead, .dead]) := by
    intro d
    induction d with
    | zero =>
      intro k hk hn
      have hk : k = 15 := by omega
      subst hk
      have : sg.take 15 = sg := rfl
      rw [this] at hn
      rw [hn]
      exact l59_0 _ _ _ _ _ _ _ _ _ _ _ _ (cF (by decide) rfl)
    | succ d ih =>
      intro k hk hn
      have hlt : k < sg.length := by show k < 15; omega
      have hsplit : sg = sg.take k ++ sg[k] :: sg.drop (k + 1) := by rw [← List.drop_eq_getElem_cons hlt, List.take_append_drop]
      refine l59_0 _ _ _ _ _ _ _ _ _ _ _ _ (cT (by simp; omega) ⟨⟨by omega, by rw [len_map]; show (k : Int) < 15; omega⟩, sg[k], getm hlt, _, r89 _ _, cb (fun h => ?_) (fun h => ?_)⟩)
      · have h9 : (sg.take k ++ sg[k] :: sg.drop (k + 1)).find? (hasP t) = some sg[k] := by rw [List.find?_append, hn, Option.none_or, List.find?_cons_of_pos h]
        have hf : sg.find? (hasP t) = some sg[k] := by rwa [← hsplit] at h9
        rw [hf]; rfl
      · rw [wS (by omega)]
        refine ih (k + 1) (by omega) ?_
        rw [List.take_succ_eq_append_getElem hlt, List.find?_append, hn, Option.none_or, List.find?_cons_of_neg (by rw [h]; simp)]
        rfl
  have hL := loop 15 0 rfl rfl
  refine ⟨match sg.find? (hasP t) with | some p => wd 3 p n1 n2 | none => wd 0 (bs []) 0 0, f59 _ _ _ _ _ _ _ _ _ ⟨⟨by omega, by omega⟩, _, r15 _, cF hl ⟨_, r60 _, cF hd ?_⟩⟩, ?_⟩
  · rw [toN, e]
    have he : (fst t).isSome = (sg.find? (hasP t)).isSome := by rw [hf, hfind]; split <;> rfl
    rw [he]
    exact hL
  · intro k m r hk
    rw [hf] at hk
    split at hk
    · cases hk
    · rename_i h
      rw [hfind, if_neg h]
      simp only [Option.some.injEq, Prod.mk.injEq] at hk
      obtain ⟨rfl, rfl, rfl⟩ := hk; rfl
end Go.Proofs.YthcaodlfnlhfbaaDoorT
