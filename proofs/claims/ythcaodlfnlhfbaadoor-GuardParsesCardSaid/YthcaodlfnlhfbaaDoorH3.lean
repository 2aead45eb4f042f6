/- The program's reader of expressions comes to what the words say. -/
import Derived.Test.YthcaodlfnlhfbaaDoorH2
import Derived.Test.YthcaodlfnlhfbaaDoorX7
namespace Go.Proofs.YthcaodlfnlhfbaaDoorT
open Go Go.Proofs
set_option linter.unusedVariables false
theorem r101 (s : ByteArray) : Rn 101 [st s] (tb (resv s), [.dead]) := f101 _ _ ⟨_, r91 RS s (by decide), rfl⟩
/-- The rows of operators, the weakest first. -/
def LV : List (List ByteArray) := [[], [bs [124, 124]], [bs [38, 38]], [bs [60], bs [60, 61], bs [61, 61], bs [33, 61]], [bs [43], bs [45]], [bs [42]]]
def LVT : List T := LV.map fun l => .sl 1 (l.map st)
theorem r84 (s : ByteArray) : Rn 84 [st s] (i64 (lvl s), [.dead]) := by
  refine f84 _ _ ?_
  show L84_0 s 6 0 LVT _
  have step : ∀ (k : Nat) (l : List ByteArray) (R : T × List T), k < 6 → LV[k]? = some l → l.length ≤ 1000 → ((l.any fun y => decide (s = y)) = true → R = (i64 k, [.dead])) → ((l.any fun y => decide (s = y)) = false → L84_0 s 6 ((k + 1 : Nat) : Int) LVT R) → L84_0 s 6 (k : Int) LVT R := by
    intro k l R hk hl hn ht hf
    refine l84_0 _ _ _ _ _ (cT (by simp; omega) ⟨⟨by omega, by show (k : Int) < ((6 : Nat) : Int); omega⟩, l.map st, ?_, _, r91 l s hn, cb (fun h => ht h) (fun h => ?_)⟩)
    · rw [toN, LVT, List.getElem?_map, hl]; rfl
    · rw [wS (by omega)]; exact hf h
  have hlv : ∀ k : Nat, lvl s = k → (i64 (lvl s), [.dead]) = ((i64 (k : Int), [.dead]) : T × List T) := fun k h => by rw [h]
  refine step 0 _ _ (by decide) rfl (by decide) (fun h => by simp at h) (fun h0 => ?_)
  refine step 1 _ _ (by decide) rfl (by decide) (fun h => hlv 1 (by simp at h; subst h; decide)) (fun h1 => ?_)
  refine step 2 _ _ (by decide) rfl (by decide) (fun h => hlv 2 (by simp at h; subst h; decide)) (fun h2 => ?_)
  refine step 3 _ _ (by decide) rfl (by decide) (fun h => hlv 3 (by simp at h; rcases h with h | h | h | h <;> subst h <;> decide)) (fun h3 => ?_)
  refine step 4 _ _ (by decide) rfl (by decide) (fun h => hlv 4 (by simp at h; rcases h with h | h <;> subst h <;> decide)) (fun h4 => ?_)
  refine step 5 _ _ (by decide) rfl (by decide) (fun h => hlv 5 (by simp at h; subst h; decide)) (fun h5 => ?_)
  refine l84_0 _ _ _ _ _ (cF (by decide) ?_)
  simp at h1 h2 h3 h4 h5
  rw [show lvl s = 0 by unfold lvl; simp_all]
  rfl
abbrev ps (ws : List W_glyph_Word) (a : Nat) (b : Bool) : T := .cbox 111 [.sl 4 (ws.map W_glyph_Word.t), i64 (a : Int), tb b]
theorem r83 {ws : List W_glyph_Word} {a : Nat} {w : W_glyph_Word} (h : ws[a]? = some w) (b : Bool) : Rn 83 [ps ws a b] (w.t, [ps ws a b]) := by
  have hlt := (List.getElem?_eq_some_iff.1 h).1
  refine f83 _ _ _ _ (cT (by simp; omega) ⟨w, ⟨by omega, ?_⟩, rfl⟩)
  rw [toN, List.getElem?_map, h]; rfl
theorem r83n {ws : List W_glyph_Word} {a : Nat} (h : ws[a]? = none) (b : Bool) : Rn 83 [ps ws a b] ((⟨0, bs [], 0, 0⟩ : W_glyph_Word).t, [ps ws a b]) := by
  have hlt := List.getElem?_eq_none_iff.1 h
  exact f83 _ _ _ _ (cF (by simp; omega) rfl)
/-- What is to be shown of the program's functions. -/
def Mp (ws : List W_glyph_Word) : Tag → E → Nat → Bool → Prop
  | .sg a, x, a', b => Rn 82 [ps ws a false] (x.v.v, [ps ws a' b])
  | .cl k a, x, a', b => 1 ≤ k → k ≤ 6 → Rn 57 [ps ws a false, i64 (k : Int)] (x.v.v, [ps ws a' b, .dead])
  | .lp k m y a c, x, a', b => 1 ≤ k → L57_0 k y.v m ⟨ws.map W_glyph_Word.t, a, c⟩ (x.v.v, [ps ws a' b, .dead])
theorem pr_prog {ws : List W_glyph_Word} (hw : ∀ w ∈ ws, Kd w) (hs : ∀ w ∈ ws, w.fText.size ≤ 12000) (hn : ws.length ≤ 3000) {t : Tag} {x : E} {a' : Nat} {b : Bool} (h : Pr ws t x a' b) : Mp ws t x a' b := by
  have idx : ∀ {a : Nat} {w : W_glyph_Word}, ws[a]? = some w → a < 3000 := fun h => by have := (List.getElem?_eq_some_iff.1 h).1; omega
  induction h with
  | sEnd h => exact f82 _ _ _ _ ⟨_, _, _, _, r83n h false, cT rfl rfl⟩
  | @sNum a w h hk =>
    have hi := idx h
    have hm := List.mem_of_getElem? h
    have hv : ∃ v, numV w.fText = some v := by
      rcases hw w hm with h | h | h
      · omega
      · exact Option.isSome_iff_exists.1 h.2
      · omega
    obtain ⟨v, hv⟩ := hv
    have hs' := hs w hm
    refine f82 _ _ _ _ ⟨_, _, _, _, r83 h false, cF (by simp [hk]) (cF rfl (cT (by simp [hk]) ⟨_, _, runs100 w.fText v hv (by omega), ?_⟩))⟩
    rw [wS (by omega)]
    simp only [num, hv, Option.getD_some]
    rfl
  | @sRef a w h hk hr =>
    have hi := idx h
    have h101 := r101 w.fText
    rw [hr] at h101
    refine f82 _ _ _ _ ⟨_, _, _, _, r83 h false, cF (by simp [hk]) (cF rfl (cF (by simp [hk]) (cT (by simp [hk]) ⟨_, h101, cT rfl ?_⟩)))⟩
    rw [wS (by omega)]
    rfl
  | @sNot a a1 w x b h hk ht hx ih =>
    have hi := idx h
    refine f82 _ _ _ _ ⟨_, _, _, _, r83 h false, cF (by simp [hk]) (cF rfl (cF (by simp [hk]) (cF (by simp [hk]) (cT (by simp [ht]) ⟨x.v, _, _, _, ?_, rfl⟩))))⟩
    rw [wS (by omega)]
    exact ih
  | @sNeg a a1 w x b h hk ht hx ih =>
    have hi := idx h
    refine f82 _ _ _ _ ⟨_, _, _, _, r83 h false, cF (by simp [hk]) (cF rfl (cF (by simp [hk]) (cF (by simp [hk]) (cF (by rw [ht]; decide) (cT (by simp [ht]) ⟨x.v, _, _, _, ?_, rfl⟩)))))⟩
    rw [wS (by omega)]
    exact ih
  | @sPar a a1 w v x h hk ht hx h' hv ih =>
    have hi := idx h
    have hi' := idx h'
    refine f82 _ _ _ _ ⟨_, _, _, _, r83 h false, cF (by simp [hk]) (cF rfl (cF (by simp [hk]) (cF (by simp [hk]) (cF (by rw [ht]; decide) (cF (by rw [ht]; decide) (cT (by simp [ht]) ⟨x.v, _, _, _, ?_, cT rfl ⟨_, _, _, _, r83 h' false, cT (by simp [hv]) ?_⟩⟩))))))⟩
    · rw [wS (by omega)]
      exact ih (by omega) (by omega)
    · rw [wS (by omega)]
  | @sParN a a1 w x b h hk ht hx hb ih =>
    have hi := idx h
    refine f82 _ _ _ _ ⟨_, _, _, _, r83 h false, cF (by simp [hk]) (cF rfl (cF (by simp [hk]) (cF (by simp [hk]) (cF (by rw [ht]; decide) (cF (by rw [ht]; decide) (cT (by simp [ht]) ⟨x.v, ws.map W_glyph_Word.t, (a1 : Int), b, ?_, ?_⟩))))))⟩
    · rw [wS (by omega)]
      exact ih (by omega) (by omega)
    · cases b with
      | true => exact cF rfl rfl
      | false =>
        refine cT rfl ?_
        cases hg : ws[a1]? with
        | none => exact ⟨_, _, _, _, r83n hg false, cF (by decide) rfl⟩
        | some v => exact ⟨_, _, _, _, r83 hg false, cF (by simpa using hb rfl v hg) rfl⟩
  | @sBad a w h hk =>
    have hi := idx h
    have e : IntKind.wrap .i64 (IntKind.wrap .i64 ((a : Int) + 1) - 1) = (a : Int) := by rw [wS (by omega), w64 (by omega)]; omega
    rcases hk with ⟨hk, hr⟩ | ⟨hk, h1, h2, h3⟩
    · have h101 := r101 w.fText
      rw [hr] at h101
      have hnm : nm w.fText = true := by
        rcases hw w (List.mem_of_getElem? h) with h | h | h
        · exact h.2
        · omega
        · omega
      have ne : ∀ s : ByteArray, nm s = false → decide (w.fText = s) = false := fun s hs => decide_eq_false (fun e => by rw [e, hs] at hnm; cases hnm)
      refine f82 _ _ _ _ ⟨_, _, _, _, r83 h false, cF (by simp [hk]) (cF rfl (cF (by simp [hk]) (cT (by simp [hk]) ⟨_, h101, cF rfl (cF (ne _ (by decide +kernel)) (cF (ne _ (by decide +kernel)) (cF (ne _ (by decide +kernel)) ?_)))⟩)))⟩
      rw [e]; rfl
    · refine f82 _ _ _ _ ⟨_, _, _, _, r83 h false, cF (by simp [hk]) (cF rfl (cF (by simp [hk]) (cF (by simp [hk]) (cF (by simpa using h1) (cF (by simpa using h2) (cF (by simpa using h3) ?_))))))⟩
      rw [e]; rfl
  | clm h h' ih ih' =>
    intro hk1 hk
    exact f57 _ _ _ _ _ ⟨_, _, _, _, ih, ih' hk1⟩
  | lBad => intro hk; exact l57_0 _ _ _ _ _ (cF rfl rfl)
  | @lEnd k m a x h =>
    intro hk
    cases hg : ws[a]? with
    | none => exact l57_0 _ _ _ _ _ (cT rfl ⟨_, _, _, _, r83n hg false, _, r84 _, cT (by decide) rfl⟩)
    | some w =>
      refine l57_0 _ _ _ _ _ (cT rfl ⟨_, _, _, _, r83 hg false, _, r84 _, cdn (fun _ => rfl) (fun h3 => cd (fun _ => rfl) (fun h4 => cd (fun _ => rfl) (fun h5 => ?_)))⟩)
      have := h w hg h3
      omega
  | @lBin k m a a1 a2 x y z b1 b2 w h hk h1 h2 hy hz ihy ihz =>
    intro hk1
    have hi := idx h
    have hl := lvl_le w.fText
    refine l57_0 _ _ _ _ _ (cT rfl ⟨_, _, _, _, r83 h false, _, r84 _, cF (by simp [hk]) (cF (by simp; omega) (cF (by simp; omega) ⟨y.v, ws.map W_glyph_Word.t, (a1 : Int), b1, ?_, cd (fun h3 => ?_) (fun h3 => ?_)⟩))⟩)
    · rw [wS (by omega), wS (by omega)]
      exact ihy (by omega) (by omega)
    · have := ihz hk1
      rw [if_pos (by omega)] at this
      rw [w64 (by omega), show ((lvl w.fText : Nat) : Int) - 1 = ((2 : Nat) : Int) by omega]
      exact this
    · have := ihz hk1
      rw [if_neg (by omega)] at this
      exact this
end Go.Proofs.YthcaodlfnlhfbaaDoorT
