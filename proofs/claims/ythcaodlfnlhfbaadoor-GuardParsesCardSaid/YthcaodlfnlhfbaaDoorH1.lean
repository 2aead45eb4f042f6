/- Expressions; what words say, as rules. -/
import Derived.Test.YthcaodlfnlhfbaaDoorG13
namespace Go.Proofs.YthcaodlfnlhfbaaDoorT
open Go Go.Proofs
set_option linter.unusedVariables false
inductive E where
  | non
  | lit (n : Int)
  | ref (s : ByteArray)
  | not (x : E)
  | neg (x : E)
  | bin (op : ByteArray) (l r : E)
  deriving Inhabited
/-- How strongly an operator binds; 0: it is none. -/
def lvl (s : ByteArray) : Nat :=
  if s = bs [124, 124] then 1 else if s = bs [38, 38] then 2
  else if s = bs [60] ∨ s = bs [60, 61] ∨ s = bs [61, 61] ∨ s = bs [33, 61] then 3
  else if s = bs [43] ∨ s = bs [45] then 4 else if s = bs [42] then 5 else 0
theorem lvl_le (s : ByteArray) : lvl s ≤ 5 := by
  unfold lvl
  repeat' split
  all_goals omega
/-- chart var state all end do undo at retries on if go set. -/
def RS : List ByteArray := [bs [99, 104, 97, 114, 116], bs [118, 97, 114], bs [115, 116, 97, 116, 101], bs [97, 108, 108], bs [101, 110, 100], bs [100, 111], bs [117, 110, 100, 111], bs [97, 116], bs [114, 101, 116, 114, 105, 101, 115], bs [111, 110], bs [105, 102], bs [103, 111], bs [115, 101, 116]]
def resv (s : ByteArray) : Bool := RS.any fun x => decide (s = x)
def num (s : ByteArray) : Nat := (numV s).getD 0
/-- What is read: one that stands alone; operators of a level and stronger ones; those behind what has been read. -/
inductive Tag where
  | sg (a : Nat)
  | cl (k a : Nat)
  | lp (k m : Nat) (x : E) (a : Nat) (b : Bool)
/-- The expression that is read, up to where, and whether it can't go on there. -/
inductive Pr (ws : List W_glyph_Word) : Tag → E → Nat → Bool → Prop
  | sEnd {a : Nat} (h : ws[a]? = none) : Pr ws (.sg a) .non a true
  | sNum {a : Nat} {w : W_glyph_Word} (h : ws[a]? = some w) (hk : w.fKind = 2) : Pr ws (.sg a) (.lit (num w.fText)) (a + 1) false
  | sRef {a : Nat} {w : W_glyph_Word} (h : ws[a]? = some w) (hk : w.fKind = 1) (hr : resv w.fText = false) : Pr ws (.sg a) (.ref w.fText) (a + 1) false
  | sNot {a a' : Nat} {w : W_glyph_Word} {x : E} {b : Bool} (h : ws[a]? = some w) (hk : w.fKind = 3) (ht : w.fText = bs [33]) (hx : Pr ws (.sg (a + 1)) x a' b) : Pr ws (.sg a) (.not x) a' b
  | sNeg {a a' : Nat} {w : W_glyph_Word} {x : E} {b : Bool} (h : ws[a]? = some w) (hk : w.fKind = 3) (ht : w.fText = bs [45]) (hx : Pr ws (.sg (a + 1)) x a' b) : Pr ws (.sg a) (.neg x) a' b
  | sPar {a a' : Nat} {w v : W_glyph_Word} {x : E} (h : ws[a]? = some w) (hk : w.fKind = 3) (ht : w.fText = bs [40]) (hx : Pr ws (.cl 1 (a + 1)) x a' false) (h' : ws[a']? = some v) (hv : v.fText = bs [41]) : Pr ws (.sg a) x (a' + 1) false
  | sParN {a a' : Nat} {w : W_glyph_Word} {x : E} {b : Bool} (h : ws[a]? = some w) (hk : w.fKind = 3) (ht : w.fText = bs [40]) (hx : Pr ws (.cl 1 (a + 1)) x a' b) (hb : b = false → ∀ v, ws[a']? = some v → v.fText ≠ bs [41]) : Pr ws (.sg a) .non a' true
  | sBad {a : Nat} {w : W_glyph_Word} (h : ws[a]? = some w) (hk : (w.fKind = 1 ∧ resv w.fText = true) ∨ (w.fKind = 3 ∧ w.fText ≠ bs [33] ∧ w.fText ≠ bs [45] ∧ w.fText ≠ bs [40])) : Pr ws (.sg a) .non a true
  | clm {k a a1 a2 : Nat} {x y : E} {b1 b2 : Bool} (h : Pr ws (.sg a) x a1 b1) (h' : Pr ws (.lp k 6 x a1 b1) y a2 b2) : Pr ws (.cl k a) y a2 b2
  | lBad {k m a : Nat} {x : E} : Pr ws (.lp k m x a true) x a true
  | lEnd {k m a : Nat} {x : E} (h : ∀ w, ws[a]? = some w → w.fKind = 3 → lvl w.fText < k ∨ m < lvl w.fText) : Pr ws (.lp k m x a false) x a false
  | lBin {k m a a1 a2 : Nat} {x y z : E} {b1 b2 : Bool} {w : W_glyph_Word} (h : ws[a]? = some w) (hk : w.fKind = 3) (h1 : k ≤ lvl w.fText) (h2 : lvl w.fText ≤ m) (hy : Pr ws (.cl (lvl w.fText + 1) (a + 1)) y a1 b1)
      (hz : Pr ws (.lp k (if lvl w.fText = 3 then 2 else lvl w.fText) (.bin w.fText x y) a1 b1) z a2 b2) : Pr ws (.lp k m x a false) z a2 b2
/-- A word is of one of the kinds. -/
def Kd (w : W_glyph_Word) : Prop := (w.fKind = 1 ∧ nm w.fText = true) ∨ (w.fKind = 2 ∧ numB w.fText = true) ∨ w.fKind = 3
theorem kd_of_wd {w : W_glyph_Word} (h : Wd w) : Kd w := by
  obtain ⟨t, k, n, r, h0, hf, hk, ht⟩ := h
  unfold fst at hf
  split at hf
  · split at hf
    · rename_i hn
      simp only [Option.some.injEq, Prod.mk.injEq] at hf
      obtain ⟨rfl, rfl, rfl⟩ := hf
      exact .inl ⟨hk, by rw [ht]; exact hn⟩
    · cases hf
  · split at hf
    · split at hf
      · rename_i hn
        simp only [Option.some.injEq, Prod.mk.injEq] at hf
        obtain ⟨rfl, rfl, rfl⟩ := hf
        exact .inr (.inl ⟨hk, by rw [ht]; exact hn⟩)
      · cases hf
    · split at hf
      · cases hf
      · simp only [Option.some.injEq, Prod.mk.injEq] at hf
        obtain ⟨rfl, rfl, rfl⟩ := hf
        exact .inr (.inr hk)
/-- Something is read, whatever words there are; and the words that are read lie between. -/
theorem pr_total (ws : List W_glyph_Word) (hw : ∀ w ∈ ws, Kd w) : ∀ (n a : Nat), ws.length ≤ a + n → a ≤ ws.length →
    (∃ x a' b, Pr ws (.sg a) x a' b ∧ a ≤ a' ∧ a' ≤ ws.length ∧ (b = false → a < a')) ∧
    (∀ k m x b, ∃ y a' b', Pr ws (.lp k m x a b) y a' b' ∧ a ≤ a' ∧ a' ≤ ws.length) := by
  intro n
  induction n with
  | zero =>
    intro a h ha
    have he : ws[a]? = none := List.getElem?_eq_none (by omega)
    refine ⟨⟨_, _, _, .sEnd he, Nat.le_refl _, ha, fun h => by cases h⟩, fun k m x b => ?_⟩
    cases b with
    | true => exact ⟨_, _, _, .lBad, Nat.le_refl _, ha⟩
    | false => exact ⟨_, _, _, .lEnd (fun w hw => by rw [he] at hw; cases hw), Nat.le_refl _, ha⟩
  | succ n ih =>
    intro a h ha
    have cl : ∀ k a, ws.length ≤ a + n → a ≤ ws.length → ∃ y a' b', Pr ws (.cl k a) y a' b' ∧ a ≤ a' ∧ a' ≤ ws.length := by
      intro k a h ha
      obtain ⟨x, a1, b1, h1, h2, h3, _⟩ := (ih a h ha).1
      obtain ⟨y, a2, b2, h4, h5, h6⟩ := (ih a1 (by omega) h3).2 k 6 x b1
      exact ⟨_, _, _, .clm h1 h4, by omega, h6⟩
    cases hg : ws[a]? with
    | none =>
      refine ⟨⟨_, _, _, .sEnd hg, Nat.le_refl _, ha, fun h => by cases h⟩, fun k m x b => ?_⟩
      cases b with
      | true => exact ⟨_, _, _, .lBad, Nat.le_refl _, ha⟩
      | false => exact ⟨_, _, _, .lEnd (fun w hw => by rw [hg] at hw; cases hw), Nat.le_refl _, ha⟩
    | some w =>
      have hlt : a < ws.length := (List.getElem?_eq_some_iff.1 hg).1
      constructor
      · rcases hw w (List.mem_of_getElem? hg) with ⟨hk, hn⟩ | ⟨hk, hn⟩ | hk
        · cases hr : resv w.fText with
          | false => exact ⟨_, _, _, .sRef hg hk hr, by omega, by omega, fun _ => by omega⟩
          | true => exact ⟨_, _, _, .sBad hg (.inl ⟨hk, hr⟩), Nat.le_refl _, ha, fun h => by cases h⟩
        · exact ⟨_, _, _, .sNum hg hk, by omega, by omega, fun _ => by omega⟩
        · by_cases h1 : w.fText = bs [33]
          · obtain ⟨x, a', b, e1, e2, e3, e4⟩ := (ih (a + 1) (by omega) (by omega)).1
            exact ⟨_, _, _, .sNot hg hk h1 e1, by omega, e3, fun _ => by omega⟩
          by_cases h2 : w.fText = bs [45]
          · obtain ⟨x, a', b, e1, e2, e3, e4⟩ := (ih (a + 1) (by omega) (by omega)).1
            exact ⟨_, _, _, .sNeg hg hk h2 e1, by omega, e3, fun _ => by omega⟩
          by_cases h3 : w.fText = bs [40]
          · obtain ⟨x, a', b, e1, e2, e3⟩ := cl 1 (a + 1) (by omega) (by omega)
            by_cases hq : b = false ∧ ∃ v, ws[a']? = some v ∧ v.fText = bs [41]
            · obtain ⟨rfl, v, hv, hv'⟩ := hq
              have := (List.getElem?_eq_some_iff.1 hv).1
              exact ⟨_, _, _, .sPar hg hk h3 e1 hv hv', by omega, by omega, fun _ => by omega⟩
            · exact ⟨_, _, _, .sParN hg hk h3 e1 (fun hb v hv hv' => hq ⟨hb, v, hv, hv'⟩), by omega, e3, fun h => by cases h⟩
          · exact ⟨_, _, _, .sBad hg (.inr ⟨hk, h1, h2, h3⟩), Nat.le_refl _, ha, fun h => by cases h⟩
      · intro k m x b
        cases b with
        | true => exact ⟨_, _, _, .lBad, Nat.le_refl _, ha⟩
        | false =>
          by_cases hc : w.fKind = 3 ∧ k ≤ lvl w.fText ∧ lvl w.fText ≤ m
          · obtain ⟨hk, h1, h2⟩ := hc
            obtain ⟨y, a1, b1, e1, e2, e3⟩ := cl (lvl w.fText + 1) (a + 1) (by omega) (by omega)
            obtain ⟨z, a2, b2, e4, e5, e6⟩ := (ih a1 (by omega) e3).2 k (if lvl w.fText = 3 then 2 else lvl w.fText) (.bin w.fText x y) b1
            exact ⟨_, _, _, .lBin hg hk h1 h2 e1 e4, by omega, e6⟩
          · refine ⟨_, _, _, .lEnd (fun v hv hk => ?_), Nat.le_refl _, ha⟩
            rw [hg] at hv
            cases hv
            rcases Nat.lt_or_ge (lvl w.fText) k with g | g
            · exact .inl g
            · rcases Nat.lt_or_ge m (lvl w.fText) with g' | g'
              · exact .inr g'
              · exact absurd ⟨hk, g, g'⟩ hc
theorem pr_cl (ws : List W_glyph_Word) (hw : ∀ w ∈ ws, Kd w) (k : Nat) : ∃ y a b, Pr ws (.cl k 0) y a b ∧ a ≤ ws.length := by
  obtain ⟨x, a1, b1, h1, h2, h3, _⟩ := (pr_total ws hw ws.length 0 (by omega) (by omega)).1
  obtain ⟨y, a2, b2, h4, h5, h6⟩ := (pr_total ws hw ws.length a1 (by omega) h3).2 k 6 x b1
  exact ⟨_, _, _, .clm h1 h4, h6⟩
end Go.Proofs.YthcaodlfnlhfbaaDoorT
