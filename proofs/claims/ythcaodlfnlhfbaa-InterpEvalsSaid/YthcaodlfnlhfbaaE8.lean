/- The code of an expression, by the program. -/
import Derived.Test.YthcaodlfnlhfbaaE7
namespace Go.Proofs.YthcaodlfnlhfbaaT
open Go Go.Proofs
set_option linter.unusedVariables false
/-- Is there a name that is no variable's? -/
def bare (V : List W_api_Var) (x : E) : Bool := x.names.any fun s => decide (ix s 0 V < 0)
theorem any_mem {V : List W_api_Var} {L : List ByteArray} {x : E} (h : ∀ t, t ∈ L ↔ t ∈ x.names) : (L.any fun s => decide (ix s 0 V < 0)) = bare V x := by
  refine Bool.eq_iff_iff.2 ?_
  simp only [bare, List.any_eq_true]
  constructor
  · rintro ⟨s, h1, h2⟩; exact ⟨s, (h s).1 h1, h2⟩
  · rintro ⟨s, h1, h2⟩; exact ⟨s, (h s).2 h1, h2⟩
/-- What both tell. -/
def cdR (V : List W_api_Var) (x : E) : T × List T := if x.ok = false then (.tup [.sl 2 [], i64 1], [.dead, .dead]) else if bare V x = true then (.tup [.sl 2 [], i64 5], [.dead, .dead]) else (.tup [.sl 2 (iv (cde V x)), i64 0], [.dead, .dead])
theorem ok_parts {x : E} (h : x.ok = true) : x.nodes ≤ 40 ∧ x.snd = true := by
  simp only [E.ok, E.sd, Bool.and_eq_true, decide_eq_true_eq] at h
  exact ⟨h.1, h.2.1⟩
/-- What expr.Refs comes to of a formed expression (given by hand). -/
def RefsSaid : Prop := ∀ x : E, x.wf → x.ok = true → ∃ L : List ByteArray, Rn 27 [x.v.v] (.sl 1 (L.map st), [.dead]) ∧ (∀ t, t ∈ L ↔ t ∈ x.names) ∧ L.length ≤ 1000
theorem r12 (hR : RefsSaid) (V : List W_api_Var) (hV : V.length ≤ 1000) (x : E) (hw : x.wf) : Rn 12 [x.v.v, vv V] (cdR V x) := by
  refine f12 _ _ _ ⟨_, r25 x hw, ?_⟩
  cases hk : x.ok with
  | false => exact cT rfl (by rw [cdR, if_pos hk])
  | true =>
    obtain ⟨hn, hs⟩ := ok_parts hk
    obtain ⟨L, h45, hm, hl⟩ := hR x hw hk
    refine cF rfl ⟨_, h45, _, r26 V hV L hl [], ?_⟩
    rw [cdR, if_neg (by rw [hk]; simp), any_mem hm]
    refine cb (fun hb => by rw [if_pos hb]) (fun hb => ?_)
    obtain ⟨y, r, e, h48⟩ := r30 V hV x hs [] (by simp; omega)
    rw [List.nil_append] at e
    rw [if_neg (by rw [hb]; simp), e]
    exact ⟨y, r, h48, rfl⟩
/-- An expression's size is looked at: some answer. -/
theorem r24 : ∀ (m : Nat) (w : W_tumbrelref04_Node), SlT Try.prog m 46 w.fParts → ∀ depth left : Int, ∃ n : Int, Rn 24 [w.t, i64 depth, i64 left] (i64 n, [.dead, .dead, .dead]) := by
  intro m
  induction m using Nat.strongRecOn with
  | _ m ih =>
    intro w hs depth left
    have hl := Nat.le_trans hs.len maxLen_lt
    have loop : ∀ (d k : Nat) (left : Int), k + d = w.fParts.length → ∃ n : Int, L24_0 depth left ((w.fParts.length : Nat) : Int) (k : Int) w (i64 n, [.dead, .dead, .dead]) := by
      intro d
      induction d with
      | zero => exact fun k left hk => ⟨left, l24_0 _ _ _ _ _ _ (cF (by simp; omega) rfl)⟩
      | succ d ihd =>
        intro k left hk
        have hlt : k < w.fParts.length := by omega
        obtain ⟨y1, hx, hy1⟩ := hs.get (List.getElem?_eq_getElem hlt)
        obtain ⟨w1, hw1, _, _, _, m', hm', hs'⟩ := d46 hy1
        obtain ⟨n2, h2⟩ := ih m' hm' w1 hs' (IntKind.wrap .i64 (depth + 1)) left
        rw [hw1] at hx
        have hg : w.fParts[Int.toNat (k : Int)]? = some w1.t := by rw [toN, List.getElem?_eq_getElem hlt, hx]
        by_cases hn : n2 < 0
        · exact ⟨-1, l24_0 _ _ _ _ _ _ (cT (by simp; omega) ⟨w1, ⟨by omega, hg⟩, n2, h2, cT (by simpa using hn) rfl⟩)⟩
        · obtain ⟨n, hn'⟩ := ihd (k + 1) n2 (by omega)
          refine ⟨n, l24_0 _ _ _ _ _ _ (cT (by simp; omega) ⟨w1, ⟨by omega, hg⟩, n2, h2, cF (by simpa using hn) ?_⟩)⟩
          rw [wS (by omega)]
          exact hn'
    by_cases h1 : (60 : Int) < depth
    · exact ⟨-1, f24 _ _ _ _ (cT (by simpa using h1) rfl)⟩
    by_cases h2 : IntKind.wrap .i64 (left - 1) < 0
    · exact ⟨-1, f24 _ _ _ _ (cF (by simpa using h1) (cT (by simpa using h2) rfl))⟩
    by_cases h3 : (1000 : Int) < ((ByteArray.size w.fS : Nat) : Int)
    · exact ⟨-1, f24 _ _ _ _ (cF (by simpa using h1) (cF (by simpa using h2) (cT (by simpa using h3) rfl)))⟩
    obtain ⟨n, hn⟩ := loop w.fParts.length 0 (IntKind.wrap .i64 (left - 1)) (by omega)
    exact ⟨n, f24 _ _ _ _ (cF (by simpa using h1) (cF (by simpa using h2) (cF (by simpa using h3) hn)))⟩
theorem r11 {m : Nat} {w : W_tumbrelref04_Node} (hs : SlT Try.prog m 46 w.fParts) : ∃ b : Bool, Rn 11 [w.t] (tb b, [.dead]) := by
  obtain ⟨n, hn⟩ := r24 m w hs 0 200
  exact ⟨_, f11 _ _ ⟨n, hn, rfl⟩⟩
end Go.Proofs.YthcaodlfnlhfbaaT
