/- TableCodes: what the law's function comes to. -/
import Derived.Test.YthcaodlfnlhfbaaDoorE8
namespace Go.Proofs.YthcaodlfnlhfbaaDoorT
open Go Go.Proofs
set_option linter.unusedVariables false
/-- An expression's size is looked at: some answer. -/
theorem r42 : ∀ (m : Nat) (w : W_tumbrelref04_Node), SlT Tryd.prog m 37 w.fParts → ∀ depth left : Int, ∃ n : Int, Rn 42 [w.t, i64 depth, i64 left] (i64 n, [.dead, .dead, .dead]) := by
  intro m
  induction m using Nat.strongRecOn with
  | _ m ih =>
    intro w hs depth left
    have hl := Nat.le_trans hs.len maxLen_lt
    have loop : ∀ (d k : Nat) (left : Int), k + d = w.fParts.length → ∃ n : Int, L42_0 depth left ((w.fParts.length : Nat) : Int) (k : Int) w (i64 n, [.dead, .dead, .dead]) := by
      intro d
      induction d with
      | zero => exact fun k left hk => ⟨left, l42_0 _ _ _ _ _ _ (cF (by simp; omega) rfl)⟩
      | succ d ihd =>
        intro k left hk
        have hlt : k < w.fParts.length := by omega
        obtain ⟨y1, hx, hy1⟩ := hs.get (List.getElem?_eq_getElem hlt)
        obtain ⟨w1, hw1, _, _, _, m', hm', hs'⟩ := d37 hy1
        obtain ⟨n2, h2⟩ := ih m' hm' w1 hs' (IntKind.wrap .i64 (depth + 1)) left
        rw [hw1] at hx
        have hg : w.fParts[Int.toNat (k : Int)]? = some w1.t := by rw [toN, List.getElem?_eq_getElem hlt, hx]
        by_cases hn : n2 < 0
        · exact ⟨-1, l42_0 _ _ _ _ _ _ (cT (by simp; omega) ⟨w1, ⟨by omega, hg⟩, n2, h2, cT (by simpa using hn) rfl⟩)⟩
        · obtain ⟨n, hn'⟩ := ihd (k + 1) n2 (by omega)
          refine ⟨n, l42_0 _ _ _ _ _ _ (cT (by simp; omega) ⟨w1, ⟨by omega, hg⟩, n2, h2, cF (by simpa using hn) ?_⟩)⟩
          rw [wS (by omega)]
          exact hn'
    by_cases h1 : (60 : Int) < depth
    · exact ⟨-1, f42 _ _ _ _ (cT (by simpa using h1) rfl)⟩
    by_cases h2 : IntKind.wrap .i64 (left - 1) < 0
    · exact ⟨-1, f42 _ _ _ _ (cF (by simpa using h1) (cT (by simpa using h2) rfl))⟩
    by_cases h3 : (1000 : Int) < ((ByteArray.size w.fS : Nat) : Int)
    · exact ⟨-1, f42 _ _ _ _ (cF (by simpa using h1) (cF (by simpa using h2) (cT (by simpa using h3) rfl)))⟩
    obtain ⟨n, hn⟩ := loop w.fParts.length 0 (IntKind.wrap .i64 (left - 1)) (by omega)
    exact ⟨n, f42 _ _ _ _ (cF (by simpa using h1) (cF (by simpa using h2) (cF (by simpa using h3) hn)))⟩
theorem r18 {m : Nat} {w : W_tumbrelref04_Node} (hs : SlT Tryd.prog m 37 w.fParts) : ∃ b : Bool, Rn 18 [w.t] (tb b, [.dead]) := by
  obtain ⟨n, hn⟩ := r42 m w hs 0 200
  exact ⟨_, f18 _ _ ⟨n, hn, rfl⟩⟩
theorem tableCodes_row (hR : RefsSaid) {m : Nat} (w : W_tumbrelref04_Node) (hS : ByteArray.size w.fS ≤ maxLen) (hs : SlT Tryd.prog m 37 w.fParts) (V : List W_api_Var) (hVl : V.length ≤ maxLen) : Rn 6 [w.t, vv V] (tb true, [.dead, .dead]) := by
  have hm := Nat.le_trans hVl maxLen_lt
  obtain ⟨b, h18⟩ := r18 hs
  refine f6 _ _ _ ⟨_, r17 hR, cF rfl ⟨b, h18, cb (fun _ => ⟨_, r17 hR, rfl⟩) (fun _ => cd (fun _ => ⟨_, r17 hR, rfl⟩) (fun h100 => ?_))⟩⟩
  have hV : V.length ≤ 1000 := by simp at h100; omega
  obtain ⟨x, hw, h20, h22⟩ := raw m w hS hs
  have h19 := r19 hR V hV x hw
  have h21 := r21 V hV x hw
  have fin : ∀ n1 : Int, ¬ n1 < (((V.map W_api_Var.t).length : Nat) : Int) → L6_0 (V.map W_api_Var.t) (((V.map W_api_Var.t).length : Nat) : Int) n1 w (tb true, [.dead, .dead]) := by
    intro n1 hn1
    refine l6_0 _ _ _ _ _ (cF (decide_eq_false hn1) ⟨_, h20, ?_⟩)
    unfold cdR at h19 h21
    by_cases hk : x.ok = false
    · rw [if_pos hk] at h19 h21
      exact ⟨_, _, h19, x.d, h22, _, _, h21, _, r24 [] (by simp), _, r23 [] (by simp), cT rfl (tbR (by simp))⟩
    · rw [if_neg hk] at h19 h21
      by_cases hb : bare V x = true
      · rw [if_pos hb] at h19 h21
        exact ⟨_, _, h19, x.d, h22, _, _, h21, _, r24 [] (by simp), _, r23 [] (by simp), cT rfl (tbR (by simp))⟩
      · rw [if_neg hb] at h19 h21
        have hlen : (cde V x).length ≤ 1000 := by
          obtain ⟨h1, h2⟩ := ok_parts (by simpa using hk)
          have := (cde_len V x h2).2
          omega
        exact ⟨_, _, h19, x.d, h22, _, _, h21, _, r24 _ hlen, _, r23 _ hlen, cT rfl (tbR (by simp))⟩
  have loop : ∀ (d k : Nat), k + d = V.length → L6_0 (V.map W_api_Var.t) (((V.map W_api_Var.t).length : Nat) : Int) (k : Int) w (tb true, [.dead, .dead]) := by
    intro d
    induction d with
    | zero => intro k hk; exact fin _ (by simp; omega)
    | succ d ih =>
      intro k hk
      have hlt : k < V.length := by omega
      refine l6_0 _ _ _ _ _ (cT (by simp; omega) ⟨V[k], ⟨by omega, getm hlt⟩, cd (fun _ => rfl) (fun _ => ?_)⟩)
      rw [wS (by omega)]
      exact ih (k + 1) (by omega)
  exact loop V.length 0 (by omega)
end Go.Proofs.YthcaodlfnlhfbaaDoorT
