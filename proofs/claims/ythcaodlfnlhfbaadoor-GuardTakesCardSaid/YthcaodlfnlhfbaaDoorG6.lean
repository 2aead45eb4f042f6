/- Signs; the word that a text begins with. -/
import Derived.Test.YthcaodlfnlhfbaaDoorG5
namespace Go.Proofs.YthcaodlfnlhfbaaDoorT
open Go Go.Proofs
set_option linter.unusedVariables false
theorem two_iff {t : ByteArray} (h : 1 < t.size) {a b : Nat} (ha : a < 256) (hb : b < 256) : t.extract 0 2 = bs [UInt8.ofNat a, UInt8.ofNat b] ↔ bt t 0 = a ∧ bt t 1 = b := by
  rw [pre_two t h]
  exact bs_two (bt_lt _ _) (bt_lt _ _) ha hb
theorem one_iff {t : ByteArray} (h : 0 < t.size) {a : Nat} (ha : a < 256) : t.extract 0 1 = bs [UInt8.ofNat a] ↔ bt t 0 = a := by
  rw [pre_one t h]
  exact bs_one (bt_lt _ _) ha
set_option maxHeartbeats 2000000 in
theorem r79 (t : ByteArray) (h0 : 0 < t.size) : Rn 79 [st t] (i64 (sgn t), [.dead]) := by
  refine f79 _ _ ?_
  simp only [byteAt_bt]
  refine cd (fun h1 => ⟨⟨by omega, by omega⟩, ?_⟩) (fun h1 => ⟨⟨by omega, by omega⟩, ?_⟩)
  · have h1 : 1 < t.size := by omega
    have e1 : t.extract 0 2 = bs [61, 61] ↔ bt t 0 = 61 ∧ bt t 1 = 61 := two_iff h1 (by decide) (by decide)
    have e2 : t.extract 0 2 = bs [33, 61] ↔ bt t 0 = 33 ∧ bt t 1 = 61 := two_iff h1 (by decide) (by decide)
    have e3 : t.extract 0 2 = bs [60, 61] ↔ bt t 0 = 60 ∧ bt t 1 = 61 := two_iff h1 (by decide) (by decide)
    have e4 : t.extract 0 2 = bs [38, 38] ↔ bt t 0 = 38 ∧ bt t 1 = 38 := two_iff h1 (by decide) (by decide)
    have e5 : t.extract 0 2 = bs [124, 124] ↔ bt t 0 = 124 ∧ bt t 1 = 124 := two_iff h1 (by decide) (by decide)
    simp only [e1, e2, e3, e4, e5]
    refine cd (fun h => ?_) (fun h2 => cd (fun h => ?_) (fun h3 => cd (fun h => ?_) (fun h4 => cd (fun h => ?_) (fun h5 => cd (fun h => ?_) (fun h6 => ⟨⟨by omega, by omega⟩, ?_⟩)))))
    · rw [show sgn t = 2 by unfold sgn; exact if_pos (by omega)]; rfl
    · rw [show sgn t = 2 by unfold sgn; exact if_pos (by omega)]; rfl
    · rw [show sgn t = 2 by unfold sgn; exact if_pos (by omega)]; rfl
    · rw [show sgn t = 2 by unfold sgn; exact if_pos (by omega)]; rfl
    · rw [show sgn t = 2 by unfold sgn; exact if_pos (by omega)]; rfl
    repeat' refine cd (fun h => ?_) (fun h => ?_)
    all_goals first
      | (rw [show sgn t = 1 by unfold sgn; rw [if_neg (by omega), if_pos (by omega)]]; rfl)
      | (rw [show sgn t = 0 by unfold sgn; rw [if_neg (by omega), if_neg (by omega)]]; rfl)
  · repeat' refine cd (fun h => ?_) (fun h => ?_)
    all_goals first
      | (rw [show sgn t = 1 by unfold sgn; rw [if_neg (by omega), if_pos (by omega)]]; rfl)
      | (rw [show sgn t = 0 by unfold sgn; rw [if_neg (by omega), if_neg (by omega)]]; rfl)
def hasP (t p : ByteArray) : Bool := decide (p.size ≤ t.size) && decide (t.extract 0 p.size = p)
theorem r89 (t p : ByteArray) : Rn 89 [st t, st p] (tb (hasP t p), [.dead, .dead]) := by
  refine f89 _ _ _ ⟨_, f107 _ _ (tb (hasP t p), [.dead, .dead]) (cd (fun h => ⟨⟨by omega, by omega⟩, tbR ?_⟩) (fun h => tbR ?_)), rfl⟩
  · have h' : p.size ≤ t.size := by omega
    rw [toN]
    simp [hasP, h']
  · have h' : ¬ p.size ≤ t.size := by omega
    simp [hasP, h']
def sg : List ByteArray := [bs [61, 61], bs [33, 61], bs [60, 61], bs [38, 38], bs [124, 124], bs [123], bs [125], bs [40], bs [41], bs [61], bs [33], bs [60], bs [43], bs [45], bs [42]]
theorem hasP2 {t : ByteArray} (h0 : 0 < t.size) {a b : Nat} (ha : a < 256) (hb : b < 256) : hasP t (bs [UInt8.ofNat a, UInt8.ofNat b]) = decide (1 < t.size ∧ bt t 0 = a ∧ bt t 1 = b) := by
  have hz : (bs [UInt8.ofNat a, UInt8.ofNat b]).size = 2 := rfl
  unfold hasP
  rw [hz]
  by_cases h : 1 < t.size
  · apply Bool.eq_iff_iff.2
    simp only [Bool.and_eq_true, decide_eq_true_eq, two_iff h ha hb]
    omega
  · simp [show ¬ 2 ≤ t.size by omega, h]
theorem hasP1 {t : ByteArray} (h0 : 0 < t.size) {a : Nat} (ha : a < 256) : hasP t (bs [UInt8.ofNat a]) = decide (bt t 0 = a) := by
  have hz : (bs [UInt8.ofNat a]).size = 1 := rfl
  unfold hasP
  rw [hz]
  apply Bool.eq_iff_iff.2
  simp only [Bool.and_eq_true, decide_eq_true_eq, one_iff h0 ha]
  omega
set_option maxHeartbeats 2000000 in
theorem sg_find {t : ByteArray} (h0 : 0 < t.size) : sg.find? (hasP t) = if sgn t = 0 then none else some (t.extract 0 (sgn t)) := by
  have p1 : hasP t (bs [61, 61]) = decide (1 < t.size ∧ bt t 0 = 61 ∧ bt t 1 = 61) := hasP2 h0 (by decide) (by decide)
  have p2 : hasP t (bs [33, 61]) = decide (1 < t.size ∧ bt t 0 = 33 ∧ bt t 1 = 61) := hasP2 h0 (by decide) (by decide)
  have p3 : hasP t (bs [60, 61]) = decide (1 < t.size ∧ bt t 0 = 60 ∧ bt t 1 = 61) := hasP2 h0 (by decide) (by decide)
  have p4 : hasP t (bs [38, 38]) = decide (1 < t.size ∧ bt t 0 = 38 ∧ bt t 1 = 38) := hasP2 h0 (by decide) (by decide)
  have p5 : hasP t (bs [124, 124]) = decide (1 < t.size ∧ bt t 0 = 124 ∧ bt t 1 = 124) := hasP2 h0 (by decide) (by decide)
  have q1 : hasP t (bs [123]) = decide (bt t 0 = 123) := hasP1 h0 (by decide)
  have q2 : hasP t (bs [125]) = decide (bt t 0 = 125) := hasP1 h0 (by decide)
  have q3 : hasP t (bs [40]) = decide (bt t 0 = 40) := hasP1 h0 (by decide)
  have q4 : hasP t (bs [41]) = decide (bt t 0 = 41) := hasP1 h0 (by decide)
  have q5 : hasP t (bs [61]) = decide (bt t 0 = 61) := hasP1 h0 (by decide)
  have q6 : hasP t (bs [33]) = decide (bt t 0 = 33) := hasP1 h0 (by decide)
  have q7 : hasP t (bs [60]) = decide (bt t 0 = 60) := hasP1 h0 (by decide)
  have q8 : hasP t (bs [43]) = decide (bt t 0 = 43) := hasP1 h0 (by decide)
  have q9 : hasP t (bs [45]) = decide (bt t 0 = 45) := hasP1 h0 (by decide)
  have q0 : hasP t (bs [42]) = decide (bt t 0 = 42) := hasP1 h0 (by decide)
  have two : ∀ {a b : Nat}, 1 < t.size ∧ bt t 0 = a ∧ bt t 1 = b → sgn t = 2 → a < 256 → b < 256 → (some (bs [UInt8.ofNat a, UInt8.ofNat b]) : Option ByteArray) = if sgn t = 0 then none else some (t.extract 0 (sgn t)) := by
    intro a b h hs ha hb
    rw [hs, if_neg (by omega), (two_iff h.1 ha hb).2 h.2]
  have one : ∀ {a : Nat}, bt t 0 = a → sgn t = 1 → a < 256 → (some (bs [UInt8.ofNat a]) : Option ByteArray) = if sgn t = 0 then none else some (t.extract 0 (sgn t)) := by
    intro a h hs ha
    rw [hs, if_neg (by omega), (one_iff h0 ha).2 h]
  have step : ∀ {p : ByteArray} {l : List ByteArray} {X : Option ByteArray} {P : Prop} [Decidable P], hasP t p = decide P → (P → some p = X) → (¬ P → l.find? (hasP t) = X) → (p :: l).find? (hasP t) = X := by
    intro p l X P _ hp h1 h2
    by_cases hP : P
    · rw [List.find?_cons_of_pos (by rw [hp]; simpa using hP)]; exact h1 hP
    · rw [List.find?_cons_of_neg (by rw [hp]; simpa using hP)]; exact h2 hP
  have s2 : ((1 < t.size ∧ bt t 0 = 61 ∧ bt t 1 = 61) ∨ (1 < t.size ∧ bt t 0 = 33 ∧ bt t 1 = 61) ∨ (1 < t.size ∧ bt t 0 = 60 ∧ bt t 1 = 61) ∨ (1 < t.size ∧ bt t 0 = 38 ∧ bt t 1 = 38) ∨ (1 < t.size ∧ bt t 0 = 124 ∧ bt t 1 = 124)) → sgn t = 2 := by
    intro h; unfold sgn; exact if_pos (by omega)
  unfold sg
  refine step p1 (fun h => two h (s2 (by omega)) (by decide) (by decide)) (fun h1 => ?_)
  refine step p2 (fun h => two h (s2 (by omega)) (by decide) (by decide)) (fun h2 => ?_)
  refine step p3 (fun h => two h (s2 (by omega)) (by decide) (by decide)) (fun h3 => ?_)
  refine step p4 (fun h => two h (s2 (by omega)) (by decide) (by decide)) (fun h4 => ?_)
  refine step p5 (fun h => two h (s2 (by omega)) (by decide) (by decide)) (fun h5 => ?_)
  have s1 : (bt t 0 = 123 ∨ bt t 0 = 125 ∨ bt t 0 = 40 ∨ bt t 0 = 41 ∨ bt t 0 = 61 ∨ bt t 0 = 33 ∨ bt t 0 = 60 ∨ bt t 0 = 43 ∨ bt t 0 = 45 ∨ bt t 0 = 42) → sgn t = 1 := by
    intro h; unfold sgn; rw [if_neg (by omega)]; exact if_pos h
  refine step q1 (fun h => one h (s1 (by omega)) (by decide)) (fun g1 => ?_)
  refine step q2 (fun h => one h (s1 (by omega)) (by decide)) (fun g2 => ?_)
  refine step q3 (fun h => one h (s1 (by omega)) (by decide)) (fun g3 => ?_)
  refine step q4 (fun h => one h (s1 (by omega)) (by decide)) (fun g4 => ?_)
  refine step q5 (fun h => one h (s1 (by omega)) (by decide)) (fun g5 => ?_)
  refine step q6 (fun h => one h (s1 (by omega)) (by decide)) (fun g6 => ?_)
  refine step q7 (fun h => one h (s1 (by omega)) (by decide)) (fun g7 => ?_)
  refine step q8 (fun h => one h (s1 (by omega)) (by decide)) (fun g8 => ?_)
  refine step q9 (fun h => one h (s1 (by omega)) (by decide)) (fun g9 => ?_)
  refine step q0 (fun h => one h (s1 (by omega)) (by decide)) (fun g0 => ?_)
  rw [show sgn t = 0 by unfold sgn; rw [if_neg (by omega), if_neg (by omega)], if_pos rfl]
  rfl
end Go.Proofs.YthcaodlfnlhfbaaDoorT
