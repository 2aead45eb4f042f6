/- Numbers as the program has them; signs. -/
import Derived.Test.YthcaodlfnlhfbaaDoorX2
namespace Go.Proofs.YthcaodlfnlhfbaaDoorT
open Go Go.Proofs
set_option linter.unusedVariables false
theorem r88 (t : ByteArray) (hs : t.size ≤ 140737488355328) : Rn 88 [st t] (tb (numB t), [.dead]) := by
  obtain ⟨n, e, hR, hr⟩ := runs105 t hs
  refine f88 _ _ ⟨n, e, hR, ?_⟩
  rcases hr with ⟨v, h1, h2, h3, rfl, he⟩ | ⟨h1, he⟩
  · refine cT (by simpa using he) (cd (fun h4 => ⟨_, runs106 v (by omega), tbR ?_⟩) (fun h4 => tbR ?_))
    · unfold numB numV
      rw [h1]
      simp only
      have hiff : ((⟨(Lib.decDigits v).toArray⟩ : ByteArray) = t) ↔ Lib.decDigits v = bl t := by
        constructor
        · intro h; rw [← h]; simp [bl]
        · intro h; exact ext_bl (by rw [← h]; simp [bl])
      by_cases hd : Lib.decDigits v = bl t
      · rw [if_pos ⟨by omega, hd⟩]
        simpa using hiff.2 hd
      · rw [if_neg (fun hh => hd hh.2)]
        simpa using fun hh => hd (hiff.1 hh)
    · unfold numB numV
      rw [h1]
      simp only
      rw [if_neg (by omega)]
      rfl
  · refine cF (by simpa using he) (tbR ?_)
    unfold numB numV
    split
    · rename_i v hv
      rw [if_neg]
      · rfl
      · rintro ⟨h2, h3⟩
        exact h1 ⟨v, hv, fun e => dec_ne v (by rw [h3, e]), by omega⟩
    · rfl
/-- The sign that a text begins with: its length; 0: none. -/
def sgn (t : ByteArray) : Nat :=
  if 1 < t.size ∧ ((bt t 0 = 61 ∧ bt t 1 = 61) ∨ (bt t 0 = 33 ∧ bt t 1 = 61) ∨ (bt t 0 = 60 ∧ bt t 1 = 61) ∨ (bt t 0 = 38 ∧ bt t 1 = 38) ∨ (bt t 0 = 124 ∧ bt t 1 = 124)) then 2
  else if bt t 0 = 123 ∨ bt t 0 = 125 ∨ bt t 0 = 40 ∨ bt t 0 = 41 ∨ bt t 0 = 61 ∨ bt t 0 = 33 ∨ bt t 0 = 60 ∨ bt t 0 = 43 ∨ bt t 0 = 45 ∨ bt t 0 = 42 then 1 else 0
theorem pre_two (t : ByteArray) (h : 1 < t.size) : t.extract 0 2 = bs [UInt8.ofNat (bt t 0), UInt8.ofNat (bt t 1)] := by
  have hl := bl_len t
  refine ext_bl ?_
  rw [bl_extract, List.drop_zero]
  show _ = [UInt8.ofNat (bt t 0), UInt8.ofNat (bt t 1)]
  unfold bt
  match h2 : bl t with
  | [] => rw [h2] at hl; simp at hl; omega
  | [x] => rw [h2] at hl; simp at hl; omega
  | x :: y :: r => simp
theorem pre_one (t : ByteArray) (h : 0 < t.size) : t.extract 0 1 = bs [UInt8.ofNat (bt t 0)] := by
  have hl := bl_len t
  refine ext_bl ?_
  rw [bl_extract, List.drop_zero]
  show _ = [UInt8.ofNat (bt t 0)]
  unfold bt
  match h2 : bl t with
  | [] => rw [h2] at hl; simp at hl; omega
  | x :: r => simp
theorem bs_two {a b c d : Nat} (ha : a < 256) (hb : b < 256) (hc : c < 256) (hd : d < 256) : bs [UInt8.ofNat a, UInt8.ofNat b] = bs [UInt8.ofNat c, UInt8.ofNat d] ↔ a = c ∧ b = d := by
  constructor
  · intro h
    have h' : bl (bs [UInt8.ofNat a, UInt8.ofNat b]) = bl (bs [UInt8.ofNat c, UInt8.ofNat d]) := by rw [h]
    simp only [bl, bs, List.cons.injEq, and_true] at h'
    have e1 := congrArg UInt8.toNat h'.1
    have e2 := congrArg UInt8.toNat h'.2
    simp at e1 e2
    omega
  · rintro ⟨rfl, rfl⟩; rfl
theorem bs_one {a c : Nat} (ha : a < 256) (hc : c < 256) : bs [UInt8.ofNat a] = bs [UInt8.ofNat c] ↔ a = c := by
  constructor
  · intro h
    have h' : bl (bs [UInt8.ofNat a]) = bl (bs [UInt8.ofNat c]) := by rw [h]
    simp only [bl, bs, List.cons.injEq, and_true] at h'
    have e1 := congrArg UInt8.toNat h'
    simp at e1
    omega
  · rintro rfl; rfl
end Go.Proofs.YthcaodlfnlhfbaaDoorT
