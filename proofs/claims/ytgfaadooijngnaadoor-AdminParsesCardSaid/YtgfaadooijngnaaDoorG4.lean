/- Numbers. -/
import Derived.Test.YtgfaadooijngnaaDoorG3
import Derived.Lib.ItoaNum
namespace Go.Proofs.YtgfaadooijngnaaDoorT
open Go Go.Proofs
set_option linter.unusedVariables false
/-- The number that digits are, behind a. -/
def dgt : Nat → List UInt8 → Option Nat
  | a, [] => some a
  | a, c :: r => if 48 ≤ c.toNat ∧ c.toNat ≤ 57 then dgt (10 * a + (c.toNat - 48)) r else none
theorem dgt_snoc (c : UInt8) : ∀ (l : List UInt8) (a : Nat), dgt a (l ++ [c]) = (dgt a l).bind fun v => if 48 ≤ c.toNat ∧ c.toNat ≤ 57 then some (10 * v + (c.toNat - 48)) else none
  | [], a => by simp [dgt]
  | x :: l, a => by
    simp only [List.cons_append, dgt]
    split
    · exact dgt_snoc c l _
    · rfl
theorem dgt_ge : ∀ (l : List UInt8) (a v : Nat), dgt a l = some v → a ≤ v
  | [], a, v, h => by simp [dgt] at h; omega
  | x :: l, a, v, h => by
    rw [dgt] at h
    split at h
    · have := dgt_ge l _ v h
      omega
    · cases h
theorem dgt_dec (v : Nat) : dgt 0 (Lib.decDigits v) = some v := by
  induction v using Nat.strongRecOn with
  | _ v ih =>
    rw [Lib.decDigits]
    split
    · rename_i h
      have : (UInt8.ofNat (48 + v)).toNat = 48 + v := by simp; omega
      simp only [dgt, this]
      rw [if_pos (by omega)]
      congr 1; omega
    · rename_i h
      rw [dgt_snoc, ih (v / 10) (by omega)]
      have : (UInt8.ofNat (48 + v % 10)).toNat = 48 + v % 10 := by simp; omega
      simp only [Option.bind_some, this]
      rw [if_pos (by omega)]
      congr 1; omega
theorem dec_dgt : ∀ (n : Nat) (l : List UInt8) (v : Nat), l.length = n → l ≠ [] → (l.getD 0 0 ≠ 48 ∨ l.length = 1) → dgt 0 l = some v → Lib.decDigits v = l := by
  intro n
  induction n with
  | zero => intro l v h0 hne; exact absurd (List.eq_nil_of_length_eq_zero h0) hne
  | succ n ih =>
    intro l v hl hne hh hv
    obtain ⟨l', c, rfl⟩ : ∃ l' c, l = l' ++ [c] := ⟨l.dropLast, l.getLast hne, (List.dropLast_concat_getLast hne).symm⟩
    rw [dgt_snoc] at hv
    cases hv' : dgt 0 l' with
    | none => rw [hv'] at hv; cases hv
    | some v' =>
      rw [hv'] at hv
      simp only [Option.bind_some] at hv
      split at hv
      · rename_i hc
        simp only [Option.some.injEq] at hv
        have hcc : UInt8.ofNat (48 + (c.toNat - 48)) = c := by
          rw [show 48 + (c.toNat - 48) = c.toNat by omega]; simp
        cases l' with
        | nil =>
          simp [dgt] at hv'
          rw [Lib.decDigits, dif_pos (by omega), show v = c.toNat - 48 by omega, hcc]
          rfl
        | cons x r =>
          have hx : (x :: r).getD 0 0 ≠ 48 := by
            rcases hh with hh | hh
            · simpa using hh
            · simp at hh
          have h1 := ih (x :: r) v' (by simpa using hl) (by simp) (.inl hx) hv'
          have hpos : 1 ≤ v' := by
            rw [dgt] at hv'
            split at hv'
            · rename_i hd
              have := dgt_ge _ _ _ hv'
              have : x.toNat ≠ 48 := fun e => hx (by simp; exact UInt8.toNat_inj.1 (by rw [e]; rfl))
              omega
            · cases hv'
          rw [Lib.decDigits, dif_neg (by omega), show v / 10 = v' by omega, show v % 10 = c.toNat - 48 by omega, hcc, h1]
      · cases hv
theorem dec_len : ∀ (k v : Nat), v < 10 ^ (k + 1) → (Lib.decDigits v).length ≤ k + 1 := by
  intro k
  induction k with
  | zero => intro v h; rw [Lib.decDigits, dif_pos (by omega)]; simp
  | succ k ih =>
    intro v h
    rw [Lib.decDigits]
    split
    · simp
    · have := ih (v / 10) (by rw [Nat.pow_succ] at h; omega)
      rw [List.length_append]
      simp; omega
theorem dec_ne (v : Nat) : Lib.decDigits v ≠ [] := by
  rw [Lib.decDigits]
  split <;> simp
theorem dec_head (v : Nat) (h : 1 ≤ v) : (Lib.decDigits v).getD 0 0 ≠ 48 := by
  induction v using Nat.strongRecOn with
  | _ v ih =>
    rw [Lib.decDigits]
    split
    · rename_i h'
      intro e
      have : (UInt8.ofNat (48 + v)).toNat = 48 := by
        simp only [List.getD_cons_zero] at e
        rw [e]; rfl
      simp at this
      omega
    · rename_i h'
      have h1 := ih (v / 10) (by omega) (by omega)
      cases hd : Lib.decDigits (v / 10) with
      | nil => exact absurd hd (dec_ne _)
      | cons x r => rw [hd] at h1; simpa using h1
/-- A number: its digits, as one writes it; no greater than 10^9. -/
def numV (t : ByteArray) : Option Nat := match dgt 0 (bl t) with
  | some v => if v ≤ 1000000000 ∧ Lib.decDigits v = bl t then some v else none
  | none => none
def numB (t : ByteArray) : Bool := (numV t).isSome
theorem bt_getD (t : ByteArray) (i : Nat) : bt t i = ((bl t).getD i 0).toNat := rfl
theorem r28 (t : ByteArray) : Rn 28 [st t] (.tup [i64 ((numV t).getD 0), tb (numB t)], [.dead]) ∨ (numB t = false ∧ ∃ n, Rn 28 [st t] (.tup [i64 n, tb false], [.dead])) := by
  have hlen := bl_len t
  have none_case : numV t = none → numB t = false := fun h => by simp [numB, h]
  have toolong : 10 < t.size → numV t = none := by
    intro h
    unfold numV
    split
    · rename_i v hv
      rw [if_neg]
      rintro ⟨h1, h2⟩
      have := dec_len 9 v (by omega)
      rw [h2] at this
      omega
    · rfl
  have empty : t.size < 1 → numV t = none := by
    intro h
    unfold numV
    split
    · rename_i v hv
      rw [if_neg]
      rintro ⟨h1, h2⟩
      exact dec_ne v (by rw [h2]; exact List.eq_nil_of_length_eq_zero (by omega))
    · rfl
  have lead : bt t 0 = 48 → 1 < t.size → numV t = none := by
    intro h0 h1
    unfold numV
    split
    · rename_i v hv
      rw [if_neg]
      rintro ⟨h2, h3⟩
      have hv0 : 1 ≤ v := by
        rcases Nat.eq_zero_or_pos v with e | e
        · rw [e] at h3
          have : (Lib.decDigits 0).length = 1 := by rw [Lib.decDigits, dif_pos (by omega)]; rfl
          rw [h3] at this; omega
        · exact e
      refine dec_head v hv0 ?_
      rw [h3]
      exact UInt8.toNat_inj.1 (by rw [← bt_getD, h0]; rfl)
    · rfl
  by_cases hz : t.size < 1
  · have h0 := empty hz
    exact .inr ⟨none_case h0, 0, f28 _ _ (cT (by simp; omega) rfl)⟩
  by_cases hb : 10 < t.size
  · have h0 := toolong hb
    exact .inr ⟨none_case h0, 0, f28 _ _ (cF (by simp; omega) (cT (by simp; omega) rfl))⟩
  by_cases hl : bt t 0 = 48 ∧ 1 < t.size
  · have h0 := lead hl.1 hl.2
    exact .inr ⟨none_case h0, 0, f28 _ _ (cF (by simp; omega) (cF (by simp; omega) ⟨⟨by omega, by omega⟩, cT (by rw [byteAt_bt]; simp; omega) (cT (by simp; omega) rfl)⟩))⟩
  -- the digits
  have key : ∀ v, dgt 0 (bl t) = some v → v ≤ 1000000000 → numV t = some v := by
    intro v hv hle
    have hd : Lib.decDigits v = bl t := by
      refine dec_dgt _ (bl t) v rfl (fun e => by rw [e] at hlen; simp at hlen; omega) ?_ hv
      by_cases h1 : 1 < t.size
      · refine .inl (fun e => hl ⟨?_, h1⟩)
        rw [bt_getD, e]
        rfl
      · exact .inr (by omega)
    unfold numV
    rw [hv]
    simp only
    rw [if_pos ⟨hle, hd⟩]
  have loop : ∀ (f k a : Nat), t.size = k + f → a < 10 ^ k → dgt 0 (bl t) = dgt a ((bl t).drop k) →
      ∃ (n : Int) (b : Bool), L28_0 t (a : Int) (k : Int) (.tup [i64 n, tb b], [.dead]) ∧ ((b = true ∧ ∃ v : Nat, n = v ∧ numV t = some v) ∨ (b = false ∧ numV t = none)) := by
    intro f
    induction f with
    | zero =>
      intro k a hk ha hd
      refine ⟨a, decide (a ≤ 1000000000), l28_0 _ _ _ _ (cF (by simp; omega) ?_), ?_⟩
      · rw [show (decide ((a : Int) ≤ 1000000000)) = decide (a ≤ 1000000000) by apply Bool.eq_iff_iff.2; simp; omega]
      · rw [List.drop_of_length_le (by omega), dgt] at hd
        by_cases h9 : a ≤ 1000000000
        · exact .inl ⟨by simpa using h9, a, rfl, key a hd h9⟩
        · refine .inr ⟨by simpa using h9, ?_⟩
          unfold numV
          rw [hd]
          simp only
          rw [if_neg (by omega)]
    | succ f ih =>
      intro k a hk ha hd
      have hkn : k < t.size := by omega
      have hdrop : (bl t).drop k = (bl t)[k]'(by omega) :: (bl t).drop (k + 1) := List.drop_eq_getElem_cons (by omega)
      have hbt : ((bl t)[k]'(by omega)).toNat = bt t k := by rw [bt_getD, List.getD_eq_getElem?_getD, List.getElem?_eq_getElem (by omega)]; rfl
      rw [hdrop, dgt, hbt] at hd
      by_cases hdig : 48 ≤ bt t k ∧ bt t k ≤ 57
      · rw [if_pos hdig] at hd
        have hp : (10 : Nat) ^ (k + 1) = 10 ^ k * 10 := Nat.pow_succ ..
        have hb9 : (10 : Nat) ^ k ≤ 10 ^ 10 := Nat.pow_le_pow_right (by omega) (by omega)
        obtain ⟨n, b, hL, hr⟩ := ih (k + 1) (10 * a + (bt t k - 48)) (by omega) (by omega) hd
        refine ⟨n, b, l28_0 _ _ _ _ (cT (by simp; omega) ?_), hr⟩
        rw [toN, byteAt_bt]
        refine ⟨⟨by omega, by omega⟩, cF (by simp; omega) ⟨⟨by omega, by omega⟩, cF (by simp; omega) ⟨⟨by omega, by omega⟩, ?_⟩⟩⟩
        have e1 : IntKind.wrap .u8 (((bt t k : Nat) : Int) - 48) = ((bt t k - 48 : Nat) : Int) := by
          rw [IntKind.wrap_u8]; omega
        rw [e1, w64 (n := 10 * (a : Int)) (by omega), w64 (n := ((bt t k - 48 : Nat) : Int)) (by omega), w64 (by omega), wS (by omega), show (10 : Int) * (a : Int) + ((bt t k - 48 : Nat) : Int) = ((10 * a + (bt t k - 48) : Nat) : Int) by omega]
        exact hL
      · rw [if_neg hdig] at hd
        have hn : numV t = none := by unfold numV; rw [hd]
        refine ⟨0, false, l28_0 _ _ _ _ (cT (by simp; omega) ?_), .inr ⟨rfl, hn⟩⟩
        rw [toN, byteAt_bt]
        refine ⟨⟨by omega, by omega⟩, cd (fun _ => rfl) (fun h1 => ⟨⟨by omega, by omega⟩, cT (by simp; omega) rfl⟩)⟩
  obtain ⟨n, b, hL, hr⟩ := loop t.size 0 0 (by omega) (by decide) (by rw [List.drop_zero])
  have hR : Rn 28 [st t] (.tup [i64 n, tb b], [.dead]) := by
    refine f28 _ _ (cF (by simp; omega) (cF (by simp; omega) ⟨⟨by omega, by omega⟩, cd (fun h => cF (by rw [byteAt_bt] at h; simp; omega) ?_) (fun h => ?_)⟩))
    · exact hL
    · exact hL
  rcases hr with ⟨rfl, v, rfl, hv⟩ | ⟨rfl, hv⟩
  · left
    have : numB t = true := by simp [numB, hv]
    rw [this, hv]
    exact hR
  · exact .inr ⟨none_case hv, n, hR⟩
end Go.Proofs.YtgfaadooijngnaaDoorT
