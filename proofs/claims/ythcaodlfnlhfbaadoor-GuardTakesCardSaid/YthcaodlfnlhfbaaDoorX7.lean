/- The library's whole numbers out of digits, at base 10 and 64 bits. -/
import Derived.Test.YthcaodlfnlhfbaaDoorX5
import Derived.Test.YthcaodlfnlhfbaaDoorPA
import Derived.Shelf.Strconv.ParseInt10At64
namespace Go.Proofs
open Go.Shelf Go.RowKit Go.Lib
def Tryd.laysPI_ren : Go.Shelf.Ren := ⟨fun | 247 => 113 | 287 => 115 | 321 => 132 | 322 => 133 | n => n, fun | 9 => 9 | 3 => 3 | 2 => 2 | 75 => 160 | 4 => 4 | 167 => 185 | 5 => 5 | 53 => 164 | 175 => 165 | 46 => 155 | 37 => 190 | 0 => 0 | 21 => 21 | 80 => 219 | n => n, fun | n => n⟩
theorem Tryd.laysPI : Go.Proofs.LaysC.n247 Tryd.prog Tryd.laysPI_ren where
  mixed := by kernel_rfl
  f247 := Tryd.func113.trans (congrArg some (by kernel_rfl))
  f287 := Tryd.func115.trans (congrArg some (by kernel_rfl))
  f321 := Tryd.func132.trans (congrArg some (by kernel_rfl))
  f322 := Tryd.func133.trans (congrArg some (by kernel_rfl))
  t0 := Tryd.underlying0
  a0 := Tryd.isAgg0
  z0 := Tryd.sizeOf0
  v0 := Tryd.zeroValue0
  t2 := Tryd.underlying2
  a2 := Tryd.isAgg2
  z2 := Tryd.sizeOf2
  v2 := Tryd.zeroValue2
  t3 := Tryd.underlying3
  a3 := Tryd.isAgg3
  z3 := Tryd.sizeOf3
  v3 := Tryd.zeroValue3
  t4 := Tryd.underlying4
  a4 := Tryd.isAgg4
  z4 := Tryd.sizeOf4
  v4 := Tryd.zeroValue4
  t5 := Tryd.underlying5
  a5 := Tryd.isAgg5
  z5 := Tryd.sizeOf5
  v5 := Tryd.zeroValue5
  t9 := Tryd.underlying9
  a9 := Tryd.isAgg9
  z9 := Tryd.sizeOf9
  v9 := Tryd.zeroValue9
  t21 := Tryd.underlying21
  a21 := Tryd.isAgg21
  z21 := Tryd.sizeOf21
  v21 := Tryd.zeroValue21
  t37 := Tryd.underlying190
  a37 := Tryd.isAgg190
  z37 := Tryd.sizeOf190
  v37 := Tryd.zeroValue190
  t46 := Tryd.underlying155
  a46 := Tryd.isAgg155
  z46 := Tryd.sizeOf155
  v46 := Tryd.zeroValue155
  t53 := Tryd.underlying164
  a53 := Tryd.isAgg164
  z53 := Tryd.sizeOf164
  v53 := Tryd.zeroValue164
  t75 := Tryd.underlying160
  a75 := Tryd.isAgg160
  z75 := Tryd.sizeOf160
  v75 := Tryd.zeroValue160
  t167 := Tryd.underlying185
  a167 := Tryd.isAgg185
  z167 := Tryd.sizeOf185
  v167 := Tryd.zeroValue185
  t175 := Tryd.underlying165
  a175 := Tryd.isAgg165
  z175 := Tryd.sizeOf165
  v175 := Tryd.zeroValue165
  t80 := Tryd.underlying219
  a80 := Tryd.isAgg219
  z80 := Tryd.sizeOf219
  v80 := Tryd.zeroValue219
  i0 := by kernel_rfl
  i2 := by kernel_rfl
  i3 := by kernel_rfl
  i4 := by kernel_rfl
  i5 := by kernel_rfl
  i9 := by kernel_rfl
  i21 := by kernel_rfl
  i37 := by kernel_rfl
  i46 := by kernel_rfl
  i53 := by kernel_rfl
  i75 := by kernel_rfl
  i80 := by kernel_rfl
  i167 := by kernel_rfl
  i175 := by kernel_rfl
  c0 := by kernel_rfl
  c2 := by kernel_rfl
  c3 := by kernel_rfl
  c4 := by kernel_rfl
  c5 := by kernel_rfl
  c9 := by kernel_rfl
  c21 := by kernel_rfl
  c37 := by kernel_rfl
  c46 := by kernel_rfl
  c53 := by kernel_rfl
  c75 := by kernel_rfl
  c80 := by kernel_rfl
  c167 := by kernel_rfl
  c175 := by kernel_rfl
namespace YthcaodlfnlhfbaaDoorT
theorem pm_dgt : ∀ (l : List UInt8) (a v : Nat), dgt a l = some v → v ≤ 9223372036854775807 → Lib.parseUintM 18446744073709551615 a l = .ok v
  | [], a, v, h, hv => by simp [dgt] at h; subst h; rfl
  | c :: r, a, v, h, hv => by
    rw [dgt] at h
    rw [Lib.parseUintM]
    split at h
    · rename_i hd
      have hg := dgt_ge _ _ _ h
      rw [if_pos hd, if_neg (by omega), if_neg (by omega), show a * 10 + (c.toNat - 48) = 10 * a + (c.toNat - 48) by omega]
      exact pm_dgt r _ v h hv
    · cases h
theorem pi_dgt {l : List UInt8} {v : Nat} (h : dgt 0 l = some v) (hl : l ≠ []) (hv : v ≤ 1000000000) : Lib.parseIntB 64 l = .ok (v : Int) := by
  have hm := pm_dgt l 0 v h (by omega)
  cases l with
  | nil => exact absurd rfl hl
  | cons c r =>
    have hd : 48 ≤ c.toNat ∧ c.toNat ≤ 57 := by
      rw [dgt] at h
      split at h
      · assumption
      · cases h
    have e43 : ¬ (c.toNat = 43 ∨ c.toNat = 45) := by omega
    have e45 : ¬ c.toNat = 45 := by omega
    have hub : Lib.parseUintB 64 (c :: r) = .ok v := by
      rw [Lib.parseUintB, if_neg (by simp)]
      exact hm
    unfold Lib.parseIntB
    simp only [if_neg e43]
    rw [hub]
    simp only [e45, not_false_eq_true, true_and, false_and, if_false]
    have h2 : ¬ 2 ^ (64 - 1) ≤ v := by
      show ¬ 9223372036854775808 ≤ v
      omega
    rw [if_neg h2]
theorem runs113 (t : ByteArray) (v : Nat) (h : dgt 0 (bl t) = some v) (hl : bl t ≠ []) (hv : v ≤ 1000000000) (hs : t.size ≤ 140737488355328) :
    Rn 113 [st t, i64 10, i64 64] (.tup [i64 v, (⟨0, .dead⟩ : IfV).v], [.dead, .dead, .dead]) := by
  have h0 : t.size ≠ 0 := fun e => hl (List.eq_nil_of_length_eq_zero (by rw [bl_len]; exact e))
  refine runs_of_calls (us := [.string t, .int .i64 10, .int .i64 64]) ⟨Tryd.f113, Tryd.func113, by decide, by kernel_rfl⟩ (by simp [plainV]) fun w hG => ?_
  have hp := pi_dgt h hl hv
  have hp : Lib.parseIntB 64 t.data.toList = .ok (v : Int) := hp
  refine (Any.internal_strconv_ParseInt_10_at64 Tryd.laysPI t h0 (by omega) w).mono ?_
  rintro e w' ⟨rfl, hw⟩
  rw [hp]
  refine ⟨?_, _, rfl, fun ok => X_pair (X_s rfl) X_nilI⟩
  rcases hw with rfl | ⟨u, rfl⟩
  · exact Below.refl _ _
  · exact Lib.bytesWorld_below _ _ _
/-- ParseInt, as the program calls it, of a number's text. -/
theorem runs100 (t : ByteArray) (v : Nat) (h : numV t = some v) (hs : t.size ≤ 140737488355328) : Rn 100 [st t, i64 10, i64 64] (.tup [i64 v, (⟨0, .dead⟩ : IfV).v], [.dead, .dead, .dead]) := by
  unfold numV at h
  split at h
  · rename_i u hu
    split at h
    · rename_i hc
      simp only [Option.some.injEq] at h
      subst h
      exact f100 _ _ _ _ ⟨_, _, runs113 t u hu (fun e => dec_ne u (by rw [hc.2, e])) hc.1 hs, cF rfl rfl⟩
    · cases h
  · cases h
end YthcaodlfnlhfbaaDoorT
end Go.Proofs
