/- The library's numerals of numbers, at base 10 (after the guide's walk of FormatInt). -/
import Derived.Test.YthcaodlfnlhfbaaDoorT27
import Derived.Test.YthcaodlfnlhfbaaDoorProg
import Derived.Shelf.LaysM
import Derived.Shelf.Strconv.Itoa1
import Derived.Shelf.Strconv.Itoa2
import Derived.Lib.Walk
import Derived.Lib.ItoaMem
import Derived.Lib.AppendIntMem
import Derived.Lib.OwnBridge
import Derived.WalkKit
import Derived.BigCall
import Derived.BigGuard
namespace Go.Proofs
open Go.Shelf Go.RowKit Go.Sort Go.Lib
def Tryd.laysND_ren : Go.Shelf.Ren := ⟨fun | 284 => 135 | 129 => 127 | 317 => 147 | 318 => 148 | n => n, fun | 53 => 164 | 3 => 3 | 212 => 207 | 0 => 0 | 4 => 4 | 46 => 155 | 5 => 5 | 9 => 9 | n => n, fun | 17 => 4 | n => n⟩
theorem Tryd.laysND : Go.Proofs.LaysM.n284 Tryd.prog Tryd.laysND_ren where
  mixed := by kernel_rfl
  f129 := Tryd.func127.trans (congrArg some (by kernel_rfl))
  f284 := Tryd.func135.trans (congrArg some (by kernel_rfl))
  f317 := Tryd.func147.trans (congrArg some (by kernel_rfl))
  f318 := Tryd.func148.trans (congrArg some (by kernel_rfl))
  t0 := Tryd.underlying0
  a0 := Tryd.isAgg0
  z0 := Tryd.sizeOf0
  v0 := Tryd.zeroValue0
  t3 := Tryd.underlying3
  a3 := Tryd.isAgg3
  z3 := Tryd.sizeOf3
  v3 := Tryd.zeroValue3
  t4 := Tryd.underlying4
  a4 := Tryd.isAgg4
  z4 := Tryd.sizeOf4
  v4 := Tryd.zeroValue4
  t5 := Tryd.underlying5
  a5 := Tryd.isAgg5
  z5 := Tryd.sizeOf5
  v5 := Tryd.zeroValue5
  t9 := Tryd.underlying9
  a9 := Tryd.isAgg9
  z9 := Tryd.sizeOf9
  v9 := Tryd.zeroValue9
  t46 := Tryd.underlying155
  a46 := Tryd.isAgg155
  z46 := Tryd.sizeOf155
  v46 := Tryd.zeroValue155
  t53 := Tryd.underlying164
  a53 := Tryd.isAgg164
  z53 := Tryd.sizeOf164
  v53 := Tryd.zeroValue164
  t212 := Tryd.underlying207
  a212 := Tryd.isAgg207
  z212 := Tryd.sizeOf207
  v212 := Tryd.zeroValue207
  g17 := by kernel_rfl
  i0 := by kernel_rfl
  i3 := by kernel_rfl
  i4 := by kernel_rfl
  i5 := by kernel_rfl
  i9 := by kernel_rfl
  i46 := by kernel_rfl
  i53 := by kernel_rfl
  i212 := by kernel_rfl
  m17 := by kernel_rfl
def Tryd.laysFB_ren : Go.Shelf.Ren := ⟨fun | 285 => 136 | n => n, fun | 37 => 190 | 53 => 164 | 3 => 3 | 4 => 4 | 51 => 183 | 9 => 9 | 5 => 5 | 0 => 0 | n => n, fun | n => n⟩
theorem Tryd.laysFB : Go.Proofs.Lays.n285 Tryd.prog Tryd.laysFB_ren where
  mixed := by kernel_rfl
  f285 := Tryd.func136.trans (congrArg some (by kernel_rfl))
  t0 := Tryd.underlying0
  a0 := Tryd.isAgg0
  z0 := Tryd.sizeOf0
  v0 := Tryd.zeroValue0
  t3 := Tryd.underlying3
  a3 := Tryd.isAgg3
  z3 := Tryd.sizeOf3
  v3 := Tryd.zeroValue3
  t4 := Tryd.underlying4
  a4 := Tryd.isAgg4
  z4 := Tryd.sizeOf4
  v4 := Tryd.zeroValue4
  t5 := Tryd.underlying5
  a5 := Tryd.isAgg5
  z5 := Tryd.sizeOf5
  v5 := Tryd.zeroValue5
  t9 := Tryd.underlying9
  a9 := Tryd.isAgg9
  z9 := Tryd.sizeOf9
  v9 := Tryd.zeroValue9
  t37 := Tryd.underlying190
  a37 := Tryd.isAgg190
  z37 := Tryd.sizeOf190
  v37 := Tryd.zeroValue190
  t51 := Tryd.underlying183
  a51 := Tryd.isAgg183
  z51 := Tryd.sizeOf183
  v51 := Tryd.zeroValue183
  t53 := Tryd.underlying164
  a53 := Tryd.isAgg164
  z53 := Tryd.sizeOf164
  v53 := Tryd.zeroValue164
def Tryd.laysSmall_ren : Go.Shelf.Ren := ⟨fun | 283 => 134 | n => n, fun | 3 => 3 | 9 => 9 | 4 => 4 | n => n, fun | n => n⟩
theorem Tryd.laysSmall : Go.Proofs.Lays.n283 Tryd.prog Tryd.laysSmall_ren where
  mixed := by kernel_rfl
  f283 := Tryd.func134.trans (congrArg some (by kernel_rfl))
  t3 := Tryd.underlying3
  a3 := Tryd.isAgg3
  z3 := Tryd.sizeOf3
  v3 := Tryd.zeroValue3
  t4 := Tryd.underlying4
  a4 := Tryd.isAgg4
  z4 := Tryd.sizeOf4
  v4 := Tryd.zeroValue4
  t9 := Tryd.underlying9
  a9 := Tryd.isAgg9
  z9 := Tryd.sizeOf9
  v9 := Tryd.zeroValue9
namespace YthcaodlfnlhfbaaDoorT
set_option linter.unusedVariables false
set_option maxHeartbeats 4000000 in
set_option maxRecDepth 100000 in
theorem fmtU (u : Nat) (hu64 : u < 18446744073709551616) (w : World) (htab : Lib.TabIs Tryd.prog w "internal/strconv.uint64pow10" .u64 Lib.pow10Tab) :
    Calls Tryd.prog 116 #[.int .u64 u, .int .i64 10] w fun e w' => e = .returned (.string ⟨(Lib.decDigits u).toArray⟩) ∧ Below w.heap.size w w' := by
  by_cases hi : u < 100
  · have c : ∀ W, Calls Tryd.prog 134 #[.int .i64 u] W fun e w' => e = .returned (.string ⟨(Lib.decDigits u).toArray⟩) ∧ w' = W := fun W => Any.internal_strconv_small Tryd.laysSmall u hi W
    have hcv : IntKind.i64.wrap (u : Int) = (u : Int) := by rw [IntKind.wrap_i64]; omega
    go_enter Tryd.func116, Tryd.ntmps116
    go_wp2_with (go_at_call 134; refine (c _).mono ?_; rintro e w' ⟨rfl, rfl⟩)
    go_ret
    exact ⟨rfl, Below.refl _ _⟩
  · have hu1 : 1 ≤ u := by omega
    have hnd20 : Lib.nDigits u ≤ 20 := by have := Lib.numDigits_eq u hu1 hu64; split at this <;> omega
    have hal : Tryd.prog.arrayLen 192 = 24 := by kernel_rfl
    have hsl1 : ∀ W, (Instr.sliceAt 192 (.pointer (some ⟨w.heap.size, 0, none⟩)) none (some (.int .i64 (Lib.nDigits u : Int))) none).run Tryd.prog W = .ok (.slice (some ⟨w.heap.size, 0, none⟩) (Lib.nDigits u) 24) W := fun W => by
      rw [run_sliceAt_array_h W 192 ⟨w.heap.size, 0, none⟩ (by kernel_rfl) .i64 (Lib.nDigits u : Int) (by omega) (by rw [hal]; omega)]
      go_simp
    have hH0 := Lib.holds_zero0 w 192 (Lib.nDigits u) (by omega)
    have hfmt := Any.internal_strconv_formatBase10 Tryd.laysFB w.heap.size 0 24 u (Array.replicate (Lib.nDigits u) 0) (w.alloc (.cells Lib.zeros24 192)) hH0 (by rw [Array.size_replicate]; exact Lib.lt_pow_nDigits u) hu64 (by rw [Array.size_replicate]; omega)
    rw [Array.size_replicate] at hfmt
    have hnd : Calls Tryd.prog 135 #[.int .u64 u] (w.alloc (.cells Lib.zeros24 192)) fun e w' => e = .returned (.int .i64 (Lib.nDigits u)) ∧ w' = w.alloc (.cells Lib.zeros24 192) := Any.internal_strconv_numDigits Tryd.laysND u hu1 hu64 _ (Lib.tabIs_alloc htab _)
    have HH0 := Lib.hid hH0
    clear hH0 hal
    go_enter Tryd.func116, Tryd.ntmps116
    go_wp2_with (go_at_call 135; refine hnd.mono ?_; rintro e w' ⟨rfl, rfl⟩)
    go_at_call 136
    refine hfmt.mono ?_
    rintro e w' ⟨rfl, k, v', dk, rfl, hF⟩
    have hcv : (convert 190 9 (.slice (some ⟨w.heap.size, 0, none⟩) (Lib.nDigits u) 24)).run Tryd.prog ((putRow (fun (b : UInt8) => Value.int .u8 (b.toNat : Int)) (w.alloc (.cells Lib.zeros24 192)) w.heap.size 0 dk).drewN k) = .ok (.string ⟨(Lib.decDigits u).toArray⟩) ((putRow (fun (b : UInt8) => Value.int .u8 (b.toNat : Int)) (w.alloc (.cells Lib.zeros24 192)) w.heap.size 0 dk).drewN k) := by
      have h := run_convert_bytes_back (P := Tryd.prog) ((putRow (fun (b : UInt8) => Value.int .u8 (b.toNat : Int)) (w.alloc (.cells Lib.zeros24 192)) w.heap.size 0 dk).drewN k) 190 9 5 ⟨w.heap.size, 0, none⟩ 24 (Lib.decDigits u) Tryd.underlying190 Tryd.underlying5 Tryd.underlying9 (fun j hj => by
        rw [Lib.row_is_numeral hF j hj, Lib.add_plain, World.cell?_drewN]
        exact cell?_putRow (fun (b : UInt8) => Value.int .u8 (b.toNat : Int)) _ w.heap.size 0 _ dk HH0.out (by rw [hF.size, Array.size_replicate]) j (by rw [hF.size]; rw [Lib.decDigits_length] at hj; exact hj))
      rw [Lib.decDigits_length] at h
      exact h
    go_wp2
    go_ret
    refine ⟨rfl, ?_⟩
    obtain ⟨os, eo⟩ : ∃ os, (putRow (fun (b : UInt8) => Value.int .u8 (b.toNat : Int)) (w.alloc (.cells Lib.zeros24 192)) w.heap.size 0 dk).drewN k = grow (w.drewN k) os := by
      rw [alloc_eq_grow]
      obtain ⟨os', _, e⟩ := putRow_grow_new (fun (b : UInt8) => Value.int .u8 (b.toNat : Int)) w #[.cells Lib.zeros24 192] w.heap.size 0 dk (Nat.le_refl _)
      exact ⟨os', by rw [e]; rfl⟩
    rw [eo]
    exact Lib.below_grow _ _ (Nat.le_refl _) _ _
theorem glob_pow {w : World} {ok : Nat → Prop} (h : Glob w ok) : Lib.TabIs Tryd.prog w "internal/strconv.uint64pow10" .u64 Lib.pow10Tab := by
  obtain ⟨cs, t, z, h1, h2⟩ := glob_at h mem_pow
  show w.var? Tryd.prog _ = _
  unfold World.var?
  rw [show Tryd.prog.globalNamed "internal/strconv.uint64pow10" = some 4 by kernel_rfl]
  simp only [Option.bind_some, h1]
  rw [h2]
theorem runs116 (u : Nat) (hu64 : u < 18446744073709551616) : Runs Tryd.prog 116 [.s (.int .u64 u), i64 10] (st ⟨(Lib.decDigits u).toArray⟩, [.dead, .dead]) :=
  runs_of_calls (us := [.int .u64 u, .int .i64 10]) ⟨Tryd.f116, Tryd.func116, by decide, by kernel_rfl⟩ (by simp [plainV]) fun w hG =>
    (fmtU u hu64 w (glob_pow hG)).mono fun e w' ⟨he, hb⟩ => ⟨hb, _, he, fun ok => X_s rfl⟩
end YthcaodlfnlhfbaaDoorT
end Go.Proofs
