/- What the listed package-level variables hold, out of the row's reading. -/
import Derived.Test.YthcaodlfnlhfbaaGreatDoorT27
import Derived.Test.YthcaodlfnlhfbaaGreatDoorRows
import Derived.Lib.LaidU8
import Derived.Lib.LaidTab
import Derived.Shelf.LaysM
import Derived.Shelf.Strconv.Lower
import Derived.Lib.Strings
import Derived.Lib.Walk
import Derived.Lib.ConvBytes
import Derived.Lib.ParseIntBMem
import Derived.Lib.Hide
import Derived.Laws.Strings3
import Derived.Laws.Closers25
import Derived.Laws.Closers25b
import Derived.WalkKit
import Derived.BigCall
import Derived.BigGuard
import Derived.Test.YthcaodlfnlhfbaaGreatDoorProg
import Derived.Shelf.Strconv.Itoa1
import Derived.Shelf.Strconv.Itoa2
import Derived.Lib.ItoaMem
import Derived.Lib.AppendIntMem
import Derived.Lib.OwnBridge
import Derived.Test.YthcaodlfnlhfbaaGreatDoorT26
import Derived.Shelf.Unicode.DecodeSlow
import Derived.Test.YthcaodlfnlhfbaaGreatDoorPA
import Derived.Lib.ItoaNum
import Derived.Shelf.Strconv.ToError
import Derived.Shelf.Strconv.ToErrorRange
import Derived.Shelf.Strconv.ParseUintEmpty
namespace Go.Proofs
open Go.RowKit Go.Shelf Go.Lib Go.Proofs.YthcaodlfnlhfbaaGreatDoor
namespace YthcaodlfnlhfbaaGreatDoorT
theorem iface_of_trod {H : Type} {enc : TypeId × Value → H} {P : Program} {w : World} {base : Nat} {sp : Nat → Bool} {fuel : Nat} {t : TypeId} {ms : Array (String × TypeId)} {cs : List Value} {name : String} {d : DataW H} {p : List MemPlace}
    (ht : P.underlying t = some (.interface ms)) (h : DataW.trod enc P w base sp false fuel t cs = some (.iface name d, p)) : ∃ u x, cs = [.iface u x] := by
  cases fuel with
  | zero => simp [DataW.trod] at h
  | succ fuel =>
    unfold DataW.trod at h
    rw [ht] at h
    split at h
    all_goals first
      | exact ⟨_, _, rfl⟩
      | (exfalso; simp at h; done)
      | (exfalso; simp_all; done)
theorem cell_heap {w : World} {g i : Nat} {v : Value} (h : w.cell? ⟨g, i, none⟩ = some v) : ∃ cs t z, w.heap[g]? = some (.cells cs t z) := by
  unfold World.cell? at h
  simp only at h
  split at h
  · exact ⟨_, _, _, by assumption⟩
  all_goals simp at h
theorem var_heap {w : World} {n : String} {g : Nat} {cs : Array Value} (hg : Tryz.prog.globalNamed n = some g) (h : w.var? Tryz.prog n = some cs) : ∃ t z, w.heap[g]? = some (.cells cs t z) := by
  unfold World.var? at h
  rw [hg] at h
  simp only [Option.bind_some] at h
  split at h
  · cases h; exact ⟨_, _, by assumption⟩
  · cases h
theorem pow_eq : (Rows.laid_internal_strconv_uint64pow10 : DataW Unit) = tabData .u64 pow10Tab := by kernel_rfl
/-- In this order: pow, syn, rng. -/
theorem glob_laid {w : World} (h_pow : VarReads Tryz.prog w "internal/strconv.uint64pow10" Rows.laid_internal_strconv_uint64pow10) (h_syn : VarReads Tryz.prog w "strconv.ErrSyntax" Rows.laid_strconv_ErrSyntax) (h_rng : VarReads Tryz.prog w "strconv.ErrRange" Rows.laid_strconv_ErrRange) : Glob w (fun k => k < w.heap.size) := by
  have lt : ∀ {g : Nat} {o : Obj}, w.heap[g]? = some o → g < w.heap.size := fun h => by
    rcases Nat.lt_or_ge _ w.heap.size with h' | h'
    · exact h'
    · rw [Array.getElem?_eq_none h'] at h; cases h
  have sent : ∀ {n : String} {g : Nat} {d : DataW Unit} {nm : String}, VarReads Tryz.prog w n (.iface nm d) → Tryz.prog.globalNamed n = some g → (Tryz.prog.globals[g]?).map (·.type) = some 120 → ∃ cs t z, w.heap[g]? = some (.cells cs t z) ∧ ∃ u x, cs[0]? = some (.iface u x) := by
    rintro n g d nm ⟨g', t, cs, fuel, p, hg, hty, hvar, hd⟩ hn hy
    obtain rfl := Option.some.inj (hn.symm.trans hg)
    obtain rfl := Option.some.inj (hy.symm.trans hty)
    obtain ⟨t', z, hh⟩ := var_heap hn hvar
    obtain ⟨u, x, hc⟩ := iface_of_trod Tryz.underlying120 hd
    exact ⟨cs, t', z, hh, u, x, by rw [← Array.getElem?_toList, hc]; rfl⟩
  obtain ⟨c_syn, t_syn, z_syn, e_syn, f_syn⟩ := sent (g := 3) h_syn (by kernel_rfl) (by kernel_rfl)
  obtain ⟨c_rng, t_rng, z_rng, e_rng, f_rng⟩ := sent (g := 4) h_rng (by kernel_rfl) (by kernel_rfl)
  obtain ⟨c_pow, t_pow, z_pow, e_pow, f_pow⟩ : ∃ cs t z, w.heap[0]? = some (.cells cs t z) ∧ cs = (Lib.pow10Tab.map fun z => Value.int .u64 z).toArray := by
    rw [pow_eq] at h_pow
    obtain ⟨g', t, cs, fuel, p, hg, hty, hvar, hd⟩ := h_pow
    have hn : Tryz.prog.globalNamed "internal/strconv.uint64pow10" = some 0 := by kernel_rfl
    obtain rfl := Option.some.inj (hn.symm.trans hg)
    have hy : (Tryz.prog.globals[0]?).map (·.type) = some 129 := by kernel_rfl
    obtain rfl := Option.some.inj (hy.symm.trans hty)
    obtain ⟨t', z, hh⟩ := var_heap hn hvar
    have := cells_of_tab Tryz.underlying129 Tryz.underlying110 (by kernel_rfl) (by kernel_rfl) hd
    exact ⟨cs, t', z, hh, by rw [← this]⟩
  intro e he
  simp only [GL, List.mem_cons, List.not_mem_nil, or_false] at he
  rcases he with rfl | rfl | rfl
  · exact ⟨lt e_syn, c_syn, t_syn, z_syn, e_syn, f_syn⟩
  · exact ⟨lt e_rng, c_rng, t_rng, z_rng, e_rng, f_rng⟩
  · exact ⟨lt e_pow, c_pow, t_pow, z_pow, e_pow, f_pow⟩
end YthcaodlfnlhfbaaGreatDoorT
end Go.Proofs

/- The library's inner ParseUint at base 10 and 63 bits, at every text that is not empty (a walk of the guide's, turned to 63 bits). -/
namespace Go.Proofs.YthcaodlfnlhfbaaGreatDoorT
open Go Go.Proofs Go.Shelf Go.RowKit
variable {P : Program} {ρ : Ren}
set_option maxHeartbeats 32000000 in
set_option maxRecDepth 100000 in
theorem parseUint63 (L : Lays.n287 P ρ) (t : ByteArray) (hne : t.size ≠ 0) (hmax : t.size ≤ 9223372036854775806) (w : World) :
    Calls P (ρ.f 287) #[.string t, .int .i64 10, .int .i64 63] w fun e w' => e = .returned (Lib.uintTupleM (ρ.t 167) 9223372036854775807 (Lib.parseUintM 9223372036854775807 0 t.data.toList)) ∧ w' = Lib.bytesWorld w (ρ.t 5) t := by
  have mixed := L.mixed
  have t9 := L.t9; have a9 := L.a9; have z9 := L.z9; have v9 := L.v9
  have t3 := L.t3; have a3 := L.a3; have z3 := L.z3; have v3 := L.v3
  have t53 := L.t53; have a53 := L.a53; have z53 := L.z53; have v53 := L.v53
  have t75 := L.t75; have a75 := L.a75; have z75 := L.z75; have v75 := L.v75
  have t4 := L.t4; have a4 := L.a4; have z4 := L.z4; have v4 := L.v4
  have t167 := L.t167; have a167 := L.a167; have z167 := L.z167; have v167 := L.v167
  have t5 := L.t5; have a5 := L.a5; have z5 := L.z5; have v5 := L.v5
  have t46 := L.t46; have a46 := L.a46; have z46 := L.z46; have v46 := L.v46
  have t37 := L.t37; have a37 := L.a37; have z37 := L.z37; have v37 := L.v37
  have t0 := L.t0; have a0 := L.a0; have z0 := L.z0; have v0 := L.v0
  have e321 : ∀ args w, (callFunc (ρ.f 321) args).run P w = .ok (.enter (ρ.f 321) args) w := enters_of L.f321 (by kernel_rfl) rfl
  have hemp : t.toList.isEmpty = false := by
    rw [← decide_eq_emptyBytes]
    exact decide_eq_false (fun h => hne (by rw [h]; rfl))
  have hcv := Lib.run_convert_string_bytes (P := P) w (ρ.t 9) (ρ.t 37) (ρ.t 5) t (u := .string) L.t9 L.t37 L.t5
  have hB : ∀ j, j < t.size → (Lib.bytesWorld w (ρ.t 5) t).cell? ⟨w.heap.size, j, none⟩ = some (.int .u8 (t.data.toList.getD j 0).toNat) := fun j hj => Lib.bytesWorld_cell w (ρ.t 5) t j hj
  obtain ⟨W1, hW1⟩ : ∃ W1, W1 = Lib.bytesWorld w (ρ.t 5) t := ⟨_, rfl⟩
  rw [← hW1] at hcv hB ⊢
  clear hW1
  obtain ⟨bs, hL⟩ : ∃ bs, bs = t.data.toList := ⟨_, rfl⟩
  have hLn : bs.length = t.size := by rw [hL, Lib.size_eq]
  rw [← hL] at hB ⊢
  clear hL
  -- 'maxVal := uint64(1)<<uint(bitSize) - 1': its value, for the walk to take
  have hmv : IntKind.u64.wrap (IntKind.u64.wrap 9223372036854775808 - 1) = 9223372036854775807 := by
    rw [IntKind.wrap_u64, IntKind.wrap_u64]
    decide
  go_enter L.f287, Body.n287_ntmps ρ
  go_wp2
  go_loop [12, 13, 101] (fun vu vn vi => ∃ (k acc : Nat) (a : Int), vu = .bool false ∧ vn = .int .u64 a ∧ vi = .int .i64 k ∧ k ≤ t.size ∧ Hid (a = (acc : Int) ∧ acc ≤ 9223372036854775807 ∧ Lib.parseUintM 9223372036854775807 0 bs = Lib.parseUintM 9223372036854775807 acc (bs.drop k)))
    (fun _ _ vi => t.size - (intOf vi).toNat)
  case atStart => exact ⟨0, 0, 0, rfl, rfl, rfl, by omega, rfl, by omega, rfl⟩
  case round =>
    obtain ⟨k, acc, a, rfl, rfl, rfl, hk, hh⟩ := hrel
    obtain ⟨ha, hacc, hdec⟩ := hh.out
    clear hh
    have a0 : 0 ≤ a := by omega
    have a1 : a ≤ 9223372036854775807 := by omega
    by_cases hkn : k < t.size
    · have hc := hB k hkn
      have hdrop : bs.drop k = bs[k]'(by omega) :: bs.drop (k + 1) := List.drop_eq_getElem_cons (by omega)
      have hget : bs.getD k 0 = bs[k]'(by omega) := by simp [List.getD, List.getElem?_eq_getElem (show k < bs.length by omega)]
      rw [hdrop] at hdec
      rw [hget] at hc
      generalize bs[k]'(by omega) = c at hc hdec
      have hc256 : c.toNat < 256 := c.toNat_lt
      clear hB hdrop hget
      by_cases hdig : 48 ≤ c.toNat ∧ c.toNat ≤ 57
      · obtain ⟨hd0, hd1⟩ := hdig
        by_cases hcut : 1844674407370955162 ≤ acc
        · have hF : Lib.parseUintM 9223372036854775807 acc (c :: bs.drop (k + 1)) = .range := by simp [Lib.parseUintM, hd0, hd1, hcut]
          rw [hF] at hdec
          have icut : 1844674407370955162 ≤ a := by omega
          clear hcut hacc hF ha
          go_wp2
          go_ret2
          exact ⟨rfl, rfl⟩
        by_cases hwr2 : 18446744073709551616 ≤ acc * 10 + (c.toNat - 48)
        · have hF : Lib.parseUintM 9223372036854775807 acc (c :: bs.drop (k + 1)) = .range := by simp [Lib.parseUintM, hd0, hd1, hcut, show 9223372036854775807 < acc * 10 + (c.toNat - 48) by omega]
          rw [hF] at hdec
          have icut : a < 1844674407370955162 := by omega
          have iov : 18446744073709551616 ≤ a * 10 + ((c.toNat : Int) - 48) := by omega
          have hwr : IntKind.u64.wrap (a * 10 + ((c.toNat : Int) - 48)) = a * 10 + ((c.toNat : Int) - 48) - 18446744073709551616 := by
            rw [IntKind.wrap_u64]
            omega
          clear hcut hacc hF hwr2 ha
          go_wp2
          go_ret2
          exact ⟨rfl, rfl⟩
        by_cases hov : 9223372036854775807 < acc * 10 + (c.toNat - 48)
        · have hF : Lib.parseUintM 9223372036854775807 acc (c :: bs.drop (k + 1)) = .range := by simp [Lib.parseUintM, hd0, hd1, hcut, hov]
          rw [hF] at hdec
          have icut : a < 1844674407370955162 := by omega
          have iov : 9223372036854775807 < a * 10 + ((c.toNat : Int) - 48) := by omega
          have iw : a * 10 + ((c.toNat : Int) - 48) < 18446744073709551616 := by omega
          clear hcut hacc hF hov hwr2 ha
          go_wp2
          go_ret2
          exact ⟨rfl, rfl⟩
        · have hF : Lib.parseUintM 9223372036854775807 acc (c :: bs.drop (k + 1)) = Lib.parseUintM 9223372036854775807 (acc * 10 + (c.toNat - 48)) (bs.drop (k + 1)) := by simp [Lib.parseUintM, hd0, hd1, hcut, hov]
          have HN : Hid (a * 10 + ((c.toNat : Int) - 48) = ((acc * 10 + (c.toNat - 48) : Nat) : Int) ∧ acc * 10 + (c.toNat - 48) ≤ 9223372036854775807 ∧ Lib.parseUintM 9223372036854775807 0 bs = Lib.parseUintM 9223372036854775807 (acc * 10 + (c.toNat - 48)) (bs.drop (k + 1))) := Lib.hid ⟨by omega, by omega, hdec.trans hF⟩
          have icut : a < 1844674407370955162 := by omega
          have iov : a * 10 + ((c.toNat : Int) - 48) ≤ 9223372036854775807 := by omega
          clear hcut hacc hF hov hwr2 hdec ha
          go_wp2
          refine ⟨⟨k + 1, acc * 10 + (c.toNat - 48), a * 10 + ((c.toNat : Int) - 48), rfl, (by first | rfl | (congr 1; omega)), (by first | rfl | (congr 1; omega)), by omega, HN⟩, by simp [intOf]; omega⟩
      · -- NO DIGIT: whatever way the text goes: (0, ErrSyntax)
        have hF : Lib.parseUintM 9223372036854775807 acc (c :: bs.drop (k + 1)) = Lib.NumEnd.syntax := by simp [Lib.parseUintM, hdig]
        rw [hF] at hdec
        clear hacc hF ha
        have hv0 := bits_lo_u8 .or (c.toNat : Int) 32
        have hv1 := bits_hi_u8 .or (c.toNat : Int) 32
        have hu0 := bits_lo_u8 .or 95 32       -- at '_' the walk writes the byte out
        have hu1 := bits_hi_u8 .or 95 32
        go_wp2_with (go_at_fn (ρ.f 321); refine (Any.internal_strconv_lower { L with } _ _).mono ?_; rintro e w' ⟨rfl, rfl⟩)
        all_goals go_ret2
        all_goals first | exact ⟨rfl, rfl⟩ | exact ⟨by rw [hdec]; rfl, rfl⟩
    · -- THE BYTES ARE AT AN END
      have hkk : k = t.size := by omega
      subst hkk
      have hF : Lib.parseUintM 9223372036854775807 acc (bs.drop t.size) = .ok acc := by rw [List.drop_eq_nil_of_le (by omega)]; rfl
      rw [hF] at hdec
      subst ha
      clear hacc hF a0 a1
      go_wp2
      go_ret2
      exact ⟨rfl, rfl⟩



end Go.Proofs.YthcaodlfnlhfbaaGreatDoorT

/- The library's numerals of numbers, at base 10 (after the guide's walk of FormatInt). -/
namespace Go.Proofs
open Go.Shelf Go.RowKit Go.Sort Go.Lib
def Tryz.laysND_ren : Go.Shelf.Ren := ⟨fun | 284 => 66 | 129 => 83 | 317 => 82 | 318 => 84 | n => n, fun | 53 => 110 | 3 => 3 | 212 => 129 | 0 => 0 | 4 => 4 | 46 => 127 | 5 => 5 | 9 => 9 | n => n, fun | 17 => 0 | n => n⟩
theorem Tryz.laysND : Go.Proofs.LaysM.n284 Tryz.prog Tryz.laysND_ren where
  mixed := by kernel_rfl
  f129 := Tryz.func83.trans (congrArg some (by kernel_rfl))
  f284 := Tryz.func66.trans (congrArg some (by kernel_rfl))
  f317 := Tryz.func82.trans (congrArg some (by kernel_rfl))
  f318 := Tryz.func84.trans (congrArg some (by kernel_rfl))
  t0 := Tryz.underlying0
  a0 := Tryz.isAgg0
  z0 := Tryz.sizeOf0
  v0 := Tryz.zeroValue0
  t3 := Tryz.underlying3
  a3 := Tryz.isAgg3
  z3 := Tryz.sizeOf3
  v3 := Tryz.zeroValue3
  t4 := Tryz.underlying4
  a4 := Tryz.isAgg4
  z4 := Tryz.sizeOf4
  v4 := Tryz.zeroValue4
  t5 := Tryz.underlying5
  a5 := Tryz.isAgg5
  z5 := Tryz.sizeOf5
  v5 := Tryz.zeroValue5
  t9 := Tryz.underlying9
  a9 := Tryz.isAgg9
  z9 := Tryz.sizeOf9
  v9 := Tryz.zeroValue9
  t46 := Tryz.underlying127
  a46 := Tryz.isAgg127
  z46 := Tryz.sizeOf127
  v46 := Tryz.zeroValue127
  t53 := Tryz.underlying110
  a53 := Tryz.isAgg110
  z53 := Tryz.sizeOf110
  v53 := Tryz.zeroValue110
  t212 := Tryz.underlying129
  a212 := Tryz.isAgg129
  z212 := Tryz.sizeOf129
  v212 := Tryz.zeroValue129
  g17 := by kernel_rfl
  i0 := by kernel_rfl
  i3 := by kernel_rfl
  i4 := by kernel_rfl
  i5 := by kernel_rfl
  i9 := by kernel_rfl
  i46 := by kernel_rfl
  i53 := by kernel_rfl
  i212 := by kernel_rfl
  m17 := by kernel_rfl
def Tryz.laysFB_ren : Go.Shelf.Ren := ⟨fun | 285 => 67 | n => n, fun | 37 => 113 | 53 => 110 | 3 => 3 | 4 => 4 | 51 => 130 | 9 => 9 | 5 => 5 | 0 => 0 | n => n, fun | n => n⟩
theorem Tryz.laysFB : Go.Proofs.Lays.n285 Tryz.prog Tryz.laysFB_ren where
  mixed := by kernel_rfl
  f285 := Tryz.func67.trans (congrArg some (by kernel_rfl))
  t0 := Tryz.underlying0
  a0 := Tryz.isAgg0
  z0 := Tryz.sizeOf0
  v0 := Tryz.zeroValue0
  t3 := Tryz.underlying3
  a3 := Tryz.isAgg3
  z3 := Tryz.sizeOf3
  v3 := Tryz.zeroValue3
  t4 := Tryz.underlying4
  a4 := Tryz.isAgg4
  z4 := Tryz.sizeOf4
  v4 := Tryz.zeroValue4
  t5 := Tryz.underlying5
  a5 := Tryz.isAgg5
  z5 := Tryz.sizeOf5
  v5 := Tryz.zeroValue5
  t9 := Tryz.underlying9
  a9 := Tryz.isAgg9
  z9 := Tryz.sizeOf9
  v9 := Tryz.zeroValue9
  t37 := Tryz.underlying113
  a37 := Tryz.isAgg113
  z37 := Tryz.sizeOf113
  v37 := Tryz.zeroValue113
  t51 := Tryz.underlying130
  a51 := Tryz.isAgg130
  z51 := Tryz.sizeOf130
  v51 := Tryz.zeroValue130
  t53 := Tryz.underlying110
  a53 := Tryz.isAgg110
  z53 := Tryz.sizeOf110
  v53 := Tryz.zeroValue110
def Tryz.laysSmall_ren : Go.Shelf.Ren := ⟨fun | 283 => 65 | n => n, fun | 3 => 3 | 9 => 9 | 4 => 4 | n => n, fun | n => n⟩
theorem Tryz.laysSmall : Go.Proofs.Lays.n283 Tryz.prog Tryz.laysSmall_ren where
  mixed := by kernel_rfl
  f283 := Tryz.func65.trans (congrArg some (by kernel_rfl))
  t3 := Tryz.underlying3
  a3 := Tryz.isAgg3
  z3 := Tryz.sizeOf3
  v3 := Tryz.zeroValue3
  t4 := Tryz.underlying4
  a4 := Tryz.isAgg4
  z4 := Tryz.sizeOf4
  v4 := Tryz.zeroValue4
  t9 := Tryz.underlying9
  a9 := Tryz.isAgg9
  z9 := Tryz.sizeOf9
  v9 := Tryz.zeroValue9
namespace YthcaodlfnlhfbaaGreatDoorT
set_option linter.unusedVariables false
set_option maxHeartbeats 4000000 in
set_option maxRecDepth 100000 in
theorem fmtU (u : Nat) (hu64 : u < 18446744073709551616) (w : World) (htab : Lib.TabIs Tryz.prog w "internal/strconv.uint64pow10" .u64 Lib.pow10Tab) :
    Calls Tryz.prog 108 #[.int .u64 u, .int .i64 10] w fun e w' => e = .returned (.string ⟨(Lib.decDigits u).toArray⟩) ∧ Below w.heap.size w w' := by
  by_cases hi : u < 100
  · have c : ∀ W, Calls Tryz.prog 65 #[.int .i64 u] W fun e w' => e = .returned (.string ⟨(Lib.decDigits u).toArray⟩) ∧ w' = W := fun W => Any.internal_strconv_small Tryz.laysSmall u hi W
    have hcv : IntKind.i64.wrap (u : Int) = (u : Int) := by rw [IntKind.wrap_i64]; omega
    go_enter Tryz.func108, Tryz.ntmps108
    go_wp2_with (go_at_call 65; refine (c _).mono ?_; rintro e w' ⟨rfl, rfl⟩)
    go_ret
    exact ⟨rfl, Below.refl _ _⟩
  · have hu1 : 1 ≤ u := by omega
    have hnd20 : Lib.nDigits u ≤ 20 := by have := Lib.numDigits_eq u hu1 hu64; split at this <;> omega
    have hal : Tryz.prog.arrayLen 109 = 24 := by kernel_rfl
    have hsl1 : ∀ W, (Instr.sliceAt 109 (.pointer (some ⟨w.heap.size, 0, none⟩)) none (some (.int .i64 (Lib.nDigits u : Int))) none).run Tryz.prog W = .ok (.slice (some ⟨w.heap.size, 0, none⟩) (Lib.nDigits u) 24) W := fun W => by
      rw [run_sliceAt_array_h W 109 ⟨w.heap.size, 0, none⟩ (by kernel_rfl) .i64 (Lib.nDigits u : Int) (by omega) (by rw [hal]; omega)]
      go_simp
    have hH0 := Lib.holds_zero0 w 109 (Lib.nDigits u) (by omega)
    have hfmt := Any.internal_strconv_formatBase10 Tryz.laysFB w.heap.size 0 24 u (Array.replicate (Lib.nDigits u) 0) (w.alloc (.cells Lib.zeros24 109)) hH0 (by rw [Array.size_replicate]; exact Lib.lt_pow_nDigits u) hu64 (by rw [Array.size_replicate]; omega)
    rw [Array.size_replicate] at hfmt
    have hnd : Calls Tryz.prog 66 #[.int .u64 u] (w.alloc (.cells Lib.zeros24 109)) fun e w' => e = .returned (.int .i64 (Lib.nDigits u)) ∧ w' = w.alloc (.cells Lib.zeros24 109) := Any.internal_strconv_numDigits Tryz.laysND u hu1 hu64 _ (Lib.tabIs_alloc htab _)
    have HH0 := Lib.hid hH0
    clear hH0 hal
    go_enter Tryz.func108, Tryz.ntmps108
    go_wp2_with (go_at_call 66; refine hnd.mono ?_; rintro e w' ⟨rfl, rfl⟩)
    go_at_call 67
    refine hfmt.mono ?_
    rintro e w' ⟨rfl, k, v', dk, rfl, hF⟩
    have hcv : (convert 113 9 (.slice (some ⟨w.heap.size, 0, none⟩) (Lib.nDigits u) 24)).run Tryz.prog ((putRow (fun (b : UInt8) => Value.int .u8 (b.toNat : Int)) (w.alloc (.cells Lib.zeros24 109)) w.heap.size 0 dk).drewN k) = .ok (.string ⟨(Lib.decDigits u).toArray⟩) ((putRow (fun (b : UInt8) => Value.int .u8 (b.toNat : Int)) (w.alloc (.cells Lib.zeros24 109)) w.heap.size 0 dk).drewN k) := by
      have h := run_convert_bytes_back (P := Tryz.prog) ((putRow (fun (b : UInt8) => Value.int .u8 (b.toNat : Int)) (w.alloc (.cells Lib.zeros24 109)) w.heap.size 0 dk).drewN k) 113 9 5 ⟨w.heap.size, 0, none⟩ 24 (Lib.decDigits u) Tryz.underlying113 Tryz.underlying5 Tryz.underlying9 (fun j hj => by
        rw [Lib.row_is_numeral hF j hj, Lib.add_plain, World.cell?_drewN]
        exact cell?_putRow (fun (b : UInt8) => Value.int .u8 (b.toNat : Int)) _ w.heap.size 0 _ dk HH0.out (by rw [hF.size, Array.size_replicate]) j (by rw [hF.size]; rw [Lib.decDigits_length] at hj; exact hj))
      rw [Lib.decDigits_length] at h
      exact h
    go_wp2
    go_ret
    refine ⟨rfl, ?_⟩
    obtain ⟨os, eo⟩ : ∃ os, (putRow (fun (b : UInt8) => Value.int .u8 (b.toNat : Int)) (w.alloc (.cells Lib.zeros24 109)) w.heap.size 0 dk).drewN k = grow (w.drewN k) os := by
      rw [alloc_eq_grow]
      obtain ⟨os', _, e⟩ := putRow_grow_new (fun (b : UInt8) => Value.int .u8 (b.toNat : Int)) w #[.cells Lib.zeros24 109] w.heap.size 0 dk (Nat.le_refl _)
      exact ⟨os', by rw [e]; rfl⟩
    rw [eo]
    exact Lib.below_grow _ _ (Nat.le_refl _) _ _
theorem glob_pow {w : World} {ok : Nat → Prop} (h : Glob w ok) : Lib.TabIs Tryz.prog w "internal/strconv.uint64pow10" .u64 Lib.pow10Tab := by
  obtain ⟨cs, t, z, h1, h2⟩ := glob_at h mem_pow
  show w.var? Tryz.prog _ = _
  unfold World.var?
  rw [show Tryz.prog.globalNamed "internal/strconv.uint64pow10" = some 0 by kernel_rfl]
  simp only [Option.bind_some, h1]
  rw [h2]
theorem runs108 (u : Nat) (hu64 : u < 18446744073709551616) : Runs Tryz.prog 108 [.s (.int .u64 u), i64 10] (st ⟨(Lib.decDigits u).toArray⟩, [.dead, .dead]) :=
  runs_of_calls (us := [.int .u64 u, .int .i64 10]) ⟨Tryz.f108, Tryz.func108, by decide, by kernel_rfl⟩ (by simp [plainV]) fun w hG =>
    (fmtU u hu64 w (glob_pow hG)).mono fun e w' ⟨he, hb⟩ => ⟨hb, _, he, fun ok => X_s rfl⟩
end YthcaodlfnlhfbaaGreatDoorT
end Go.Proofs

/- Texts: bytes, first runes, what stands behind. -/
namespace Go.Proofs.YthcaodlfnlhfbaaGreatDoorT
open Go Go.Proofs
set_option linter.unusedVariables false

/-- A text's bytes. -/
def bl (s : ByteArray) : List UInt8 := s.data.toList
def bt (s : ByteArray) (i : Nat) : Nat := ((bl s).getD i 0).toNat
theorem bl_len (s : ByteArray) : (bl s).length = s.size := by simp [bl]
theorem bt_lt (s : ByteArray) (i : Nat) : bt s i < 256 := by unfold bt; exact UInt8.toNat_lt _
theorem byteAt_bt (s : ByteArray) (i : Nat) : byteAt s i = (bt s i : Int) := rfl
theorem get_bt (s : ByteArray) (i : Nat) : (s.get! i).toNat = bt s i := by
  unfold bt bl
  show (s.data.get!Internal i).toNat = _
  congr 1
  show s.data[i]! = _
  rw [Array.getElem!_eq_getD, Array.getD_eq_getD_getElem?, List.getD_eq_getElem?_getD, Array.getElem?_toList]
  rfl
theorem ext_bl {s t : ByteArray} (h : bl s = bl t) : s = t := by
  cases s; cases t
  simp only [bl] at h
  rw [Array.toList_inj.1 h]
theorem bl_extract (s : ByteArray) (a b : Nat) : bl (s.extract a b) = ((bl s).take b).drop a := by
  unfold bl
  rw [ByteArray.data_extract, Array.toList_extract, List.extract_eq_take_drop]
  rw [List.drop_take]
theorem bl_append (s t : ByteArray) : bl (s ++ t) = bl s ++ bl t := by
  unfold bl
  rw [ByteArray.data_append, Array.toList_append]
/-- What stands behind a place. -/
def suf (s : ByteArray) (i : Nat) : ByteArray := s.extract i s.size
theorem bl_suf (s : ByteArray) (i : Nat) : bl (suf s i) = (bl s).drop i := by
  rw [suf, bl_extract, List.take_of_length_le (by rw [bl_len]; omega)]
theorem size_suf (s : ByteArray) (i : Nat) : (suf s i).size = s.size - i := by rw [← bl_len, bl_suf, List.length_drop, bl_len]
theorem suf_suf (s : ByteArray) (i j : Nat) : suf (suf s i) j = suf s (i + j) := ext_bl (by rw [bl_suf, bl_suf, bl_suf, List.drop_drop])
theorem suf_zero (s : ByteArray) : suf s 0 = s := ext_bl (by rw [bl_suf, List.drop_zero])
theorem bt_suf (s : ByteArray) (i j : Nat) : bt (suf s i) j = bt s (i + j) := by
  unfold bt
  rw [bl_suf, List.getD_eq_getElem?_getD, List.getElem?_drop, List.getD_eq_getElem?_getD]
theorem dec_eq (s : ByteArray) (i : Nat) : Utf8.decode s i = Lib.decodeN (s.size - i) (bt s i) (bt s (i + 1)) (bt s (i + 2)) (bt s (i + 3)) := by
  rw [Lib.decode_at, get_bt, get_bt, get_bt, get_bt]
theorem dec_suf (s : ByteArray) (i j : Nat) : Utf8.decode (suf s i) j = Utf8.decode s (i + j) := by
  rw [dec_eq, dec_eq, size_suf, bt_suf, bt_suf, bt_suf, bt_suf, Nat.sub_sub]
  rfl
theorem dec_go (s : ByteArray) : Lib.decodeGo s = if s.size = 0 then (65533, 0) else Utf8.decode s 0 := rfl
theorem dec_low {s : ByteArray} {i : Nat} (h : bt s i < 128) : Utf8.decode s i = (bt s i, 1) := by
  rw [dec_eq, Lib.decodeN, if_pos h]
theorem decN_size (n b0 b1 b2 b3 : Nat) (h : 0 < n) : 1 ≤ (Lib.decodeN n b0 b1 b2 b3).2 ∧ (Lib.decodeN n b0 b1 b2 b3).2 ≤ n := by
  unfold Lib.decodeN
  repeat' split
  all_goals (simp only; omega)
theorem decN_high (n b0 b1 b2 b3 : Nat) (h : 128 ≤ b0) : 128 ≤ (Lib.decodeN n b0 b1 b2 b3).1 := by
  unfold Lib.decodeN
  repeat' split
  all_goals (simp only; omega)
theorem decN_max (n b0 b1 b2 b3 : Nat) (h : b0 < 256) : (Lib.decodeN n b0 b1 b2 b3).1 ≤ 1114111 := by
  unfold Lib.decodeN
  repeat' split
  all_goals (simp only; omega)
theorem dec_size {s : ByteArray} {i : Nat} (h : i < s.size) : 1 ≤ (Utf8.decode s i).2 ∧ i + (Utf8.decode s i).2 ≤ s.size := by
  rw [dec_eq]
  have := decN_size (s.size - i) (bt s i) (bt s (i + 1)) (bt s (i + 2)) (bt s (i + 3)) (by omega)
  omega
theorem dec_high {s : ByteArray} {i : Nat} (h : 128 ≤ bt s i) : 128 ≤ (Utf8.decode s i).1 := by
  rw [dec_eq]; exact decN_high _ _ _ _ _ h
theorem dec_max (s : ByteArray) (i : Nat) : (Utf8.decode s i).1 ≤ 1114111 := by
  rw [dec_eq]; exact decN_max _ _ _ _ _ (bt_lt _ _)
/-- A rune below 128 is its byte. -/
theorem dec_asc {s : ByteArray} {i c : Nat} (hc : c < 128) : (Utf8.decode s i).1 = c ↔ bt s i = c := by
  by_cases h : bt s i < 128
  · rw [dec_low h]
  · have := dec_high (s := s) (i := i) (by omega)
    omega
end Go.Proofs.YthcaodlfnlhfbaaGreatDoorT

/- Letters, digits, names: what the functions on runes come to. -/
namespace Go.Proofs.YthcaodlfnlhfbaaGreatDoorT
open Go Go.Proofs
set_option linter.unusedVariables false
theorem tbR {a b : Bool} {l : List T} (h : a = b) : ((tb a, l) : T × List T) = (tb b, l) := by rw [h]
def ltr (n : Int) : Bool := decide ((97 ≤ n ∧ n ≤ 122) ∨ (65 ≤ n ∧ n ≤ 90) ∨ (1072 ≤ n ∧ n ≤ 1103))
def dig (n : Int) : Bool := decide (48 ≤ n ∧ n ≤ 57)
def ins (n : Int) : Bool := ltr n || dig n || decide (n = 95)
theorem r69 (n : Int) : Rn 69 [i32 n] (tb (ltr n), [.dead]) := by
  refine f69 _ _ ?_
  repeat' refine cd (fun h => ?_) (fun h => ?_)
  all_goals exact tbR (Bool.eq_iff_iff.2 (by simp [ltr]; omega))
theorem r94 (n : Int) : Rn 94 [i32 n] (tb (ltr n), [.dead]) := by
  refine f94 _ _ ?_
  repeat' refine cd (fun h => ?_) (fun h => ?_)
  all_goals exact tbR (Bool.eq_iff_iff.2 (by simp [ltr]; omega))
theorem r71 (n : Int) : Rn 71 [i32 n] (tb (dig n), [.dead]) := by
  refine f71 _ _ ?_
  repeat' refine cd (fun h => ?_) (fun h => ?_)
  all_goals exact tbR (Bool.eq_iff_iff.2 (by simp [dig]; omega))
theorem r127 (n : Int) : Rn 127 [i32 n] (tb (dig n), [.dead]) := by
  refine f127 _ _ ?_
  repeat' refine cd (fun h => ?_) (fun h => ?_)
  all_goals exact tbR (Bool.eq_iff_iff.2 (by simp [dig]; omega))
theorem r77 (n : Int) : Rn 77 [i32 n] (tb (ins n), [.dead]) := by
  refine f77 _ _ ⟨_, r69 n, cb (fun h => tbR (by simp [ins, h])) (fun h => ⟨_, r71 n, cb (fun h' => tbR (by simp [ins, h'])) (fun h' => tbR (by simp [ins, h, h']))⟩)⟩
theorem r114 (n : Int) : Rn 114 [i32 n] (tb (ins n), [.dead]) := by
  refine f114 _ _ ⟨_, r94 n, cb (fun h => tbR (by simp [ins, h])) (fun h => ⟨_, r127 n, cb (fun h' => tbR (by simp [ins, h'])) (fun h' => tbR (by simp [ins, h, h']))⟩)⟩
/-- How far, and how many runes, of what may stand in a name there is from a place on. -/
def run (t : ByteArray) : Nat → Nat → Nat → Nat × Nat
  | 0, n, k => (n, k)
  | f + 1, n, k => if n < t.size ∧ ins (Utf8.decode t n).1 = true then run t f (n + (Utf8.decode t n).2) (k + 1) else (n, k)
theorem run_end {t : ByteArray} : ∀ (f n k : Nat), t.size ≤ n → run t f n k = (n, k)
  | 0, n, k, h => rfl
  | f + 1, n, k, h => by rw [run, if_neg (by omega)]
theorem run_more {t : ByteArray} : ∀ (f g n k : Nat), t.size ≤ n + f → t.size ≤ n + g → run t f n k = run t g n k := by
  intro f
  induction f with
  | zero => intro g n k h1 h2; rw [run_end 0 n k (by omega), run_end g n k (by omega)]
  | succ f ih =>
    intro g n k h1 h2
    cases g with
    | zero => rw [run_end _ n k (by omega), run_end _ n k (by omega)]
    | succ g =>
      rw [run, run]
      by_cases h : n < t.size ∧ ins (Utf8.decode t n).1 = true
      · rw [if_pos h, if_pos h]
        have := dec_size h.1
        exact ih g _ _ (by omega) (by omega)
      · rw [if_neg h, if_neg h]
theorem run_le {t : ByteArray} : ∀ (f n k : Nat), n ≤ t.size → n ≤ (run t f n k).1 ∧ (run t f n k).1 ≤ t.size ∧ k ≤ (run t f n k).2 ∧ (run t f n k).2 + n ≤ (run t f n k).1 + k := by
  intro f
  induction f with
  | zero => intro n k h; simp only [run]; omega
  | succ f ih =>
    intro n k h
    rw [run]
    split
    · rename_i hh
      have := dec_size hh.1
      have := ih (n + (Utf8.decode t n).2) (k + 1) (by omega)
      omega
    · simp only; omega
end Go.Proofs.YthcaodlfnlhfbaaGreatDoorT

/- Names, numbers, signs: what the functions on texts come to. -/
namespace Go.Proofs.YthcaodlfnlhfbaaGreatDoorT
open Go Go.Proofs
set_option linter.unusedVariables false
/-- A name. -/
def nm (t : ByteArray) : Bool := ltr (Lib.decodeGo t).1 && decide ((run t t.size 0 0).1 = t.size) && decide ((run t t.size 0 0).2 ≤ 24)
theorem bleF {n m : Nat} (h : ¬ n ≤ m) : Nat.ble n m = false := by
  cases hb : Nat.ble n m with
  | false => rfl
  | true => exact absurd (Nat.le_of_ble_eq_true hb) h
theorem bleT {n m : Nat} (h : n ≤ m) : Nat.ble n m = true := Nat.ble_eq_true_of_le h
theorem cble {n m : Nat} {A B : Prop} (ht : n ≤ m → A) (hf : ¬ n ≤ m → B) : cond (Nat.ble n m) A B := cb (fun h => ht (Nat.le_of_ble_eq_true h)) (fun h => hf (fun hh => by rw [bleT hh] at h; cases h))
theorem ltr_ins {n : Int} (h : ltr n = true) : ins n = true := by simp [ins, h]
theorem r58 (t : ByteArray) (hs : t.size ≤ maxLen) : Rn 58 [st t] (tb (nm t), [.dead]) := by
  have hm := Nat.le_trans hs maxLen_lt
  have loop : ∀ (f pos k : Nat), t.size ≤ pos + f → pos ≤ t.size → 0 < pos → 0 < k → k ≤ pos → L58_0 (k : Int) t pos (tb (decide ((run t f pos k).1 = t.size) && decide ((run t f pos k).2 ≤ 24)), [.dead]) := by
    intro f
    induction f with
    | zero =>
      intro pos k h h' h0 h1 hk
      refine l58_0 _ _ _ _ (cF (bleF (by omega)) (cT (by simp; omega) (tbR (Bool.eq_iff_iff.2 ?_))))
      have hp : pos = t.size := by omega
      simp only [run, hp, decide_true, Bool.true_and, decide_eq_true_eq]
      omega
    | succ f ih =>
      intro pos k h h' h0 h1 hk
      refine l58_0 _ _ _ _ (cble (fun hn => ?_) (fun hn => ?_))
      · have hn : pos < t.size := hn
        have hz := dec_size hn
        refine ⟨_, r77 _, cb (fun h2 => tbR ?_) (fun h2 => ?_)⟩
        · rw [run, if_neg (by simp at h2; simp [h2])]
          simp only [Bool.and_eq_true, decide_eq_true_eq]
          simp; omega
        · have h2 : ins (Utf8.decode t pos).1 = true := by simpa using h2
          rw [run, if_pos ⟨hn, h2⟩, wS (by omega)]
          exact cF (by simp; omega) (ih _ _ (by omega) (by omega) (by omega) (by omega) (by omega))
      · rw [run_end _ _ _ (by omega)]
        refine cT (by simp; omega) (tbR (Bool.eq_iff_iff.2 ?_))
        have hp : pos = t.size := by omega
        simp only [hp, decide_true, Bool.true_and, decide_eq_true_eq]
        omega
  refine f58 _ _ (l58_0 _ _ _ _ (cble (fun hn => ?_) (fun hn => ?_)))
  · have hn : 0 < t.size := by omega
    have hz := dec_size hn
    have hd : Lib.decodeGo t = Utf8.decode t 0 := by rw [dec_go, if_neg (by omega)]
    refine ⟨_, r77 _, cb (fun h2 => tbR ?_) (fun h2 => cT (by simp) ⟨_, r69 _, cb (fun h3 => tbR ?_) (fun h3 => ?_)⟩)⟩
    · have h2 : ins (Utf8.decode t 0).1 = false := by simpa using h2
      have h3 : ltr (Utf8.decode t 0).1 = false := by
        cases h3 : ltr (Utf8.decode t 0).1 with
        | false => rfl
        | true => rw [ltr_ins h3] at h2; cases h2
      simp [nm, hd, h3]
    · have h3 : ltr (Utf8.decode t 0).1 = false := by simpa using h3
      simp [nm, hd, h3]
    · have h2 : ins (Utf8.decode t 0).1 = true := by simpa using h2
      have h3 : ltr (Utf8.decode t 0).1 = true := by simpa using h3
      obtain ⟨f, hf⟩ : ∃ f, t.size = f + 1 := ⟨t.size - 1, by omega⟩
      have hr : run t t.size 0 0 = run t f (0 + (Utf8.decode t 0).2) (0 + 1) := by rw [hf, run, if_pos ⟨hn, h2⟩]
      rw [nm, hd, h3, hr, Bool.true_and, show IntKind.wrap .i64 (0 + 1) = ((1 : Nat) : Int) by decide]
      exact loop f _ _ (by omega) (by omega) (by omega) (by omega) (by omega)
  · have h0 : t.size = 0 := by omega
    refine cF (by simp) (tbR ?_)
    have hd : Lib.decodeGo t = (65533, 0) := by rw [dec_go, if_pos h0]
    simp [nm, hd, ltr]
end Go.Proofs.YthcaodlfnlhfbaaGreatDoorT

/- Numbers. -/
namespace Go.Proofs.YthcaodlfnlhfbaaGreatDoorT
open Go Go.Proofs
set_option linter.unusedVariables false
/-- The number that digits are, behind a. -/
def dgt : Nat → List UInt8 → Option Nat
  | a, [] => some a
  | a, c :: r => if 48 ≤ c.toNat ∧ c.toNat ≤ 57 then dgt (10 * a + (c.toNat - 48)) r else none
theorem dgt_snoc (c : UInt8) : ∀ (l : List UInt8) (a : Nat), dgt a (l ++ [c]) = (dgt a l).bind fun v => if 48 ≤ c.toNat ∧ c.toNat ≤ 57 then some (10 * v + (c.toNat - 48)) else none
  | [], a => by simp [dgt]
  | x :: l, a => by
    simp only [List.cons_append, dgt]
    split
    · exact dgt_snoc c l _
    · rfl
theorem dgt_ge : ∀ (l : List UInt8) (a v : Nat), dgt a l = some v → a ≤ v
  | [], a, v, h => by simp [dgt] at h; omega
  | x :: l, a, v, h => by
    rw [dgt] at h
    split at h
    · have := dgt_ge l _ v h
      omega
    · cases h
theorem dgt_dec (v : Nat) : dgt 0 (Lib.decDigits v) = some v := by
  induction v using Nat.strongRecOn with
  | _ v ih =>
    rw [Lib.decDigits]
    split
    · rename_i h
      have : (UInt8.ofNat (48 + v)).toNat = 48 + v := by simp; omega
      simp only [dgt, this]
      rw [if_pos (by omega)]
      congr 1; omega
    · rename_i h
      rw [dgt_snoc, ih (v / 10) (by omega)]
      have : (UInt8.ofNat (48 + v % 10)).toNat = 48 + v % 10 := by simp; omega
      simp only [Option.bind_some, this]
      rw [if_pos (by omega)]
      congr 1; omega
theorem dec_dgt : ∀ (n : Nat) (l : List UInt8) (v : Nat), l.length = n → l ≠ [] → (l.getD 0 0 ≠ 48 ∨ l.length = 1) → dgt 0 l = some v → Lib.decDigits v = l := by
  intro n
  induction n with
  | zero => intro l v h0 hne; exact absurd (List.eq_nil_of_length_eq_zero h0) hne
  | succ n ih =>
    intro l v hl hne hh hv
    obtain ⟨l', c, rfl⟩ : ∃ l' c, l = l' ++ [c] := ⟨l.dropLast, l.getLast hne, (List.dropLast_concat_getLast hne).symm⟩
    rw [dgt_snoc] at hv
    cases hv' : dgt 0 l' with
    | none => rw [hv'] at hv; cases hv
    | some v' =>
      rw [hv'] at hv
      simp only [Option.bind_some] at hv
      split at hv
      · rename_i hc
        simp only [Option.some.injEq] at hv
        have hcc : UInt8.ofNat (48 + (c.toNat - 48)) = c := by
          rw [show 48 + (c.toNat - 48) = c.toNat by omega]; simp
        cases l' with
        | nil =>
          simp [dgt] at hv'
          rw [Lib.decDigits, dif_pos (by omega), show v = c.toNat - 48 by omega, hcc]
          rfl
        | cons x r =>
          have hx : (x :: r).getD 0 0 ≠ 48 := by
            rcases hh with hh | hh
            · simpa using hh
            · simp at hh
          have h1 := ih (x :: r) v' (by simpa using hl) (by simp) (.inl hx) hv'
          have hpos : 1 ≤ v' := by
            rw [dgt] at hv'
            split at hv'
            · rename_i hd
              have := dgt_ge _ _ _ hv'
              have : x.toNat ≠ 48 := fun e => hx (by simp; exact UInt8.toNat_inj.1 (by rw [e]; rfl))
              omega
            · cases hv'
          rw [Lib.decDigits, dif_neg (by omega), show v / 10 = v' by omega, show v % 10 = c.toNat - 48 by omega, hcc, h1]
      · cases hv
theorem dec_len : ∀ (k v : Nat), v < 10 ^ (k + 1) → (Lib.decDigits v).length ≤ k + 1 := by
  intro k
  induction k with
  | zero => intro v h; rw [Lib.decDigits, dif_pos (by omega)]; simp
  | succ k ih =>
    intro v h
    rw [Lib.decDigits]
    split
    · simp
    · have := ih (v / 10) (by rw [Nat.pow_succ] at h; omega)
      rw [List.length_append]
      simp; omega
theorem dec_ne (v : Nat) : Lib.decDigits v ≠ [] := by
  rw [Lib.decDigits]
  split <;> simp
theorem dec_head (v : Nat) (h : 1 ≤ v) : (Lib.decDigits v).getD 0 0 ≠ 48 := by
  induction v using Nat.strongRecOn with
  | _ v ih =>
    rw [Lib.decDigits]
    split
    · rename_i h'
      intro e
      have : (UInt8.ofNat (48 + v)).toNat = 48 := by
        simp only [List.getD_cons_zero] at e
        rw [e]; rfl
      simp at this
      omega
    · rename_i h'
      have h1 := ih (v / 10) (by omega) (by omega)
      cases hd : Lib.decDigits (v / 10) with
      | nil => exact absurd hd (dec_ne _)
      | cons x r => rw [hd] at h1; simpa using h1
/-- A number: its digits, as one writes it; no greater than 10^9. -/
def numV (t : ByteArray) : Option Nat := match dgt 0 (bl t) with
  | some v => if v ≤ 1000000000 ∧ Lib.decDigits v = bl t then some v else none
  | none => none
def numB (t : ByteArray) : Bool := (numV t).isSome
theorem bt_getD (t : ByteArray) (i : Nat) : bt t i = ((bl t).getD i 0).toNat := rfl
end Go.Proofs.YthcaodlfnlhfbaaGreatDoorT

/- The library's numbers out of texts, at base 10 and 63 bits. -/
namespace Go.Proofs
open Go.Shelf Go.RowKit Go.Lib
def Tryz.laysPU_ren : Go.Shelf.Ren := ⟨fun | 287 => 107 | 321 => 121 | 322 => 122 | n => n, fun | 9 => 9 | 3 => 3 | 53 => 110 | 75 => 120 | 4 => 4 | 167 => 150 | 5 => 5 | 46 => 127 | 37 => 113 | 0 => 0 | 21 => 21 | 80 => 177 | n => n, fun | n => n⟩
theorem Tryz.laysPU : Go.Proofs.Lays.n287 Tryz.prog Tryz.laysPU_ren where
  mixed := by kernel_rfl
  f287 := Tryz.func107.trans (congrArg some (by kernel_rfl))
  f321 := Tryz.func121.trans (congrArg some (by kernel_rfl))
  f322 := Tryz.func122.trans (congrArg some (by kernel_rfl))
  t0 := Tryz.underlying0
  a0 := Tryz.isAgg0
  z0 := Tryz.sizeOf0
  v0 := Tryz.zeroValue0
  t3 := Tryz.underlying3
  a3 := Tryz.isAgg3
  z3 := Tryz.sizeOf3
  v3 := Tryz.zeroValue3
  t4 := Tryz.underlying4
  a4 := Tryz.isAgg4
  z4 := Tryz.sizeOf4
  v4 := Tryz.zeroValue4
  t5 := Tryz.underlying5
  a5 := Tryz.isAgg5
  z5 := Tryz.sizeOf5
  v5 := Tryz.zeroValue5
  t9 := Tryz.underlying9
  a9 := Tryz.isAgg9
  z9 := Tryz.sizeOf9
  v9 := Tryz.zeroValue9
  t21 := Tryz.underlying21
  a21 := Tryz.isAgg21
  z21 := Tryz.sizeOf21
  v21 := Tryz.zeroValue21
  t37 := Tryz.underlying113
  a37 := Tryz.isAgg113
  z37 := Tryz.sizeOf113
  v37 := Tryz.zeroValue113
  t46 := Tryz.underlying127
  a46 := Tryz.isAgg127
  z46 := Tryz.sizeOf127
  v46 := Tryz.zeroValue127
  t53 := Tryz.underlying110
  a53 := Tryz.isAgg110
  z53 := Tryz.sizeOf110
  v53 := Tryz.zeroValue110
  t75 := Tryz.underlying120
  a75 := Tryz.isAgg120
  z75 := Tryz.sizeOf120
  v75 := Tryz.zeroValue120
  t167 := Tryz.underlying150
  a167 := Tryz.isAgg150
  z167 := Tryz.sizeOf150
  v167 := Tryz.zeroValue150
def Tryz.laysTE_ren : Go.Shelf.Ren := ⟨fun | 245 => 91 | 279 => 109 | 280 => 110 | 281 => 111 | 282 => 112 | 316 => 123 | 171 => 125 | 205 => 124 | 243 => 129 | 246 => 48 | 283 => 65 | 284 => 66 | 285 => 67 | 286 => 68 | 129 => 83 | 317 => 82 | 318 => 84 | 319 => 85 | 320 => 86 | 337 => 105 | 338 => 106 | n => n, fun | 9 => 9 | 3 => 3 | 75 => 120 | 167 => 150 | 4 => 4 | 168 => 151 | 210 => 165 | 37 => 113 | 0 => 0 | 127 => 169 | 145 => 172 | 143 => 170 | 2 => 2 | 171 => 109 | 53 => 110 | 5 => 5 | 173 => 114 | 212 => 129 | 51 => 130 | 20 => 20 | 213 => 131 | 46 => 127 | 232 => 160 | 233 => 161 | 80 => 177 | n => n, fun | 15 => 3 | 16 => 4 | 17 => 0 | 18 => 1 | 19 => 2 | n => n⟩
theorem Tryz.laysTE : Go.Proofs.LaysC.n245 Tryz.prog Tryz.laysTE_ren where
  mixed := by kernel_rfl
  f129 := Tryz.func83.trans (congrArg some (by kernel_rfl))
  f171 := Tryz.func125.trans (congrArg some (by kernel_rfl))
  f205 := Tryz.func124.trans (congrArg some (by kernel_rfl))
  f243 := Tryz.func129.trans (congrArg some (by kernel_rfl))
  f245 := Tryz.func91.trans (congrArg some (by kernel_rfl))
  f246 := Tryz.func48.trans (congrArg some (by kernel_rfl))
  f279 := Tryz.func109.trans (congrArg some (by kernel_rfl))
  f280 := Tryz.func110.trans (congrArg some (by kernel_rfl))
  f281 := Tryz.func111.trans (congrArg some (by kernel_rfl))
  f282 := Tryz.func112.trans (congrArg some (by kernel_rfl))
  f283 := Tryz.func65.trans (congrArg some (by kernel_rfl))
  f284 := Tryz.func66.trans (congrArg some (by kernel_rfl))
  f285 := Tryz.func67.trans (congrArg some (by kernel_rfl))
  f286 := Tryz.func68.trans (congrArg some (by kernel_rfl))
  f316 := Tryz.func123.trans (congrArg some (by kernel_rfl))
  f317 := Tryz.func82.trans (congrArg some (by kernel_rfl))
  f318 := Tryz.func84.trans (congrArg some (by kernel_rfl))
  f319 := Tryz.func85.trans (congrArg some (by kernel_rfl))
  f320 := Tryz.func86.trans (congrArg some (by kernel_rfl))
  f337 := Tryz.func105.trans (congrArg some (by kernel_rfl))
  f338 := Tryz.func106.trans (congrArg some (by kernel_rfl))
  t0 := Tryz.underlying0
  a0 := Tryz.isAgg0
  z0 := Tryz.sizeOf0
  v0 := Tryz.zeroValue0
  t2 := Tryz.underlying2
  a2 := Tryz.isAgg2
  z2 := Tryz.sizeOf2
  v2 := Tryz.zeroValue2
  t3 := Tryz.underlying3
  a3 := Tryz.isAgg3
  z3 := Tryz.sizeOf3
  v3 := Tryz.zeroValue3
  t4 := Tryz.underlying4
  a4 := Tryz.isAgg4
  z4 := Tryz.sizeOf4
  v4 := Tryz.zeroValue4
  t5 := Tryz.underlying5
  a5 := Tryz.isAgg5
  z5 := Tryz.sizeOf5
  v5 := Tryz.zeroValue5
  t9 := Tryz.underlying9
  a9 := Tryz.isAgg9
  z9 := Tryz.sizeOf9
  v9 := Tryz.zeroValue9
  t20 := Tryz.underlying20
  a20 := Tryz.isAgg20
  z20 := Tryz.sizeOf20
  v20 := Tryz.zeroValue20
  t37 := Tryz.underlying113
  a37 := Tryz.isAgg113
  z37 := Tryz.sizeOf113
  v37 := Tryz.zeroValue113
  t46 := Tryz.underlying127
  a46 := Tryz.isAgg127
  z46 := Tryz.sizeOf127
  v46 := Tryz.zeroValue127
  t51 := Tryz.underlying130
  a51 := Tryz.isAgg130
  z51 := Tryz.sizeOf130
  v51 := Tryz.zeroValue130
  t53 := Tryz.underlying110
  a53 := Tryz.isAgg110
  z53 := Tryz.sizeOf110
  v53 := Tryz.zeroValue110
  t75 := Tryz.underlying120
  a75 := Tryz.isAgg120
  z75 := Tryz.sizeOf120
  v75 := Tryz.zeroValue120
  t127 := Tryz.underlying169
  a127 := Tryz.isAgg169
  z127 := Tryz.sizeOf169
  v127 := Tryz.zeroValue169
  t143 := Tryz.underlying170
  a143 := Tryz.isAgg170
  z143 := Tryz.sizeOf170
  v143 := Tryz.zeroValue170
  t145 := Tryz.underlying172
  a145 := Tryz.isAgg172
  z145 := Tryz.sizeOf172
  v145 := Tryz.zeroValue172
  t167 := Tryz.underlying150
  a167 := Tryz.isAgg150
  z167 := Tryz.sizeOf150
  v167 := Tryz.zeroValue150
  t168 := Tryz.underlying151
  a168 := Tryz.isAgg151
  z168 := Tryz.sizeOf151
  v168 := Tryz.zeroValue151
  t171 := Tryz.underlying109
  a171 := Tryz.isAgg109
  z171 := Tryz.sizeOf109
  v171 := Tryz.zeroValue109
  t173 := Tryz.underlying114
  a173 := Tryz.isAgg114
  z173 := Tryz.sizeOf114
  v173 := Tryz.zeroValue114
  t210 := Tryz.underlying165
  a210 := Tryz.isAgg165
  z210 := Tryz.sizeOf165
  v210 := Tryz.zeroValue165
  t212 := Tryz.underlying129
  a212 := Tryz.isAgg129
  z212 := Tryz.sizeOf129
  v212 := Tryz.zeroValue129
  t213 := Tryz.underlying131
  a213 := Tryz.isAgg131
  z213 := Tryz.sizeOf131
  t232 := Tryz.underlying160
  a232 := Tryz.isAgg160
  z232 := Tryz.sizeOf160
  v232 := Tryz.zeroValue160
  t233 := Tryz.underlying161
  a233 := Tryz.isAgg161
  z233 := Tryz.sizeOf161
  v233 := Tryz.zeroValue161
  g15 := by kernel_rfl
  g16 := by kernel_rfl
  g17 := by kernel_rfl
  g18 := by kernel_rfl
  g19 := by kernel_rfl
  t80 := Tryz.underlying177
  a80 := Tryz.isAgg177
  z80 := Tryz.sizeOf177
  v80 := Tryz.zeroValue177
  i0 := by kernel_rfl
  i2 := by kernel_rfl
  i3 := by kernel_rfl
  i4 := by kernel_rfl
  i5 := by kernel_rfl
  i9 := by kernel_rfl
  i20 := by kernel_rfl
  i37 := by kernel_rfl
  i46 := by kernel_rfl
  i51 := by kernel_rfl
  i53 := by kernel_rfl
  i75 := by kernel_rfl
  i80 := by kernel_rfl
  i127 := by kernel_rfl
  i143 := by kernel_rfl
  i145 := by kernel_rfl
  i167 := by kernel_rfl
  i168 := by kernel_rfl
  i171 := by kernel_rfl
  i173 := by kernel_rfl
  i210 := by kernel_rfl
  i212 := by kernel_rfl
  i232 := by kernel_rfl
  i233 := by kernel_rfl
  m15 := by kernel_rfl
  m16 := by kernel_rfl
  m17 := by kernel_rfl
  m18 := by kernel_rfl
  m19 := by kernel_rfl
  c0 := by kernel_rfl
  c2 := by kernel_rfl
  c3 := by kernel_rfl
  c4 := by kernel_rfl
  c5 := by kernel_rfl
  c9 := by kernel_rfl
  c20 := by kernel_rfl
  c37 := by kernel_rfl
  c46 := by kernel_rfl
  c51 := by kernel_rfl
  c53 := by kernel_rfl
  c75 := by kernel_rfl
  c80 := by kernel_rfl
  c127 := by kernel_rfl
  c143 := by kernel_rfl
  c145 := by kernel_rfl
  c167 := by kernel_rfl
  c168 := by kernel_rfl
  c171 := by kernel_rfl
  c173 := by kernel_rfl
  c210 := by kernel_rfl
  c212 := by kernel_rfl
  c213 := by kernel_rfl
  c232 := by kernel_rfl
  c233 := by kernel_rfl
namespace YthcaodlfnlhfbaaGreatDoorT
set_option linter.unusedVariables false
/-- What the inner function tells. -/
def pu (s : ByteArray) : NumEnd Nat := if s.size = 0 then NumEnd.syntax else Lib.parseUintM 9223372036854775807 0 s.data.toList
theorem inner (s : ByteArray) (hs : s.size ≤ 140737488355328) (w : World) :
    Calls Tryz.prog 107 #[.string s, .int .i64 10, .int .i64 63] w fun e w' => e = .returned (Lib.uintTupleM 150 9223372036854775807 (pu s)) ∧ Below w.heap.size w w' := by
  by_cases h0 : s.size = 0
  · have hs : s = ⟨#[]⟩ := ByteArray.ext (Array.eq_empty_of_size_eq_zero h0)
    rw [pu, if_pos h0]
    subst hs
    exact (Any.internal_strconv_ParseUint_empty Tryz.laysPU 10 63 w).mono fun e w' ⟨he, hw⟩ => ⟨he, by subst hw; exact Below.refl _ _⟩
  · rw [pu, if_neg h0]
    exact (parseUint63 Tryz.laysPU s h0 (by omega) w).mono fun e w' ⟨he, hw⟩ => ⟨he, by subst hw; exact Lib.bytesWorld_below _ _ _⟩
theorem cell_glob {w : World} {ok : Nat → Prop} (h : Glob w ok) : (∃ t p, w.cell? ⟨3, 0, none⟩ = some (.iface t p)) ∧ ∃ t p, w.cell? ⟨4, 0, none⟩ = some (.iface t p) := by
  obtain ⟨cs, t, z, h1, h2⟩ := glob_at h mem_syn
  obtain ⟨cs', t', z', h1', h2'⟩ := glob_at h mem_rng
  obtain ⟨a, b, e⟩ := h2
  obtain ⟨a', b', e'⟩ := h2'
  exact ⟨⟨a, b, by rw [cell_at h1]; exact e⟩, a', b', by rw [cell_at h1']; exact e'⟩
/-- The error that is told. -/
theorem toErr (s : ByteArray) (hs : s.size ≤ 140737488355328) (n : Int) (hn : n = 2 ∨ n = 1) (w : World) (hG : Glob w (fun k => k < w.heap.size)) :
    Calls Tryz.prog 91 #[.string ⟨#[80, 97, 114, 115, 101, 85, 105, 110, 116]⟩, .string s, .int .i64 10, .int .i64 63, .iface 150 (.int .i64 n)] w fun e w' => (∃ v, e = .returned (.iface 151 v)) ∧ Below w.heap.size w w' := by
  obtain ⟨⟨t, p, h1⟩, t', p', h2⟩ := cell_glob hG
  rcases hn with rfl | rfl
  · exact (Any.strconv_toError_syntax Tryz.laysTE _ s 10 63 _ w (by omega) h1 (.inr ⟨t, p, rfl⟩)).mono fun e w' ⟨N, he, _, _, hb⟩ => ⟨⟨_, he⟩, hb⟩
  · exact (Any.strconv_toError_range Tryz.laysTE _ s 10 63 _ w (by omega) h2 (.inr ⟨t', p', rfl⟩)).mono fun e w' ⟨N, he, _, _, hb⟩ => ⟨⟨_, he⟩, hb⟩
set_option maxHeartbeats 4000000 in
set_option maxRecDepth 100000 in
theorem parse_ok (s : ByteArray) (hs : s.size ≤ 140737488355328) (v : Nat) (h : pu s = .ok v) (w : World) :
    Calls Tryz.prog 87 #[.string s, .int .i64 10, .int .i64 63] w fun e w' => e = .returned (.tuple #[.int .u64 v, .nilIface]) ∧ Below w.heap.size w w' := by
  have hI := inner s hs w
  rw [h] at hI
  have hI : Calls Tryz.prog 107 #[.string s, .int .i64 10, .int .i64 63] w fun e w' => e = .returned (.tuple #[.int .u64 v, .nilIface]) ∧ Below w.heap.size w w' := hI
  clear h
  go_enter Tryz.func87, Tryz.ntmps87
  go_wp2_with (go_at_call 107; refine hI.mono ?_; rintro e W1 ⟨rfl, hW⟩)
  go_wp2
  go_ret2
  exact ⟨rfl, hW⟩
set_option maxHeartbeats 4000000 in
set_option maxRecDepth 100000 in
theorem parse_err (s : ByteArray) (hs : s.size ≤ 140737488355328) (m n : Int) (hn : n = 2 ∨ n = 1) (w : World) (hG : Glob w (fun k => k < w.heap.size))
    (hI : Calls Tryz.prog 107 #[.string s, .int .i64 10, .int .i64 63] w fun e w' => e = .returned (.tuple #[.int .u64 m, .iface 150 (.int .i64 n)]) ∧ Below w.heap.size w w') :
    Calls Tryz.prog 87 #[.string s, .int .i64 10, .int .i64 63] w fun e w' => (∃ v, e = .returned (.tuple #[.int .u64 m, .iface 151 v])) ∧ Below w.heap.size w w' := by
  go_enter Tryz.func87, Tryz.ntmps87
  go_wp2_with (go_at_call 107; refine hI.mono ?_)
  rintro e W1 ⟨rfl, hb1⟩
  have hG1 : Glob W1 (fun k => k < W1.heap.size) := hG.mono fun k hk => ⟨Nat.lt_of_lt_of_le hk hb1.size, hb1.block k hk⟩
  have hE := toErr s hs n hn W1 hG1
  go_wp2_with (go_at_call 91; refine hE.mono ?_)
  rintro e W2 ⟨⟨v, rfl⟩, h3⟩
  go_wp2
  go_ret2
  exact ⟨⟨v, rfl⟩, hb1.trans (h3.mono hb1.size)⟩
theorem pu_spec : ∀ (l : List UInt8) (a : Nat), a ≤ 9223372036854775807 → (∀ v, Lib.parseUintM 9223372036854775807 a l = .ok v → dgt a l = some v ∧ v ≤ 9223372036854775807) ∧
    (∀ v, dgt a l = some v → v ≤ 9223372036854775807 → Lib.parseUintM 9223372036854775807 a l = .ok v)
  | [], a, ha => ⟨fun v h => by simp [Lib.parseUintM] at h; subst h; exact ⟨rfl, ha⟩, fun v h _ => by simp [dgt] at h; subst h; rfl⟩
  | c :: r, a, ha => by
    rw [Lib.parseUintM, dgt]
    split
    · rename_i hd
      have e : a * 10 + (c.toNat - 48) = 10 * a + (c.toNat - 48) := by omega
      rw [e]
      split
      · rename_i hc
        refine ⟨fun v h => (by cases h), fun v h hv => ?_⟩
        have := dgt_ge _ _ _ h
        omega
      · split
        · rename_i hc hm
          refine ⟨fun v h => (by cases h), fun v h hv => ?_⟩
          have := dgt_ge _ _ _ h
          omega
        · exact pu_spec r _ (by omega)
    · exact ⟨fun v h => (by cases h), fun v h => (by cases h)⟩
theorem runs87 (t : ByteArray) (hs : t.size ≤ 140737488355328) : ∃ (n : Int) (e : IfV), Rn 87 [st t, i64 10, i64 63] (.tup [.s (.int .u64 n), e.v], [.dead, .dead, .dead]) ∧
    ((∃ v : Nat, dgt 0 (bl t) = some v ∧ bl t ≠ [] ∧ v ≤ 9223372036854775807 ∧ n = v ∧ e.t = 0) ∨ ((¬ ∃ v : Nat, dgt 0 (bl t) = some v ∧ bl t ≠ [] ∧ v ≤ 9223372036854775807) ∧ e.t ≠ 0)) := by
  have hl := bl_len t
  have sp := pu_spec (bl t) 0 (by omega)
  have hent : Enters Tryz.prog 87 := ⟨Tryz.f87, Tryz.func87, by decide, by kernel_rfl⟩
  have errs : ∀ (m k : Int), (k = 2 ∨ k = 1) → (∀ w : World, Calls Tryz.prog 107 #[.string t, .int .i64 10, .int .i64 63] w fun e w' => e = .returned (.tuple #[.int .u64 m, .iface 150 (.int .i64 k)]) ∧ Below w.heap.size w w') →
      Rn 87 [st t, i64 10, i64 63] (.tup [.s (.int .u64 m), (⟨151, .dead⟩ : IfV).v], [.dead, .dead, .dead]) := fun m k hk hI =>
    runs_of_calls (us := [.string t, .int .i64 10, .int .i64 63]) hent (by simp [plainV]) fun w hG =>
      (parse_err t hs m k hk w hG (hI w)).mono fun e w' ⟨⟨v, he⟩, hb⟩ => ⟨hb, _, he, fun ok => X_pair (X_s rfl) (X_if (by decide) v)⟩
  have hbad : (∀ v, pu t ≠ .ok v) → ¬ ∃ v : Nat, dgt 0 (bl t) = some v ∧ bl t ≠ [] ∧ v ≤ 9223372036854775807 := by
    rintro h ⟨v, h1, h2, h3⟩
    refine h v ?_
    rw [pu, if_neg (fun e => h2 (List.eq_nil_of_length_eq_zero (by omega)))]
    exact sp.2 v h1 h3
  match hp : pu t with
  | NumEnd.ok v =>
    have h0 : t.size ≠ 0 := fun e => by rw [pu, if_pos e] at hp; cases hp
    refine ⟨v, ⟨0, .dead⟩, runs_of_calls (us := [.string t, .int .i64 10, .int .i64 63]) hent (by simp [plainV]) fun w hG =>
      (parse_ok t hs v hp w).mono fun e w' ⟨he, hb⟩ => ⟨hb, _, he, fun ok => X_pair (X_s rfl) X_nilI⟩, .inl ⟨v, ?_⟩⟩
    rw [pu, if_neg h0] at hp
    have := sp.1 v hp
    exact ⟨this.1, fun e => h0 (by rw [← hl, e]; rfl), this.2, rfl, rfl⟩
  | NumEnd.syntax =>
    refine ⟨0, ⟨151, .dead⟩, errs 0 2 (.inl rfl) (fun w => ?_), .inr ⟨hbad (fun v h => by rw [hp] at h; cases h), by decide⟩⟩
    have hI := inner t hs w
    rw [hp] at hI
    exact hI
  | NumEnd.range =>
    refine ⟨9223372036854775807, ⟨151, .dead⟩, errs _ 1 (.inr rfl) (fun w => ?_), .inr ⟨hbad (fun v h => by rw [hp] at h; cases h), by decide⟩⟩
    have hI := inner t hs w
    rw [hp] at hI
    exact hI
end YthcaodlfnlhfbaaGreatDoorT
end Go.Proofs

/- The library's numerals of numbers, as the program calls for them. -/
namespace Go.Proofs.YthcaodlfnlhfbaaGreatDoorT
open Go Go.Proofs
theorem runs88 (n : Nat) (hn : n ≤ 9223372036854775807) : Rn 88 [.s (.int .u64 n), i64 10] (st ⟨(Lib.decDigits n).toArray⟩, [.dead, .dead]) :=
  f88 _ _ _ ⟨_, runs108 n (by omega), rfl⟩
end Go.Proofs.YthcaodlfnlhfbaaGreatDoorT

/- Numbers as the program has them; signs. -/
namespace Go.Proofs.YthcaodlfnlhfbaaGreatDoorT
open Go Go.Proofs
set_option linter.unusedVariables false
theorem r72 (t : ByteArray) (hs : t.size ≤ 140737488355328) : Rn 72 [st t] (tb (numB t), [.dead]) := by
  obtain ⟨n, e, hR, hr⟩ := runs87 t hs
  refine f72 _ _ ⟨n, e, hR, ?_⟩
  rcases hr with ⟨v, h1, h2, h3, rfl, he⟩ | ⟨h1, he⟩
  · refine cT (by simpa using he) (cd (fun h4 => ⟨_, runs88 v (by omega), tbR ?_⟩) (fun h4 => tbR ?_))
    · unfold numB numV
      rw [h1]
      simp only
      have hiff : ((⟨(Lib.decDigits v).toArray⟩ : ByteArray) = t) ↔ Lib.decDigits v = bl t := by
        constructor
        · intro h; rw [← h]; simp [bl]
        · intro h; exact ext_bl (by rw [← h]; simp [bl])
      by_cases hd : Lib.decDigits v = bl t
      · rw [if_pos ⟨by omega, hd⟩]
        simpa using hiff.2 hd
      · rw [if_neg (fun hh => hd hh.2)]
        simpa using fun hh => hd (hiff.1 hh)
    · unfold numB numV
      rw [h1]
      simp only
      rw [if_neg (by omega)]
      rfl
  · refine cF (by simpa using he) (tbR ?_)
    unfold numB numV
    split
    · rename_i v hv
      rw [if_neg]
      · rfl
      · rintro ⟨h2, h3⟩
        exact h1 ⟨v, hv, fun e => dec_ne v (by rw [h3, e]), by omega⟩
    · rfl
/-- The sign that a text begins with: its length; 0: none. -/
def sgn (t : ByteArray) : Nat :=
  if 1 < t.size ∧ ((bt t 0 = 61 ∧ bt t 1 = 61) ∨ (bt t 0 = 33 ∧ bt t 1 = 61) ∨ (bt t 0 = 60 ∧ bt t 1 = 61) ∨ (bt t 0 = 38 ∧ bt t 1 = 38) ∨ (bt t 0 = 124 ∧ bt t 1 = 124)) then 2
  else if bt t 0 = 123 ∨ bt t 0 = 125 ∨ bt t 0 = 40 ∨ bt t 0 = 41 ∨ bt t 0 = 61 ∨ bt t 0 = 33 ∨ bt t 0 = 60 ∨ bt t 0 = 43 ∨ bt t 0 = 45 ∨ bt t 0 = 42 then 1 else 0
theorem pre_two (t : ByteArray) (h : 1 < t.size) : t.extract 0 2 = bs [UInt8.ofNat (bt t 0), UInt8.ofNat (bt t 1)] := by
  have hl := bl_len t
  refine ext_bl ?_
  rw [bl_extract, List.drop_zero]
  show _ = [UInt8.ofNat (bt t 0), UInt8.ofNat (bt t 1)]
  unfold bt
  match h2 : bl t with
  | [] => rw [h2] at hl; simp at hl; omega
  | [x] => rw [h2] at hl; simp at hl; omega
  | x :: y :: r => simp
theorem pre_one (t : ByteArray) (h : 0 < t.size) : t.extract 0 1 = bs [UInt8.ofNat (bt t 0)] := by
  have hl := bl_len t
  refine ext_bl ?_
  rw [bl_extract, List.drop_zero]
  show _ = [UInt8.ofNat (bt t 0)]
  unfold bt
  match h2 : bl t with
  | [] => rw [h2] at hl; simp at hl; omega
  | x :: r => simp
theorem bs_two {a b c d : Nat} (ha : a < 256) (hb : b < 256) (hc : c < 256) (hd : d < 256) : bs [UInt8.ofNat a, UInt8.ofNat b] = bs [UInt8.ofNat c, UInt8.ofNat d] ↔ a = c ∧ b = d := by
  constructor
  · intro h
    have h' : bl (bs [UInt8.ofNat a, UInt8.ofNat b]) = bl (bs [UInt8.ofNat c, UInt8.ofNat d]) := by rw [h]
    simp only [bl, bs, List.cons.injEq, and_true] at h'
    have e1 := congrArg UInt8.toNat h'.1
    have e2 := congrArg UInt8.toNat h'.2
    simp at e1 e2
    omega
  · rintro ⟨rfl, rfl⟩; rfl
theorem bs_one {a c : Nat} (ha : a < 256) (hc : c < 256) : bs [UInt8.ofNat a] = bs [UInt8.ofNat c] ↔ a = c := by
  constructor
  · intro h
    have h' : bl (bs [UInt8.ofNat a]) = bl (bs [UInt8.ofNat c]) := by rw [h]
    simp only [bl, bs, List.cons.injEq, and_true] at h'
    have e1 := congrArg UInt8.toNat h'
    simp at e1
    omega
  · rintro rfl; rfl
end Go.Proofs.YthcaodlfnlhfbaaGreatDoorT

/- Signs; the word that a text begins with. -/
namespace Go.Proofs.YthcaodlfnlhfbaaGreatDoorT
open Go Go.Proofs
set_option linter.unusedVariables false
theorem two_iff {t : ByteArray} (h : 1 < t.size) {a b : Nat} (ha : a < 256) (hb : b < 256) : t.extract 0 2 = bs [UInt8.ofNat a, UInt8.ofNat b] ↔ bt t 0 = a ∧ bt t 1 = b := by
  rw [pre_two t h]
  exact bs_two (bt_lt _ _) (bt_lt _ _) ha hb
theorem one_iff {t : ByteArray} (h : 0 < t.size) {a : Nat} (ha : a < 256) : t.extract 0 1 = bs [UInt8.ofNat a] ↔ bt t 0 = a := by
  rw [pre_one t h]
  exact bs_one (bt_lt _ _) ha
def hasP (t p : ByteArray) : Bool := decide (p.size ≤ t.size) && decide (t.extract 0 p.size = p)
theorem r73 (t p : ByteArray) : Rn 73 [st t, st p] (tb (hasP t p), [.dead, .dead]) := by
  refine f73 _ _ _ ⟨_, f89 _ _ (tb (hasP t p), [.dead, .dead]) (cd (fun h => ⟨⟨by omega, by omega⟩, tbR ?_⟩) (fun h => tbR ?_)), rfl⟩
  · have h' : p.size ≤ t.size := by omega
    rw [toN]
    simp [hasP, h']
  · have h' : ¬ p.size ≤ t.size := by omega
    simp [hasP, h']
def sg : List ByteArray := [bs [61, 61], bs [33, 61], bs [60, 61], bs [38, 38], bs [124, 124], bs [123], bs [125], bs [40], bs [41], bs [61], bs [33], bs [60], bs [43], bs [45], bs [42]]
theorem hasP2 {t : ByteArray} (h0 : 0 < t.size) {a b : Nat} (ha : a < 256) (hb : b < 256) : hasP t (bs [UInt8.ofNat a, UInt8.ofNat b]) = decide (1 < t.size ∧ bt t 0 = a ∧ bt t 1 = b) := by
  have hz : (bs [UInt8.ofNat a, UInt8.ofNat b]).size = 2 := rfl
  unfold hasP
  rw [hz]
  by_cases h : 1 < t.size
  · apply Bool.eq_iff_iff.2
    simp only [Bool.and_eq_true, decide_eq_true_eq, two_iff h ha hb]
    omega
  · simp [show ¬ 2 ≤ t.size by omega, h]
theorem hasP1 {t : ByteArray} (h0 : 0 < t.size) {a : Nat} (ha : a < 256) : hasP t (bs [UInt8.ofNat a]) = decide (bt t 0 = a) := by
  have hz : (bs [UInt8.ofNat a]).size = 1 := rfl
  unfold hasP
  rw [hz]
  apply Bool.eq_iff_iff.2
  simp only [Bool.and_eq_true, decide_eq_true_eq, one_iff h0 ha]
  omega
set_option maxHeartbeats 2000000 in
theorem sg_find {t : ByteArray} (h0 : 0 < t.size) : sg.find? (hasP t) = if sgn t = 0 then none else some (t.extract 0 (sgn t)) := by
  have p1 : hasP t (bs [61, 61]) = decide (1 < t.size ∧ bt t 0 = 61 ∧ bt t 1 = 61) := hasP2 h0 (by decide) (by decide)
  have p2 : hasP t (bs [33, 61]) = decide (1 < t.size ∧ bt t 0 = 33 ∧ bt t 1 = 61) := hasP2 h0 (by decide) (by decide)
  have p3 : hasP t (bs [60, 61]) = decide (1 < t.size ∧ bt t 0 = 60 ∧ bt t 1 = 61) := hasP2 h0 (by decide) (by decide)
  have p4 : hasP t (bs [38, 38]) = decide (1 < t.size ∧ bt t 0 = 38 ∧ bt t 1 = 38) := hasP2 h0 (by decide) (by decide)
  have p5 : hasP t (bs [124, 124]) = decide (1 < t.size ∧ bt t 0 = 124 ∧ bt t 1 = 124) := hasP2 h0 (by decide) (by decide)
  have q1 : hasP t (bs [123]) = decide (bt t 0 = 123) := hasP1 h0 (by decide)
  have q2 : hasP t (bs [125]) = decide (bt t 0 = 125) := hasP1 h0 (by decide)
  have q3 : hasP t (bs [40]) = decide (bt t 0 = 40) := hasP1 h0 (by decide)
  have q4 : hasP t (bs [41]) = decide (bt t 0 = 41) := hasP1 h0 (by decide)
  have q5 : hasP t (bs [61]) = decide (bt t 0 = 61) := hasP1 h0 (by decide)
  have q6 : hasP t (bs [33]) = decide (bt t 0 = 33) := hasP1 h0 (by decide)
  have q7 : hasP t (bs [60]) = decide (bt t 0 = 60) := hasP1 h0 (by decide)
  have q8 : hasP t (bs [43]) = decide (bt t 0 = 43) := hasP1 h0 (by decide)
  have q9 : hasP t (bs [45]) = decide (bt t 0 = 45) := hasP1 h0 (by decide)
  have q0 : hasP t (bs [42]) = decide (bt t 0 = 42) := hasP1 h0 (by decide)
  have two : ∀ {a b : Nat}, 1 < t.size ∧ bt t 0 = a ∧ bt t 1 = b → sgn t = 2 → a < 256 → b < 256 → (some (bs [UInt8.ofNat a, UInt8.ofNat b]) : Option ByteArray) = if sgn t = 0 then none else some (t.extract 0 (sgn t)) := by
    intro a b h hs ha hb
    rw [hs, if_neg (by omega), (two_iff h.1 ha hb).2 h.2]
  have one : ∀ {a : Nat}, bt t 0 = a → sgn t = 1 → a < 256 → (some (bs [UInt8.ofNat a]) : Option ByteArray) = if sgn t = 0 then none else some (t.extract 0 (sgn t)) := by
    intro a h hs ha
    rw [hs, if_neg (by omega), (one_iff h0 ha).2 h]
  have step : ∀ {p : ByteArray} {l : List ByteArray} {X : Option ByteArray} {P : Prop} [Decidable P], hasP t p = decide P → (P → some p = X) → (¬ P → l.find? (hasP t) = X) → (p :: l).find? (hasP t) = X := by
    intro p l X P _ hp h1 h2
    by_cases hP : P
    · rw [List.find?_cons_of_pos (by rw [hp]; simpa using hP)]; exact h1 hP
    · rw [List.find?_cons_of_neg (by rw [hp]; simpa using hP)]; exact h2 hP
  have s2 : ((1 < t.size ∧ bt t 0 = 61 ∧ bt t 1 = 61) ∨ (1 < t.size ∧ bt t 0 = 33 ∧ bt t 1 = 61) ∨ (1 < t.size ∧ bt t 0 = 60 ∧ bt t 1 = 61) ∨ (1 < t.size ∧ bt t 0 = 38 ∧ bt t 1 = 38) ∨ (1 < t.size ∧ bt t 0 = 124 ∧ bt t 1 = 124)) → sgn t = 2 := by
    intro h; unfold sgn; exact if_pos (by omega)
  unfold sg
  refine step p1 (fun h => two h (s2 (by omega)) (by decide) (by decide)) (fun h1 => ?_)
  refine step p2 (fun h => two h (s2 (by omega)) (by decide) (by decide)) (fun h2 => ?_)
  refine step p3 (fun h => two h (s2 (by omega)) (by decide) (by decide)) (fun h3 => ?_)
  refine step p4 (fun h => two h (s2 (by omega)) (by decide) (by decide)) (fun h4 => ?_)
  refine step p5 (fun h => two h (s2 (by omega)) (by decide) (by decide)) (fun h5 => ?_)
  have s1 : (bt t 0 = 123 ∨ bt t 0 = 125 ∨ bt t 0 = 40 ∨ bt t 0 = 41 ∨ bt t 0 = 61 ∨ bt t 0 = 33 ∨ bt t 0 = 60 ∨ bt t 0 = 43 ∨ bt t 0 = 45 ∨ bt t 0 = 42) → sgn t = 1 := by
    intro h; unfold sgn; rw [if_neg (by omega)]; exact if_pos h
  refine step q1 (fun h => one h (s1 (by omega)) (by decide)) (fun g1 => ?_)
  refine step q2 (fun h => one h (s1 (by omega)) (by decide)) (fun g2 => ?_)
  refine step q3 (fun h => one h (s1 (by omega)) (by decide)) (fun g3 => ?_)
  refine step q4 (fun h => one h (s1 (by omega)) (by decide)) (fun g4 => ?_)
  refine step q5 (fun h => one h (s1 (by omega)) (by decide)) (fun g5 => ?_)
  refine step q6 (fun h => one h (s1 (by omega)) (by decide)) (fun g6 => ?_)
  refine step q7 (fun h => one h (s1 (by omega)) (by decide)) (fun g7 => ?_)
  refine step q8 (fun h => one h (s1 (by omega)) (by decide)) (fun g8 => ?_)
  refine step q9 (fun h => one h (s1 (by omega)) (by decide)) (fun g9 => ?_)
  refine step q0 (fun h => one h (s1 (by omega)) (by decide)) (fun g0 => ?_)
  rw [show sgn t = 0 by unfold sgn; rw [if_neg (by omega), if_neg (by omega)], if_pos rfl]
  rfl
end Go.Proofs.YthcaodlfnlhfbaaGreatDoorT

/- The word that a text begins with: the program's, the document's. -/
namespace Go.Proofs.YthcaodlfnlhfbaaGreatDoorT
open Go Go.Proofs
set_option linter.unusedVariables false
/-- The kind of the word that a text begins with, its bytes, its runes. -/
def fst (t : ByteArray) : Option (Nat × Nat × Nat) :=
  if ltr (Lib.decodeGo t).1 = true then (if nm (t.extract 0 (run t t.size 0 0).1) = true then some (1, (run t t.size 0 0).1, (run t t.size 0 0).2) else none)
  else if dig (Lib.decodeGo t).1 = true then (if numB (t.extract 0 (run t t.size 0 0).1) = true then some (2, (run t t.size 0 0).1, (run t t.size 0 0).2) else none)
  else if sgn t = 0 then none else some (3, sgn t, sgn t)
theorem size_pre (t : ByteArray) {n : Nat} (h : n ≤ t.size) : (t.extract 0 n).size = n := by
  rw [← bl_len, bl_extract, List.drop_zero, List.length_take, bl_len]
  omega
theorem sgn_le {t : ByteArray} (h : 0 < t.size) : sgn t ≤ t.size := by
  unfold sgn
  split
  · rename_i h'; omega
  · split <;> omega
def fstR (o : Option (Nat × Nat × Nat)) : T := match o with
  | some (k, n, r) => .tup [i64 k, i64 n, i64 r]
  | none => .tup [i64 0, i64 0, i64 0]
/-- The lexer, as it is handed on. -/
abbrev lx (s : ByteArray) (l : List T) (n : Int) (b : Bool) (n1 n2 : Int) : T := .cbox 77 [st s, mnC 98 4 l, i64 n, tb b, i64 n1, i64 n2]
theorem r70 (s : ByteArray) (l : List T) (n : Int) (b : Bool) (n1 n2 : Int) (i : Nat) (hi : i ≤ s.size) (hs : s.size ≤ 140737488355328) :
    Rn 70 [lx s l n b n1 n2, i64 i] (i64 (run (suf s i) (suf s i).size 0 0).1, [lx s l n b n1 n2, .dead]) := by
  have hz := size_suf s i
  generalize ht : suf s i = t at hz ⊢
  have loop : ∀ (f pos k : Nat), t.size ≤ pos + f → pos ≤ t.size → L70_0 (i : Int) s l n b n1 n2 t pos (i64 (run t f pos k).1, [lx s l n b n1 n2, .dead]) := by
    intro f
    induction f with
    | zero =>
      intro pos k h h'
      refine l70_0 _ _ _ _ _ _ _ _ _ _ (cF (bleF (by omega)) ?_)
      rw [w64 (by omega), run, show ((s.size : Nat) : Int) - (i : Int) = ((pos : Nat) : Int) by omega]
    | succ f ih =>
      intro pos k h h'
      refine l70_0 _ _ _ _ _ _ _ _ _ _ (cble (fun hn => ⟨_, r77 _, cb (fun h2 => ?_) (fun h2 => ?_)⟩) (fun hn => ?_))
      · rw [run, if_neg (by simp at h2; simp [h2])]
      · have h2 : ins (Utf8.decode t pos).1 = true := by simpa using h2
        have := dec_size (s := t) (i := pos) (by omega)
        rw [run, if_pos ⟨by omega, h2⟩]
        exact ih _ _ (by omega) (by omega)
      · rw [w64 (by omega), run_end _ _ _ (by omega), show ((s.size : Nat) : Int) - (i : Int) = ((pos : Nat) : Int) by omega]
  refine f70 _ _ _ _ _ _ _ _ ⟨⟨by omega, by omega⟩, ?_⟩
  rw [toN]
  have e : s.extract i s.size = t := ht
  rw [e]
  exact loop _ _ _ (by omega) (by omega)
/-- A word as it lies in memory. -/
def wd (k : Nat) (w : ByteArray) (n1 n2 : Int) : W_glyph_Word := ⟨k, w, n1, n2⟩
theorem r50 (s : ByteArray) (l : List T) (n : Int) (b : Bool) (n1 n2 : Int) (i : Nat) (hi : i < s.size) (hs : s.size ≤ 140737488355328) :
    ∃ w : W_glyph_Word, Rn 50 [lx s l n b n1 n2, i64 i, i32 (Utf8.decode s i).1] (.tup [w.t, tb (fst (suf s i)).isSome], [lx s l n b n1 n2, .dead, .dead]) ∧
      ∀ k m r, fst (suf s i) = some (k, m, r) → w = wd k ((suf s i).extract 0 m) n1 n2 := by
  have hz := size_suf s i
  have hgo : Lib.decodeGo (suf s i) = Utf8.decode s i := by rw [dec_go, if_neg (by omega), dec_suf, Nat.add_zero]
  have h87 := r70 s l n b n1 n2 i (by omega) hs
  have hq := run_le (t := suf s i) (suf s i).size 0 0 (by omega)
  have e : s.extract i s.size = suf s i := rfl
  generalize ht : suf s i = t at hz hgo h87 hq e ⊢
  have hx : (t.extract 0 (run t t.size 0 0).1).size = (run t t.size 0 0).1 := size_pre t hq.2.1
  have hm : (run t t.size 0 0).1 ≤ maxLen := Nat.le_trans (Nat.le_trans hq.2.1 (by omega)) maxLen_big
  by_cases hl : ltr (Utf8.decode s i).1 = true
  · refine ⟨wd 1 (t.extract 0 (run t t.size 0 0).1) n1 n2, f50 _ _ _ _ _ _ _ _ _ ⟨⟨by omega, by omega⟩, _, r69 _, cT hl ⟨_, h87, ?_⟩⟩, ?_⟩
    · rw [toN, toN, e]
      refine ⟨⟨by omega, by omega⟩, _, r58 _ (by omega), ?_⟩
      have hf : (fst t).isSome = nm (t.extract 0 (run t t.size 0 0).1) := by
        rw [fst, hgo, if_pos hl]
        split
        · rename_i h; rw [h]; rfl
        · rename_i h; simpa using h
      rw [hf]; rfl
    · intro k m r hk
      rw [fst, hgo, if_pos hl] at hk
      split at hk
      · simp only [Option.some.injEq, Prod.mk.injEq] at hk
        obtain ⟨rfl, rfl, rfl⟩ := hk; rfl
      · cases hk
  have hl : ltr (Utf8.decode s i).1 = false := by simpa using hl
  by_cases hd : dig (Utf8.decode s i).1 = true
  · refine ⟨wd 2 (t.extract 0 (run t t.size 0 0).1) n1 n2, f50 _ _ _ _ _ _ _ _ _ ⟨⟨by omega, by omega⟩, _, r69 _, cF hl ⟨_, r71 _, cT hd ⟨_, h87, ?_⟩⟩⟩, ?_⟩
    · rw [toN, toN, e]
      refine ⟨⟨by omega, by omega⟩, _, r72 _ (by omega), ?_⟩
      have hf : (fst t).isSome = numB (t.extract 0 (run t t.size 0 0).1) := by
        rw [fst, hgo, if_neg (by rw [hl]; simp), if_pos hd]
        split
        · rename_i h; rw [h]; rfl
        · rename_i h; simpa using h
      rw [hf]; rfl
    · intro k m r hk
      rw [fst, hgo, if_neg (by rw [hl]; simp), if_pos hd] at hk
      split at hk
      · simp only [Option.some.injEq, Prod.mk.injEq] at hk
        obtain ⟨rfl, rfl, rfl⟩ := hk; rfl
      · cases hk
  have hd : dig (Utf8.decode s i).1 = false := by simpa using hd
  have hf : fst t = if sgn t = 0 then none else some (3, sgn t, sgn t) := by rw [fst, hgo, if_neg (by rw [hl]; simp), if_neg (by rw [hd]; simp)]
  have hfind := sg_find (t := t) (by omega)
  have loop : ∀ (d k : Nat), k + d = 15 → (sg.take k).find? (hasP t) = none →
      L50_0 t 15 (k : Int) s l n b n1 n2 ⟨0, bs [], 0, 0⟩ (sg.map st) (.tup [(match sg.find? (hasP t) with | some p => wd 3 p n1 n2 | none => wd 0 (bs []) 0 0).t, tb (sg.find? (hasP t)).isSome], [lx s l n b n1 n2, .dead, .dead]) := by
    intro d
    induction d with
    | zero =>
      intro k hk hn
      have hk : k = 15 := by omega
      subst hk
      have : sg.take 15 = sg := rfl
      rw [this] at hn
      rw [hn]
      exact l50_0 _ _ _ _ _ _ _ _ _ _ _ _ (cF (by decide) rfl)
    | succ d ih =>
      intro k hk hn
      have hlt : k < sg.length := by show k < 15; omega
      have hsplit : sg = sg.take k ++ sg[k] :: sg.drop (k + 1) := by rw [← List.drop_eq_getElem_cons hlt, List.take_append_drop]
      refine l50_0 _ _ _ _ _ _ _ _ _ _ _ _ (cT (by simp; omega) ⟨⟨by omega, by rw [len_map]; show (k : Int) < 15; omega⟩, sg[k], getm hlt, _, r73 _ _, cb (fun h => ?_) (fun h => ?_)⟩)
      · have h9 : (sg.take k ++ sg[k] :: sg.drop (k + 1)).find? (hasP t) = some sg[k] := by rw [List.find?_append, hn, Option.none_or, List.find?_cons_of_pos h]
        have hf : sg.find? (hasP t) = some sg[k] := by rwa [← hsplit] at h9
        rw [hf]; rfl
      · rw [wS (by omega)]
        refine ih (k + 1) (by omega) ?_
        rw [List.take_succ_eq_append_getElem hlt, List.find?_append, hn, Option.none_or, List.find?_cons_of_neg (by rw [h]; simp)]
        rfl
  have hL := loop 15 0 rfl rfl
  refine ⟨match sg.find? (hasP t) with | some p => wd 3 p n1 n2 | none => wd 0 (bs []) 0 0, f50 _ _ _ _ _ _ _ _ _ ⟨⟨by omega, by omega⟩, _, r69 _, cF hl ⟨_, r71 _, cF hd ?_⟩⟩, ?_⟩
  · rw [toN, e]
    have he : (fst t).isSome = (sg.find? (hasP t)).isSome := by rw [hf, hfind]; split <;> rfl
    rw [he]
    exact hL
  · intro k m r hk
    rw [hf] at hk
    split at hk
    · cases hk
    · rename_i h
      rw [hfind, if_neg h]
      simp only [Option.some.injEq, Prod.mk.injEq] at hk
      obtain ⟨rfl, rfl, rfl⟩ := hk; rfl
end Go.Proofs.YthcaodlfnlhfbaaGreatDoorT

/- The words of a text, as a function; the document's function comes to them. -/
namespace Go.Proofs.YthcaodlfnlhfbaaGreatDoorT
open Go Go.Proofs
set_option linter.unusedVariables false
/-- Steps over runes, none of them a line feed. -/
inductive Stp1 (s : ByteArray) : Nat → Nat → Nat → Prop
  | nil (j : Nat) : Stp1 s j j 0
  | cons {j m r : Nat} (h : j < s.size) (hn : (Utf8.decode s j).1 ≠ 10) (h' : Stp1 s (j + (Utf8.decode s j).2) m r) : Stp1 s j m (r + 1)
theorem Stp1.le {s : ByteArray} {j m r : Nat} (h : Stp1 s j m r) : j + r ≤ m := by
  induction h with
  | nil j => omega
  | cons h hn h' ih => have := dec_size h; omega
theorem Stp1.suf {s : ByteArray} {i : Nat} {j m r : Nat} (h : Stp1 (suf s i) j m r) : Stp1 s (i + j) (i + m) r := by
  induction h with
  | nil j => exact .nil _
  | cons h hn h' ih =>
    rw [size_suf] at h
    rw [dec_suf] at hn ih
    exact .cons (by omega) hn (by rw [Nat.add_assoc]; exact ih)
theorem ins_nl {n : Nat} (h : ins n = true) : n ≠ 10 := by
  rintro rfl
  simp [ins, ltr, dig] at h
theorem run_stp {t : ByteArray} : ∀ (f n k : Nat), ∃ r, (run t f n k).2 = k + r ∧ Stp1 t n (run t f n k).1 r
  | 0, n, k => ⟨0, rfl, .nil n⟩
  | f + 1, n, k => by
    rw [run]
    split
    · rename_i h
      obtain ⟨r, h1, h2⟩ := run_stp (t := t) f (n + (Utf8.decode t n).2) (k + 1)
      exact ⟨r + 1, by rw [h1]; omega, .cons h.1 (ins_nl h.2) h2⟩
    · exact ⟨0, rfl, .nil n⟩
theorem low_step {t : ByteArray} {j c : Nat} (h : bt t j = c) (hc : c < 128) (h10 : c ≠ 10) (hj : j < t.size) {m r : Nat} (h' : Stp1 t (j + 1) m r) : Stp1 t j m (r + 1) := by
  have hd := dec_low (s := t) (i := j) (by omega)
  exact .cons hj (by rw [hd]; show bt t j ≠ 10; omega) (by rw [hd]; exact h')
theorem fst_stp {t : ByteArray} (h0 : 0 < t.size) {k n r : Nat} (h : fst t = some (k, n, r)) : Stp1 t 0 n r ∧ 1 ≤ r ∧ n ≤ t.size := by
  have hq := run_le (t := t) t.size 0 0 (by omega)
  obtain ⟨r', h1, h2⟩ := run_stp (t := t) t.size 0 0
  have hgo : Lib.decodeGo t = Utf8.decode t 0 := by rw [dec_go, if_neg (by omega)]
  have hpos : ins (Utf8.decode t 0).1 = true → 1 ≤ (run t t.size 0 0).2 := by
    intro hi
    obtain ⟨f, hf⟩ : ∃ f, t.size = f + 1 := ⟨t.size - 1, by omega⟩
    have := run_le (t := t) f (0 + (Utf8.decode t 0).2) (0 + 1) (by have := dec_size h0; omega)
    rw [hf, run, if_pos ⟨h0, hi⟩]
    omega
  unfold fst at h
  rw [hgo] at h
  split at h
  · rename_i hl
    split at h
    · simp only [Option.some.injEq, Prod.mk.injEq] at h
      obtain ⟨rfl, rfl, rfl⟩ := h
      exact ⟨by rw [h1, Nat.zero_add]; exact h2, hpos (ltr_ins hl), hq.2.1⟩
    · cases h
  · split at h
    · rename_i hl hd
      split at h
      · simp only [Option.some.injEq, Prod.mk.injEq] at h
        obtain ⟨rfl, rfl, rfl⟩ := h
        exact ⟨by rw [h1, Nat.zero_add]; exact h2, hpos (by simp [ins, hd]), hq.2.1⟩
      · cases h
    · split at h
      · cases h
      · rename_i hl hd hs
        simp only [Option.some.injEq, Prod.mk.injEq] at h
        obtain ⟨rfl, rfl, rfl⟩ := h
        refine ⟨?_, by omega, sgn_le h0⟩
        unfold sgn at hs ⊢
        split
        · rename_i h2
          exact low_step (c := bt t 0) rfl (by omega) (by omega) (by omega) (low_step (c := bt t 1) rfl (by omega) (by omega) (by omega) (.nil _))
        · rename_i h2
          rw [if_neg h2] at hs
          split
          · exact low_step (c := bt t 0) rfl (by omega) (by omega) (by omega) (.nil _)
          · rename_i h3
            rw [if_neg h3] at hs
            exact absurd rfl hs
/-- The end of a remark, and its runes. -/
def rem (s : ByteArray) : Nat → Nat → Nat → Nat × Nat
  | 0, i, k => (i, k)
  | f + 1, i, k => if i < s.size ∧ bt s i ≠ 10 then rem s f (i + (Utf8.decode s i).2) (k + 1) else (i, k)
theorem rem_le {s : ByteArray} : ∀ (f i k : Nat), i ≤ s.size → i ≤ (rem s f i k).1 ∧ (rem s f i k).1 ≤ s.size ∧ (rem s f i k).2 + i ≤ (rem s f i k).1 + k ∧ k ≤ (rem s f i k).2 := by
  intro f
  induction f with
  | zero => intro i k h; simp only [rem]; omega
  | succ f ih =>
    intro i k h
    rw [rem]
    split
    · rename_i hh
      have := dec_size hh.1
      have := ih (i + (Utf8.decode s i).2) (k + 1) (by omega)
      omega
    · simp only; omega
theorem rem_end {s : ByteArray} {f i k : Nat} (h : ¬ (i < s.size ∧ bt s i ≠ 10)) : rem s f i k = (i, k) := by
  cases f with
  | zero => rfl
  | succ f => rw [rem, if_neg h]
theorem rem_more {s : ByteArray} : ∀ (f g i k : Nat), s.size ≤ i + f → s.size ≤ i + g → rem s f i k = rem s g i k := by
  intro f
  induction f with
  | zero => intro g i k h1 h2; rw [rem_end (by omega), rem_end (by omega)]
  | succ f ih =>
    intro g i k h1 h2
    cases g with
    | zero => rw [rem_end (by omega), rem_end (by omega)]
    | succ g =>
      rw [rem, rem]
      split
      · rename_i h
        have := dec_size h.1
        exact ih g _ _ (by omega) (by omega)
      · rfl
theorem rem_off {s : ByteArray} : ∀ (f i k c : Nat), rem s f i (k + c) = ((rem s f i k).1, (rem s f i k).2 + c)
  | 0, i, k, c => rfl
  | f + 1, i, k, c => by
    rw [rem, rem]
    split
    · rw [show k + c + 1 = (k + 1) + c by omega]; exact rem_off f _ _ _
    · rfl
theorem rem_stop {s : ByteArray} : ∀ (f i k : Nat), s.size ≤ i + f → ¬ ((rem s f i k).1 < s.size ∧ bt s (rem s f i k).1 ≠ 10)
  | 0, i, k, h => by rw [rem]; simp only; omega
  | f + 1, i, k, h => by
    rw [rem]
    split
    · rename_i hh
      have := dec_size hh.1
      exact rem_stop f _ _ (by omega)
    · assumption
abbrev Out := List W_glyph_Word × (Nat × Nat) × Nat
/-- The words of a text from a place on. -/
def lex (s : ByteArray) : Nat → Nat → Nat → Nat → List W_glyph_Word → Out
  | 0, i, ln, col, out => (out, (0, 0), 0)
  | f + 1, i, ln, col, out =>
    if s.size ≤ i then (out, (0, 0), 0)
    else if bt s i = 10 then lex s f (i + 1) (ln + 1) 1 out
    else if bt s i = 32 ∨ bt s i = 9 then lex s f (i + 1) ln (col + 1) out
    else if bt s i = 35 then lex s f (rem s s.size i 0).1 ln (col + (rem s s.size i 0).2) out
    else match fst (suf s i) with
      | none => ([], (ln, col), 11)
      | some (k, n, r) => if out.length = 3000 then ([], (ln, col), 4) else lex s f (i + n) ln (col + r) (out ++ [wd k ((suf s i).extract 0 n) ln col])
theorem lex_end {s : ByteArray} {f i ln col : Nat} {out : List W_glyph_Word} (h : s.size ≤ i) : lex s f i ln col out = (out, (0, 0), 0) := by
  cases f with
  | zero => rfl
  | succ f => rw [lex, if_pos h]
theorem rem_pos {s : ByteArray} {i : Nat} (h : i < s.size) (h10 : bt s i ≠ 10) : i + 1 ≤ (rem s s.size i 0).1 := by
  obtain ⟨f, hf⟩ : ∃ f, s.size = f + 1 := ⟨s.size - 1, by omega⟩
  have hz := dec_size h
  have := rem_le (s := s) f (i + (Utf8.decode s i).2) (0 + 1) (by omega)
  have hr : rem s s.size i 0 = rem s f (i + (Utf8.decode s i).2) (0 + 1) := by rw [hf, rem, if_pos ⟨h, h10⟩]
  rw [hr]; omega
theorem lex_more {s : ByteArray} : ∀ (f g i ln col : Nat) (out : List W_glyph_Word), s.size ≤ i + f → s.size ≤ i + g → lex s f i ln col out = lex s g i ln col out := by
  intro f
  induction f with
  | zero => intro g i ln col out h1 h2; rw [lex_end (by omega), lex_end (by omega)]
  | succ f ih =>
    intro g i ln col out h1 h2
    cases g with
    | zero => rw [lex_end (by omega), lex_end (by omega)]
    | succ g =>
      rw [lex, lex]
      split
      · rfl
      · rename_i hlt
        split
        · exact ih g _ _ _ _ (by omega) (by omega)
        · rename_i h10
          split
          · exact ih g _ _ _ _ (by omega) (by omega)
          · split
            · have := rem_pos (s := s) (i := i) (by omega) h10
              exact ih g _ _ _ _ (by omega) (by omega)
            · split
              · rfl
              · rename_i k n r hk
                have := fst_stp (by rw [size_suf]; omega) hk
                have h1 := this.1.le
                split
                · rfl
                · exact ih g _ _ _ _ (by omega) (by omega)
def lexR (s : ByteArray) (i ln col : Nat) (out : List W_glyph_Word) : Out := lex s (s.size + 1) i ln col out
theorem lexR_eq {s : ByteArray} {i ln col : Nat} {out : List W_glyph_Word} : lexR s i ln col out =
    if s.size ≤ i then (out, (0, 0), 0)
    else if bt s i = 10 then lexR s (i + 1) (ln + 1) 1 out
    else if bt s i = 32 ∨ bt s i = 9 then lexR s (i + 1) ln (col + 1) out
    else if bt s i = 35 then lexR s (rem s s.size i 0).1 ln (col + (rem s s.size i 0).2) out
    else match fst (suf s i) with
      | none => ([], (ln, col), 11)
      | some (k, n, r) => if out.length = 3000 then ([], (ln, col), 4) else lexR s (i + n) ln (col + r) (out ++ [wd k ((suf s i).extract 0 n) ln col]) := by
  have more : ∀ (i ln col : Nat) (out : List W_glyph_Word), lex s s.size i ln col out = lexR s i ln col out := fun i ln col out => lex_more _ _ _ _ _ _ (by omega) (by omega)
  conv => lhs; rw [lexR, lex]
  simp only [more]
/-- What the functions answer. -/
def res (o : Out) : T × List T := (.tup [.sl 4 (o.1.map W_glyph_Word.t), .agg [i64 o.2.1.1, i64 o.2.1.2], i64 o.2.2], [.dead])
def wordsOf (s : ByteArray) : Out := if 12000 < s.size then ([], (1, 1), 4) else lexR s 0 1 1 []
theorem map_snoc (out : List W_glyph_Word) (x : W_glyph_Word) : (out ++ [x]).map W_glyph_Word.t = out.map W_glyph_Word.t ++ [x.t] := by simp
end Go.Proofs.YthcaodlfnlhfbaaGreatDoorT

/- The words of a text: the program's function comes to them, too. -/
namespace Go.Proofs.YthcaodlfnlhfbaaGreatDoorT
open Go Go.Proofs
set_option linter.unusedVariables false
/-- The place behind a rune. -/
def bh (a b n : Int) : W_api_Pos := if n = 10 then ⟨IntKind.wrap .i64 (a + 1), 1⟩ else ⟨a, IntKind.wrap .i64 (b + 1)⟩
theorem r35 (a b n : Int) : Rn 35 [.agg [i64 a, i64 b], i32 n] ((bh a b n).t, [.dead, .dead]) := by
  refine f35 ⟨a, b⟩ n _ (cd (fun h => ?_) (fun h => ?_))
  · rw [bh, if_pos h]; rfl
  · rw [bh, if_neg h]; rfl
/-- A rune that is looked at. -/
theorem step21 {w : W_api_Pos} {s s1 : ByteArray} {l l' : List T} {n n' : Int} {b b' : Bool} {n1 n2 e m1 m2 : Int} {pos : Nat} {R : T × List T} (h : pos < s1.size) (hb : ((Utf8.decode s1 pos).1 : Int) = 10 ∨ b = false)
    (h37 : Rn 34 [lx s l n false n1 n2, i64 pos, i32 (Utf8.decode s1 pos).1] (i64 e, [lx s l' n' b' m1 m2, .dead, .dead]))
    (he : e ≠ 0 → R = (.tup [.sl 4 [], .agg [i64 m1, i64 m2], i64 e], [.dead]))
    (hk : e = 0 → L21_0 w s l' n' b' (bh m1 m2 (Utf8.decode s1 pos).1).fLine (bh m1 m2 (Utf8.decode s1 pos).1).fCol s1 (pos + (Utf8.decode s1 pos).2) R) : L21_0 w s l n b n1 n2 s1 pos R := by
  have tail : cond (!(decide ((e : Int) = 0))) (R = (.tup [.sl 4 [], .agg [i64 m1, i64 m2], i64 e], [.dead]))
      (∃ w1 : W_api_Pos, Rn 35 [.agg [i64 m1, i64 m2], i32 (Utf8.decode s1 pos).1] (w1.t, [.dead, .dead]) ∧ L21_0 w s l' n' b' w1.fLine w1.fCol s1 (pos + (Utf8.decode s1 pos).2) R) :=
    cdn (fun h => he h) (fun h => ⟨_, r35 _ _ _, hk h⟩)
  refine l21_0 _ _ _ _ _ _ _ _ _ _ (cT (bleT h) (cd (fun h10 => ?_) (fun h10 => ?_)))
  · cases l' with
    | nil => exact .inl ⟨e, s, n', b', m1, m2, h37, tail⟩
    | cons y ys => exact .inr ⟨e, s, y, ys, n', b', m1, m2, h37, tail⟩
  · rcases hb with hb | rfl
    · exact absurd hb h10
    · cases l' with
      | nil => exact cT rfl (.inl ⟨e, s, n', b', m1, m2, h37, tail⟩)
      | cons y ys => exact cT rfl (.inr ⟨e, s, y, ys, n', b', m1, m2, h37, tail⟩)
/-- A rune of a remark. -/
theorem note21 {w : W_api_Pos} {s s1 : ByteArray} {l : List T} {n n1 n2 : Int} {pos : Nat} {R : T × List T} (h : pos < s1.size) (h10 : ((Utf8.decode s1 pos).1 : Int) ≠ 10)
    (hk : L21_0 w s l n true n1 (IntKind.wrap .i64 (n2 + 1)) s1 (pos + (Utf8.decode s1 pos).2) R) : L21_0 w s l n true n1 n2 s1 pos R := by
  refine l21_0 _ _ _ _ _ _ _ _ _ _ (cT (bleT h) (cF (by simpa using h10) (cF rfl ⟨_, r35 _ _ _, ?_⟩)))
  rw [bh, if_neg h10]
  exact hk
theorem r34_skip (s : ByteArray) (l : List T) (n : Int) (b : Bool) (n1 n2 : Int) (i r : Int) (h : i < n) : Rn 34 [lx s l n b n1 n2, i64 i, i32 r] (i64 0, [lx s l n b n1 n2, .dead, .dead]) :=
  f34 _ _ _ _ _ _ _ _ _ (cT (by simpa using h) rfl)
theorem r34_blank (s : ByteArray) (l : List T) (n : Int) (b : Bool) (n1 n2 : Int) (i r : Int) (h : r = 32 ∨ r = 9 ∨ r = 10) : Rn 34 [lx s l n b n1 n2, i64 i, i32 r] (i64 0, [lx s l n b n1 n2, .dead, .dead]) := by
  refine f34 _ _ _ _ _ _ _ _ _ (cd (fun _ => rfl) (fun _ => cd (fun _ => rfl) (fun h1 => cd (fun _ => rfl) (fun h2 => cd (fun _ => rfl) (fun h3 => absurd h (by omega))))))
theorem r34_note (s : ByteArray) (l : List T) (n : Int) (b : Bool) (n1 n2 : Int) (i : Int) (h : n ≤ i) : Rn 34 [lx s l n b n1 n2, i64 i, i32 35] (i64 0, [lx s l n true n1 n2, .dead, .dead]) := by
  refine f34 _ _ _ _ _ _ _ _ _ (cF (by simp; omega) (cF rfl (cF rfl (cF rfl (cT rfl rfl)))))
theorem mnC_snoc (l : List T) (x : T) : mnC 98 4 (l ++ [x]) = .cown 98 4 (l ++ [x]) := by cases l <;> rfl
theorem r34_word (s : ByteArray) (l : List T) (n : Int) (n1 n2 : Int) (i : Nat) (hi : i < s.size) (hs : s.size ≤ 140737488355328) (hn : n ≤ i) (hl : l.length ≤ 3000)
    (h32 : ((Utf8.decode s i).1 : Int) ≠ 32) (h9 : ((Utf8.decode s i).1 : Int) ≠ 9) (h10 : ((Utf8.decode s i).1 : Int) ≠ 10) (h35 : ((Utf8.decode s i).1 : Int) ≠ 35) :
    match fst (suf s i) with
    | none => Rn 34 [lx s l n false n1 n2, i64 i, i32 (Utf8.decode s i).1] (i64 11, [lx s l n false n1 n2, .dead, .dead])
    | some (k, m, r) => if l.length = 3000 then Rn 34 [lx s l n false n1 n2, i64 i, i32 (Utf8.decode s i).1] (i64 4, [lx s l n false n1 n2, .dead, .dead])
        else Rn 34 [lx s l n false n1 n2, i64 i, i32 (Utf8.decode s i).1] (i64 0, [lx s (l ++ [(wd k ((suf s i).extract 0 m) n1 n2).t]) ((i + m : Nat) : Int) false n1 n2, .dead, .dead]) := by
  obtain ⟨w, h59, hw⟩ := r50 s l n false n1 n2 i hi hs
  have hz := size_suf s i
  cases hf : fst (suf s i) with
  | none =>
    rw [hf] at h59
    exact f34 _ _ _ _ _ _ _ _ _ (cF (by simp; omega) (cF (by simpa using h32) (cF (by simpa using h9) (cF (by simpa using h10) (cF (by simpa using h35) ⟨_, _, h59, cT rfl rfl⟩)))))
  | some q =>
    obtain ⟨k, m, r⟩ := q
    rw [hf] at h59
    have hw := hw k m r hf
    obtain ⟨hst, hr1, hn1⟩ := fst_stp (by omega) hf
    have hx := size_pre (suf s i) hn1
    simp only
    split
    · rename_i h3
      exact f34 _ _ _ _ _ _ _ _ _ (cF (by simp; omega) (cF (by simpa using h32) (cF (by simpa using h9) (cF (by simpa using h10) (cF (by simpa using h35) ⟨_, _, h59, cF rfl (cT (by simp; omega) rfl)⟩)))))
    · rename_i h3
      refine f34 _ _ _ _ _ _ _ _ _ (cF (by simp; omega) (cF (by simpa using h32) (cF (by simpa using h9) (cF (by simpa using h10) (cF (by simpa using h35) ⟨_, _, h59, cF rfl (cF (by simp; omega) (ckn (by omega) ?_))⟩)))))
      subst hw
      have e : IntKind.wrap .i64 ((i : Int) + (((wd k ((suf s i).extract 0 m) n1 n2).fText.size : Nat) : Int)) = ((i + m : Nat) : Int) := by
        show IntKind.wrap .i64 ((i : Int) + ((((suf s i).extract 0 m).size : Nat) : Int)) = _
        rw [hx, w64 (by omega)]; omega
      rw [e, lx, mnC_snoc]
theorem Stp1.inv {s : ByteArray} {j m r : Nat} (h : Stp1 s j m r) (hr : 1 ≤ r) : ∃ r', r = r' + 1 ∧ (Utf8.decode s j).1 ≠ 10 ∧ Stp1 s (j + (Utf8.decode s j).2) m r' := by
  cases h with
  | nil => omega
  | cons h hn h' => exact ⟨_, rfl, hn, h'⟩
/-- Over the runes of a word. -/
theorem skip21 {w : W_api_Pos} {s : ByteArray} (hs : s.size ≤ 12000) {l : List T} {ln m : Nat} {R : T × List T} : ∀ {j r : Nat}, Stp1 s j m r → ∀ col : Nat, col ≤ j + 1 → m ≤ s.size → L21_0 w s l (m : Int) false ln ((col + r : Nat) : Int) s m R → L21_0 w s l (m : Int) false ln (col : Int) s j R := by
  intro j r h
  induction h with
  | nil j => intro col hc hm hR; exact hR
  | @cons j m r hj hn h' ih =>
    intro col hc hm hR
    have hz := dec_size hj
    have hle := h'.le
    refine step21 hj (.inr rfl) (r34_skip s l _ false ln col j _ (by omega)) (fun h => absurd rfl h) (fun _ => ?_)
    rw [bh, if_neg (by omega), wS (by omega)]
    exact ih (col + 1) (by omega) hm (by rw [show col + 1 + r = col + (r + 1) by omega]; exact hR)
theorem l12 (s : ByteArray) (hs : s.size ≤ 12000) {w : W_api_Pos} : ∀ (d i ln col skip : Nat) (out : List W_glyph_Word), s.size ≤ i + d → i ≤ s.size → ln ≤ i + 1 → col ≤ i + 1 → out.length ≤ 3000 → skip ≤ i →
    L21_0 w s (out.map W_glyph_Word.t) (skip : Int) false ln col s i (res (lexR s i ln col out)) := by
  intro d
  induction d using Nat.strongRecOn with
  | _ d ih =>
    intro i ln col skip out h h' hl hc ho hsk
    rw [lexR_eq]
    by_cases hi : s.size ≤ i
    · rw [if_pos hi]
      exact l21_0 _ _ _ _ _ _ _ _ _ _ (cF (bleF (by omega)) rfl)
    rw [if_neg hi]
    have hi : i < s.size := by omega
    have hz := dec_size hi
    -- a byte below 128
    have low : ∀ {c : Nat}, bt s i = c → c < 128 → Utf8.decode s i = (c, 1) := fun hc h => by rw [dec_low (by omega), hc]
    by_cases h10 : bt s i = 10
    · rw [if_pos h10]
      have hd := low h10 (by omega)
      refine step21 hi (.inr rfl) (r34_blank s _ _ false ln col i _ (by rw [hd]; simp)) (fun h => absurd rfl h) (fun _ => ?_)
      rw [hd, bh, if_pos (by simp), wS (by omega)]
      exact ih (d - 1) (by omega) (i + 1) (ln + 1) 1 skip out (by omega) (by omega) (by omega) (by omega) ho (by omega)
    rw [if_neg h10]
    by_cases hb : bt s i = 32 ∨ bt s i = 9
    · rw [if_pos hb]
      have hd : Utf8.decode s i = (bt s i, 1) := dec_low (by omega)
      refine step21 hi (.inr rfl) (r34_blank s _ _ false ln col i _ (by rw [hd]; simp only; omega)) (fun h => absurd rfl h) (fun _ => ?_)
      rw [hd, bh, if_neg (by simp only; omega), wS (by omega)]
      exact ih (d - 1) (by omega) (i + 1) ln (col + 1) skip out (by omega) (by omega) (by omega) (by omega) ho (by omega)
    rw [if_neg hb]
    by_cases h35 : bt s i = 35
    · rw [if_pos h35]
      have hd := low h35 (by omega)
      have hnote : Rn 34 [lx s (out.map W_glyph_Word.t) (skip : Int) false ln col, i64 i, i32 (Utf8.decode s i).1] (i64 0, [lx s (out.map W_glyph_Word.t) (skip : Int) true ln col, .dead, .dead]) := by
        rw [hd]; exact r34_note s _ _ false ln col i (by omega)
      refine step21 hi (.inr rfl) hnote (fun h => absurd rfl h) (fun _ => ?_)
      rw [hd, bh, if_neg (by simp), wS (by omega)]
      -- to the remark's end
      have rest : ∀ (f j c : Nat), s.size ≤ j + f → i < j → j ≤ s.size → c ≤ j + 1 → L21_0 w s (out.map W_glyph_Word.t) (skip : Int) true ln c s j (res (lexR s (rem s f j 0).1 ln (c + (rem s f j 0).2) out)) := by
        intro f
        induction f with
        | zero =>
          intro j c h1 h2 h3 h4
          rw [rem, lexR_eq, if_pos (by simp only; omega)]
          exact l21_0 _ _ _ _ _ _ _ _ _ _ (cF (bleF (by omega)) rfl)
        | succ f ihf =>
          intro j c h1 h2 h3 h4
          by_cases hj : j < s.size
          · have hzj := dec_size hj
            by_cases hj10 : bt s j = 10
            · rw [rem_end (by omega)]
              have hdj : Utf8.decode s j = (10, 1) := by rw [dec_low (by omega), hj10]
              rw [lexR_eq, if_neg (by simp only; omega), if_pos (by simp only; omega)]
              refine step21 hj (.inl (by rw [hdj]; rfl)) (r34_blank s _ _ false ln c j _ (by rw [hdj]; simp)) (fun h => absurd rfl h) (fun _ => ?_)
              rw [hdj, bh, if_pos (by simp), wS (by omega)]
              exact ih (d - 1) (by omega) (j + 1) (ln + 1) 1 skip out (by omega) (by omega) (by omega) (by omega) ho (by omega)
            · have hne : (Utf8.decode s j).1 ≠ 10 := fun e => hj10 ((dec_asc (by omega)).1 e)
              refine note21 hj (by omega) ?_
              rw [wS (by omega), rem, if_pos ⟨hj, hj10⟩, rem_off]
              have := ihf (j + (Utf8.decode s j).2) (c + 1) (by omega) (by omega) (by omega) (by omega)
              simp only
              rw [show c + ((rem s f (j + (Utf8.decode s j).2) 0).2 + 1) = c + 1 + (rem s f (j + (Utf8.decode s j).2) 0).2 by omega]
              exact this
          · rw [rem_end (by omega), lexR_eq, if_pos (by simp only; omega)]
            exact l21_0 _ _ _ _ _ _ _ _ _ _ (cF (bleF (by omega)) rfl)
      have hfin := rest s.size (i + 1) (col + 1) (by omega) (by omega) (by omega) (by omega)
      have hrem : rem s s.size i 0 = ((rem s s.size (i + 1) 0).1, (rem s s.size (i + 1) 0).2 + 1) := by
        rw [rem_more s.size (s.size + 1) i 0 (by omega) (by omega), rem, if_pos ⟨hi, h10⟩, hd, rem_off]
      rw [hrem]
      simp only
      rw [show col + ((rem s s.size (i + 1) 0).2 + 1) = col + 1 + (rem s s.size (i + 1) 0).2 by omega]
      exact hfin
    rw [if_neg h35]
    have ne : ∀ {c : Nat}, c < 128 → bt s i ≠ c → ((Utf8.decode s i).1 : Int) ≠ c := fun hc h e => h ((dec_asc hc).1 (by omega))
    have hw := r34_word s (out.map W_glyph_Word.t) (skip : Int) ln col i hi (by omega) (by omega) (by simpa using ho) (ne (c := 32) (by omega) (by omega)) (ne (c := 9) (by omega) (by omega)) (ne (c := 10) (by omega) (by omega)) (ne (c := 35) (by omega) (by omega))
    have hzs := size_suf s i
    cases hf : fst (suf s i) with
    | none =>
      rw [hf] at hw
      exact step21 hi (.inr rfl) hw (fun _ => rfl) (fun h => absurd h (by decide))
    | some q =>
      obtain ⟨k, m, r⟩ := q
      rw [hf] at hw
      obtain ⟨hst, hr1, hn1⟩ := fst_stp (by omega) hf
      have hst := hst.suf
      simp only [len_map] at hw
      simp only
      by_cases h3 : out.length = 3000
      · rw [if_pos h3] at hw
        rw [if_pos h3]
        exact step21 hi (.inr rfl) hw (fun _ => rfl) (fun h => absurd h (by decide))
      · rw [if_neg h3] at hw
        rw [if_neg h3]
        rw [Nat.add_zero] at hst
        have hle := hst.le
        obtain ⟨r', rfl, hn, h''⟩ := hst.inv hr1
        have hle' := h''.le
        refine step21 hi (.inr rfl) hw (fun h => absurd rfl h) (fun _ => ?_)
        rw [bh, if_neg (by omega), wS (by omega)]
        refine skip21 hs h'' (col + 1) (by omega) (by omega) ?_
        have := ih (d - 1) (by omega) (i + m) ln (col + (r' + 1)) (i + m) (out ++ [wd k ((suf s i).extract 0 m) ln col]) (by omega) (by omega) (by omega) (by omega) (by simp; omega) (by omega)
        rw [map_snoc] at this
        rw [show col + 1 + r' = col + (r' + 1) by omega]
        exact this
theorem r21 (s : ByteArray) : Rn 21 [st s] (res (wordsOf s)) := by
  refine f21 _ _ (cd (fun h => ?_) (fun h => ?_))
  · rw [wordsOf, if_pos (by omega)]; rfl
  · rw [wordsOf, if_neg (by omega)]
    exact l12 s (by omega) s.size 0 1 1 0 [] (by omega) (by omega) (by omega) (by omega) (by simp) (by omega)
end Go.Proofs.YthcaodlfnlhfbaaGreatDoorT

/- The end of a text; two rows of words held against each other; what a program that does nothing answers wrongly. -/
namespace Go.Proofs.YthcaodlfnlhfbaaGreatDoorT
open Go Go.Proofs
set_option linter.unusedVariables false
def endp (s : ByteArray) : Nat → Nat → Int → Int → W_api_Pos
  | 0, i, a, b => ⟨a, b⟩
  | f + 1, i, a, b => if i < s.size then endp s f (i + (Utf8.decode s i).2) (bh a b (Utf8.decode s i).1).fLine (bh a b (Utf8.decode s i).1).fCol else ⟨a, b⟩
theorem endp_end {s : ByteArray} {f i : Nat} {a b : Int} (h : s.size ≤ i) : endp s f i a b = ⟨a, b⟩ := by
  cases f with
  | zero => rfl
  | succ f => rw [endp, if_neg (by omega)]
theorem go_suf {s : ByteArray} {i : Nat} (h : i < s.size) : Lib.decodeGo (suf s i) = Utf8.decode s i := by
  rw [dec_go, if_neg (by rw [size_suf]; omega), dec_suf, Nat.add_zero]
theorem lexR_len {s : ByteArray} : ∀ (d i ln col : Nat) (out : List W_glyph_Word), s.size ≤ i + d → out.length ≤ 3000 → (lexR s i ln col out).1.length ≤ 3000 := by
  intro d
  induction d using Nat.strongRecOn with
  | _ d ih =>
    intro i ln col out h ho
    rw [lexR_eq]
    split
    · exact ho
    · rename_i hi
      split
      · exact ih (d - 1) (by omega) _ _ _ _ (by omega) ho
      · rename_i h10
        split
        · exact ih (d - 1) (by omega) _ _ _ _ (by omega) ho
        · split
          · have := rem_pos (s := s) (i := i) (by omega) h10
            exact ih (d - 1) (by omega) _ _ _ _ (by omega) ho
          · split
            · simp
            · rename_i k n r hk
              have := (fst_stp (by rw [size_suf]; omega) hk).1.le
              have := (fst_stp (by rw [size_suf]; omega) hk).2.1
              split
              · simp
              · exact ih (d - 1) (by omega) _ _ _ _ (by omega) (by simp; omega)
theorem words_len (s : ByteArray) : (wordsOf s).1.length ≤ 3000 := by
  unfold wordsOf
  split
  · simp
  · exact lexR_len s.size 0 1 1 [] (by omega) (by simp)
def aw : ByteArray := bs [97, 60, 61, 49, 35, 120]
theorem aw_words : (wordsOf aw).2.2 = 0 ∧ (wordsOf aw).1.length = 3 ∧ (wordsOf aw).1[1]?.map W_glyph_Word.fText = some (bs [60, 61]) := by decide +kernel
theorem aw_name : nm (bs [209, 143, 49]) = true := by decide +kernel
end Go.Proofs.YthcaodlfnlhfbaaGreatDoorT

/- Behind a line feed all words are the same, one line further down. -/
namespace Go.Proofs.YthcaodlfnlhfbaaGreatDoorT
open Go Go.Proofs
set_option linter.unusedVariables false
section
variable {s t : ByteArray}
theorem bt_of_suf {i j : Nat} (h : suf s i = suf t j) (d : Nat) : bt s (i + d) = bt t (j + d) := by rw [← bt_suf, ← bt_suf, h]
theorem dec_of_suf {i j : Nat} (h : suf s i = suf t j) (d : Nat) : Utf8.decode s (i + d) = Utf8.decode t (j + d) := by rw [← dec_suf, ← dec_suf, h]
theorem size_of_suf {i j : Nat} (h : suf s i = suf t j) : s.size - i = t.size - j := by rw [← size_suf, ← size_suf, h]
theorem suf_of_suf {i j : Nat} (h : suf s i = suf t j) (d : Nat) : suf s (i + d) = suf t (j + d) := by rw [← suf_suf, ← suf_suf, h]
theorem rem_of_suf : ∀ (f i j k : Nat), suf s i = suf t j → i ≤ s.size → j ≤ t.size → ∃ e r, rem s f i k = (i + e, r) ∧ rem t f j k = (j + e, r) := by
  intro f
  induction f with
  | zero => intro i j k h hi hj; exact ⟨0, k, rfl, rfl⟩
  | succ f ih =>
    intro i j k h hi hj
    have hz := size_of_suf h
    have hb := bt_of_suf h 0
    have hd := dec_of_suf h 0
    simp only [Nat.add_zero] at hb hd
    rw [rem, rem]
    by_cases hc : i < s.size ∧ bt s i ≠ 10
    · rw [if_pos hc, if_pos (by omega), ← hd]
      have := dec_size hc.1
      obtain ⟨e, r, h1, h2⟩ := ih (i + (Utf8.decode s i).2) (j + (Utf8.decode s i).2) (k + 1) (suf_of_suf h _) (by omega) (by omega)
      exact ⟨(Utf8.decode s i).2 + e, r, by rw [h1, Nat.add_assoc], by rw [h2, Nat.add_assoc]⟩
    · rw [if_neg hc, if_neg (by omega)]
      exact ⟨0, k, rfl, rfl⟩
/-- Two words of the same kind and text; if P, one line apart. -/
def Like (P : Prop) (x y : W_glyph_Word) : Prop := x.fKind = y.fKind ∧ x.fText = y.fText ∧ (P → y.fAt_Line = x.fAt_Line + 1 ∧ y.fAt_Col = x.fAt_Col)
def LikeL (P : Prop) (xs ys : List W_glyph_Word) : Prop := xs.length = ys.length ∧ ∀ (k : Nat) (x y : W_glyph_Word), xs[k]? = some x → ys[k]? = some y → Like P x y
theorem LikeL.nil {P : Prop} : LikeL P [] [] := ⟨rfl, fun k x y h => by simp at h⟩
theorem LikeL.snoc {P : Prop} {xs ys : List W_glyph_Word} {x y : W_glyph_Word} (h : LikeL P xs ys) (hxy : Like P x y) : LikeL P (xs ++ [x]) (ys ++ [y]) := by
  refine ⟨by simp [h.1], fun k a b ha hb => ?_⟩
  rw [List.getElem?_append] at ha hb
  by_cases hk : k < xs.length
  · rw [if_pos hk] at ha
    rw [if_pos (by rw [← h.1]; exact hk)] at hb
    exact h.2 k a b ha hb
  · rw [if_neg hk] at ha
    rw [if_neg (by rw [← h.1]; exact hk), ← h.1] at hb
    cases hm : k - xs.length with
    | zero => rw [hm] at ha hb; simp at ha hb; subst ha hb; exact hxy
    | succ m => rw [hm] at ha; simp at ha
/-- What stands behind alike has words alike. -/
theorem lex_like {P : Prop} : ∀ (d i j ln ln' col col' : Nat) (out out' : List W_glyph_Word), s.size ≤ i + d → suf s i = suf t j → i ≤ s.size → j ≤ t.size → (P → ln' = ln + 1 ∧ col' = col) → LikeL P out out' →
    (lexR s i ln col out).2.2 = (lexR t j ln' col' out').2.2 ∧ LikeL P (lexR s i ln col out).1 (lexR t j ln' col' out').1 ∧
      (P → (lexR s i ln col out).2.2 ≠ 0 → (lexR t j ln' col' out').2.1.1 = (lexR s i ln col out).2.1.1 + 1 ∧ (lexR t j ln' col' out').2.1.2 = (lexR s i ln col out).2.1.2) := by
  intro d
  induction d using Nat.strongRecOn with
  | _ d ih =>
    intro i j ln ln' col col' out out' h hs hi hj hP ho
    have hz := size_of_suf hs
    have hb := bt_of_suf hs 0
    simp only [Nat.add_zero] at hb
    rw [lexR_eq (s := s), lexR_eq (s := t)]
    by_cases h0 : s.size ≤ i
    · have h0' : t.size ≤ j := by omega
      rw [if_pos h0, if_pos h0']
      exact ⟨rfl, ho, fun _ h => absurd rfl h⟩
    have h0' : ¬ t.size ≤ j := by omega
    rw [if_neg h0, if_neg h0', ← hb]
    by_cases h1 : bt s i = 10
    · rw [if_pos h1, if_pos h1]
      exact ih (d - 1) (by omega) _ _ _ _ _ _ _ _ (by omega) (suf_of_suf hs 1) (by omega) (by omega) (fun p => by have := hP p; omega) ho
    rw [if_neg h1, if_neg h1]
    by_cases h2 : bt s i = 32 ∨ bt s i = 9
    · rw [if_pos h2, if_pos h2]
      exact ih (d - 1) (by omega) _ _ _ _ _ _ _ _ (by omega) (suf_of_suf hs 1) (by omega) (by omega) (fun p => by have := hP p; omega) ho
    rw [if_neg h2, if_neg h2]
    by_cases h3 : bt s i = 35
    · rw [if_pos h3, if_pos h3]
      obtain ⟨e, r, e1, e2⟩ := rem_of_suf (s.size + t.size) i j 0 hs hi hj
      have hp := rem_pos (s := s) (i := i) (by omega) h1
      have hl := rem_le (s := s) s.size i 0 hi
      rw [rem_more s.size (s.size + t.size) i 0 (by omega) (by omega), e1] at hp hl ⊢
      rw [rem_more t.size (s.size + t.size) j 0 (by omega) (by omega), e2]
      simp only at hp hl ⊢
      exact ih (d - 1) (by omega) _ _ _ _ _ _ _ _ (by omega) (suf_of_suf hs e) (by omega) (by omega) (fun p => by have := hP p; omega) ho
    rw [if_neg h3, if_neg h3, ← hs, ← ho.1]
    cases hf : fst (suf s i) with
    | none => exact ⟨rfl, .nil, fun p _ => by have := hP p; simp only; omega⟩
    | some q =>
      obtain ⟨k, n, r⟩ := q
      obtain ⟨hst, hr1, hn1⟩ := fst_stp (by rw [size_suf]; omega) hf
      have hle := hst.le
      rw [size_suf] at hn1
      simp only
      by_cases h4 : out.length = 3000
      · rw [if_pos h4, if_pos h4]
        exact ⟨rfl, .nil, fun p _ => by have := hP p; simp only; omega⟩
      rw [if_neg h4, if_neg h4]
      exact ih (d - 1) (by omega) _ _ _ _ _ _ _ _ (by omega) (suf_of_suf hs n) (by omega) (by omega) (fun p => by have := hP p; omega)
        (ho.snoc ⟨rfl, rfl, fun p => by have := hP p; simp only [wd]; omega⟩)
/-- Lines are bounded. -/
theorem lex_bound {B : Nat} : ∀ (d i ln col : Nat) (out : List W_glyph_Word), s.size ≤ i + d → i ≤ s.size → ln ≤ i + 1 → s.size + 1 ≤ B → (∀ x ∈ out, 0 ≤ x.fAt_Line ∧ x.fAt_Line ≤ B) →
    (lexR s i ln col out).2.1.1 ≤ B ∧ ∀ x ∈ (lexR s i ln col out).1, 0 ≤ x.fAt_Line ∧ x.fAt_Line ≤ B := by
  intro d
  induction d using Nat.strongRecOn with
  | _ d ih =>
    intro i ln col out h hi hl hB ho
    rw [lexR_eq]
    split
    · exact ⟨Nat.zero_le _, ho⟩
    · rename_i h0
      split
      · exact ih (d - 1) (by omega) _ _ _ _ (by omega) (by omega) (by omega) hB ho
      · rename_i h1
        split
        · exact ih (d - 1) (by omega) _ _ _ _ (by omega) (by omega) (by omega) hB ho
        · split
          · have hp := rem_pos (s := s) (i := i) (by omega) h1
            have hr := rem_le (s := s) s.size i 0 hi
            exact ih (d - 1) (by omega) _ _ _ _ (by omega) (by omega) (by omega) hB ho
          · split
            · exact ⟨by simp only; omega, fun x hx => by simp at hx⟩
            · rename_i k n r hk
              obtain ⟨hst, hr1, hn1⟩ := fst_stp (by rw [size_suf]; omega) hk
              have hle := hst.le
              rw [size_suf] at hn1
              split
              · exact ⟨by simp only; omega, fun x hx => by simp at hx⟩
              · refine ih (d - 1) (by omega) _ _ _ _ (by omega) (by omega) (by omega) hB (fun x hx => ?_)
                rcases List.mem_append.1 hx with hx | hx
                · exact ho x hx
                · simp only [List.mem_singleton] at hx
                  subst hx
                  simp only [wd]; omega
theorem endp_like : ∀ (f i j a b : Nat), s.size ≤ i + f → suf s i = suf t j → i ≤ s.size → j ≤ t.size → a ≤ i + 1 → b ≤ i + 1 → s.size ≤ 8000 →
    (endp t f j ((a + 1 : Nat) : Int) b).fLine = (endp s f i a b).fLine + 1 ∧ (endp t f j ((a + 1 : Nat) : Int) b).fCol = (endp s f i a b).fCol ∧ 0 ≤ (endp s f i a b).fLine ∧ (endp s f i a b).fLine ≤ 8001 := by
  intro f
  induction f with
  | zero => intro i j a b h hs hi hj ha hb h8; show ((a + 1 : Nat) : Int) = (a : Int) + 1 ∧ (b : Int) = b ∧ 0 ≤ (a : Int) ∧ (a : Int) ≤ 8001; omega
  | succ f ih =>
    intro i j a b h hs hi hj ha hb h8
    have hz := size_of_suf hs
    have hd := dec_of_suf hs 0
    simp only [Nat.add_zero] at hd
    rw [endp, endp]
    by_cases h0 : i < s.size
    · have h0' : j < t.size := by omega
      rw [if_pos h0, if_pos h0', ← hd]
      have hsz := dec_size h0
      by_cases h1 : ((Utf8.decode s i).1 : Int) = 10
      · rw [bh, bh, if_pos h1, if_pos h1, wS (by omega), wS (by omega)]
        exact ih _ _ (a + 1) 1 (by omega) (suf_of_suf hs _) (by omega) (by omega) (by omega) (by omega) h8
      · rw [bh, bh, if_neg h1, if_neg h1, wS (by omega)]
        exact ih _ _ a (b + 1) (by omega) (suf_of_suf hs _) (by omega) (by omega) (by omega) (by omega) h8
    · have h0' : ¬ j < t.size := by omega
      rw [if_neg h0, if_neg h0']
      show ((a + 1 : Nat) : Int) = (a : Int) + 1 ∧ (b : Int) = b ∧ 0 ≤ (a : Int) ∧ (a : Int) ≤ 8001
      omega
end
end Go.Proofs.YthcaodlfnlhfbaaGreatDoorT

/- What is written of words, a blank behind each, has the same words. -/
namespace Go.Proofs.YthcaodlfnlhfbaaGreatDoorT
open Go Go.Proofs
set_option linter.unusedVariables false
theorem decN_two {n b0 b1 b2 b3 : Nat} (h : 1072 ≤ (Lib.decodeN n b0 b1 b2 b3).1 ∧ (Lib.decodeN n b0 b1 b2 b3).1 ≤ 1103) (h0 : ¬ b0 < 128) :
    b0 / 32 = 6 ∧ (1 < n ∧ b1 / 64 = 2) ∧ b0 % 32 * 64 + b1 % 64 ≥ 128 ∧ Lib.decodeN n b0 b1 b2 b3 = (b0 % 32 * 64 + b1 % 64, 2) := by
  unfold Lib.decodeN at h ⊢
  rw [if_neg h0] at h ⊢
  by_cases h2 : b0 / 32 = 6 ∧ (1 < n ∧ b1 / 64 = 2)
  · rw [if_pos h2] at h ⊢
    by_cases h3 : b0 % 32 * 64 + b1 % 64 ≥ 128
    · rw [if_pos h3]; exact ⟨h2.1, h2.2, h3, rfl⟩
    · rw [if_neg h3] at h; simp only at h; omega
  · rw [if_neg h2] at h
    exfalso
    repeat' split at h
    all_goals (simp only at h; omega)
theorem decN_of_two {n b0 b1 b2 b3 : Nat} (h0 : ¬ b0 < 128) (h2 : b0 / 32 = 6) (h1 : 1 < n ∧ b1 / 64 = 2) (h3 : b0 % 32 * 64 + b1 % 64 ≥ 128) : Lib.decodeN n b0 b1 b2 b3 = (b0 % 32 * 64 + b1 % 64, 2) := by
  unfold Lib.decodeN
  rw [if_neg h0, if_pos ⟨h2, h1⟩, if_pos h3]
section
variable {t T : ByteArray}
theorem dec_again {n i : Nat} (hN : n ≤ T.size) (hb : ∀ j, j < n → bt T j = bt t j) (hi : i < n) (hins : ins (Utf8.decode t i).1 = true) (hle : i + (Utf8.decode t i).2 ≤ n) : Utf8.decode T i = Utf8.decode t i := by
  have h0 := hb i hi
  by_cases hlow : bt t i < 128
  · rw [dec_low hlow, dec_low (by omega), h0]
  · have hr : 1072 ≤ (Utf8.decode t i).1 ∧ (Utf8.decode t i).1 ≤ 1103 := by
      have := dec_high (s := t) (i := i) (by omega)
      simp [ins, ltr, dig] at hins
      omega
    rw [dec_eq] at hr hle
    rw [dec_eq, dec_eq]
    obtain ⟨e1, e2, e3, e4⟩ := decN_two hr hlow
    rw [e4] at hle
    simp only at hle
    have h1 := hb (i + 1) (by omega)
    rw [e4, h0, h1]
    exact decN_of_two hlow e1 ⟨by omega, e2.2⟩ e3
theorem ins32 : ins ((32 : Nat) : Int) = false := by decide
theorem run_again {n : Nat} (hn : n ≤ t.size) (hN : n < T.size) (hb : ∀ j, j < n → bt T j = bt t j) (h32 : bt T n = 32) : ∀ (f g i k : Nat), t.size ≤ i + f → T.size ≤ i + g → (run t f i k).1 = n → i ≤ n → run T g i k = run t f i k := by
  have stop : ∀ (g k : Nat), run T g n k = (n, k) := by
    intro g k
    cases g with
    | zero => rfl
    | succ g => rw [run, if_neg]; rw [dec_low (by omega), h32]; simp only; rw [ins32]; simp
  intro f
  induction f with
  | zero =>
    intro g i k h h' hr hi
    rw [run] at hr ⊢
    simp only at hr
    subst hr
    exact stop g k
  | succ f ih =>
    intro g i k h h' hr hi
    rw [run] at hr ⊢
    by_cases hc : i < t.size ∧ ins (Utf8.decode t i).1 = true
    · rw [if_pos hc] at hr ⊢
      have hz := dec_size hc.1
      have hle := run_le (t := t) f (i + (Utf8.decode t i).2) (k + 1) hz.2
      have hd := dec_again (t := t) (T := T) (n := n) (i := i) (by omega) hb (by omega) hc.2 (by omega)
      cases g with
      | zero => omega
      | succ g =>
        rw [run, hd, if_pos ⟨by omega, hc.2⟩]
        exact ih g _ _ (by omega) (by omega) hr (by omega)
    · rw [if_neg hc] at hr ⊢
      simp only at hr
      subst hr
      exact stop g k
theorem pre_of_bt {n : Nat} (hn : n ≤ t.size) (hN : n ≤ T.size) (hb : ∀ j, j < n → bt T j = bt t j) : T.extract 0 n = t.extract 0 n := by
  refine ext_bl ?_
  rw [bl_extract, bl_extract, List.drop_zero, List.drop_zero]
  refine List.ext_getElem (by rw [List.length_take, List.length_take, bl_len, bl_len]; omega) (fun j h1 h2 => ?_)
  rw [List.length_take, bl_len] at h1
  rw [List.getElem_take, List.getElem_take]
  have := hb j (by omega)
  unfold bt at this
  rw [List.getD_eq_getElem?_getD, List.getD_eq_getElem?_getD, List.getElem?_eq_getElem (by rw [bl_len]; omega), List.getElem?_eq_getElem (by rw [bl_len]; omega)] at this
  exact UInt8.toNat_inj.1 this
theorem sgn_low (h : sgn t ≠ 0) : bt t 0 < 128 ∧ ltr (bt t 0 : Nat) = false ∧ dig (bt t 0 : Nat) = false ∧ bt t 0 ≠ 10 ∧ bt t 0 ≠ 32 ∧ bt t 0 ≠ 9 ∧ bt t 0 ≠ 35 := by
  unfold sgn at h
  have : bt t 0 = 61 ∨ bt t 0 = 33 ∨ bt t 0 = 60 ∨ bt t 0 = 38 ∨ bt t 0 = 124 ∨ bt t 0 = 123 ∨ bt t 0 = 125 ∨ bt t 0 = 40 ∨ bt t 0 = 41 ∨ bt t 0 = 43 ∨ bt t 0 = 45 ∨ bt t 0 = 42 := by
    split at h
    · omega
    · split at h
      · omega
      · exact absurd rfl h
  refine ⟨by omega, ?_, ?_, by omega, by omega, by omega, by omega⟩
  · simp [ltr]; omega
  · simp [dig]; omega
theorem fst_first {k n r : Nat} (h0 : 0 < t.size) (h : fst t = some (k, n, r)) : bt t 0 ≠ 10 ∧ bt t 0 ≠ 32 ∧ bt t 0 ≠ 9 ∧ bt t 0 ≠ 35 := by
  have hgo : Lib.decodeGo t = Utf8.decode t 0 := by rw [dec_go, if_neg (by omega)]
  have low : ∀ c, c < 128 → ltr ((c : Nat) : Int) = false → dig ((c : Nat) : Int) = false → (ltr (Lib.decodeGo t).1 = true ∨ dig (Lib.decodeGo t).1 = true) → bt t 0 ≠ c := by
    intro c hc h1 h2 h3 e
    rw [hgo, (dec_asc hc).2 e, h1, h2] at h3
    simp at h3
  unfold fst at h
  split at h
  · rename_i hl
    exact ⟨low 10 (by omega) (by decide) (by decide) (.inl hl), low 32 (by omega) (by decide) (by decide) (.inl hl), low 9 (by omega) (by decide) (by decide) (.inl hl), low 35 (by omega) (by decide) (by decide) (.inl hl)⟩
  · split at h
    · rename_i hl
      exact ⟨low 10 (by omega) (by decide) (by decide) (.inr hl), low 32 (by omega) (by decide) (by decide) (.inr hl), low 9 (by omega) (by decide) (by decide) (.inr hl), low 35 (by omega) (by decide) (by decide) (.inr hl)⟩
    · split at h
      · cases h
      · rename_i hs
        have := sgn_low hs
        omega
theorem fst_again {k n r : Nat} (h0 : 0 < t.size) (h : fst t = some (k, n, r)) (hN : n < T.size) (hb : ∀ j, j < n → bt T j = bt t j) (h32 : bt T n = 32) : fst T = some (k, n, r) ∧ T.extract 0 n = t.extract 0 n := by
  obtain ⟨hst, hr1, hn1⟩ := fst_stp h0 h
  have hle := hst.le
  have hx := pre_of_bt (t := t) (T := T) (n := n) hn1 (by omega) hb
  refine ⟨?_, hx⟩
  have hgo : Lib.decodeGo t = Utf8.decode t 0 := by rw [dec_go, if_neg (by omega)]
  have hgo' : Lib.decodeGo T = Utf8.decode T 0 := by rw [dec_go, if_neg (by omega)]
  have hins : ins (Utf8.decode t 0).1 = true → (run t t.size 0 0).1 = n → Utf8.decode T 0 = Utf8.decode t 0 ∧ run T T.size 0 0 = run t t.size 0 0 := by
    intro hi hr
    refine ⟨?_, run_again hn1 hN hb h32 t.size T.size 0 0 (by omega) (by omega) hr (by omega)⟩
    refine dec_again (n := n) (by omega) hb (by omega) hi ?_
    obtain ⟨f, hf⟩ : ∃ f, t.size = f + 1 := ⟨t.size - 1, by omega⟩
    have := run_le (t := t) f (0 + (Utf8.decode t 0).2) (0 + 1) (by have := dec_size h0; omega)
    rw [hf, run, if_pos ⟨h0, hi⟩] at hr
    omega
  unfold fst at h ⊢
  rw [hgo] at h
  rw [hgo']
  split at h
  · rename_i hl
    split at h
    · rename_i hn
      simp only [Option.some.injEq, Prod.mk.injEq] at h
      obtain ⟨rfl, hn', hr'⟩ := h
      obtain ⟨e1, e2⟩ := hins (ltr_ins hl) hn'
      rw [hn'] at hn
      rw [e1, if_pos hl, e2, hn', hx, if_pos hn, hr']
    · cases h
  · rename_i hl
    split at h
    · rename_i hd
      split at h
      · rename_i hn
        simp only [Option.some.injEq, Prod.mk.injEq] at h
        obtain ⟨rfl, hn', hr'⟩ := h
        obtain ⟨e1, e2⟩ := hins (by simp [ins, hd]) hn'
        rw [hn'] at hn
        rw [e1, if_neg hl, if_pos hd, e2, hn', hx, if_pos hn, hr']
      · cases h
    · rename_i hd
      split at h
      · cases h
      · rename_i hs
        simp only [Option.some.injEq, Prod.mk.injEq] at h
        obtain ⟨rfl, rfl, hr'⟩ := h
        have hlow := sgn_low hs
        have hb0 := hb 0 (by omega)
        have hd0 : Utf8.decode T 0 = (bt t 0, 1) := by rw [dec_low (by omega), hb0]
        have hsg : sgn T = sgn t := by
          by_cases h2 : sgn t = 2
          · have hb1 := hb 1 (by omega)
            unfold sgn at h2 ⊢
            split at h2
            · rename_i hc
              rw [if_pos (by omega), if_pos hc]
            · split at h2 <;> omega
          · have h1 : sgn t = 1 := by unfold sgn at h2 hs ⊢; repeat' split <;> simp_all
            have hb1 : bt T 1 = 32 := by rw [h1] at h32; exact h32
            have : bt t 0 = 123 ∨ bt t 0 = 125 ∨ bt t 0 = 40 ∨ bt t 0 = 41 ∨ bt t 0 = 61 ∨ bt t 0 = 33 ∨ bt t 0 = 60 ∨ bt t 0 = 43 ∨ bt t 0 = 45 ∨ bt t 0 = 42 := by
              unfold sgn at h1
              split at h1
              · omega
              · split at h1
                · assumption
                · omega
            rw [h1]
            unfold sgn
            rw [if_neg (by omega), if_pos (by omega)]
        rw [hd0]
        simp only
        rw [hlow.2.1, hlow.2.2.1, hsg, if_neg (by simp), if_neg (by simp), if_neg hs]
        simp [hr']
end
/-- A word as a text begins with it. -/
def Wd (x : W_glyph_Word) : Prop := ∃ (t : ByteArray) (k n r : Nat), 0 < t.size ∧ fst t = some (k, n, r) ∧ x.fKind = k ∧ x.fText = t.extract 0 n
theorem lex_words {s : ByteArray} : ∀ (d i ln col : Nat) (out : List W_glyph_Word), s.size ≤ i + d → i ≤ s.size → (∀ x ∈ out, Wd x ∧ x.fText.size ≤ s.size) → ∀ x ∈ (lexR s i ln col out).1, Wd x ∧ x.fText.size ≤ s.size := by
  intro d
  induction d using Nat.strongRecOn with
  | _ d ih =>
    intro i ln col out h hi ho
    rw [lexR_eq]
    split
    · exact ho
    · rename_i h0
      split
      · exact ih (d - 1) (by omega) _ _ _ _ (by omega) (by omega) ho
      · rename_i h1
        split
        · exact ih (d - 1) (by omega) _ _ _ _ (by omega) (by omega) ho
        · split
          · have hp := rem_pos (s := s) (i := i) (by omega) h1
            have hr := rem_le (s := s) s.size i 0 hi
            exact ih (d - 1) (by omega) _ _ _ _ (by omega) (by omega) ho
          · split
            · exact fun x hx => by simp at hx
            · rename_i k n r hk
              obtain ⟨hst, hr1, hn1⟩ := fst_stp (by rw [size_suf]; omega) hk
              have hle := hst.le
              rw [size_suf] at hn1
              split
              · exact fun x hx => by simp at hx
              · refine ih (d - 1) (by omega) _ _ _ _ (by omega) (by omega) (fun x hx => ?_)
                rcases List.mem_append.1 hx with hx | hx
                · exact ho x hx
                · simp only [List.mem_singleton] at hx
                  subst hx
                  refine ⟨⟨suf s i, k, n, r, by rw [size_suf]; omega, hk, rfl, rfl⟩, ?_⟩
                  show ((suf s i).extract 0 n).size ≤ s.size
                  rw [size_pre _ (by rw [size_suf]; omega)]
                  omega
theorem words_wd (s : ByteArray) : ∀ x ∈ (wordsOf s).1, Wd x ∧ x.fText.size ≤ 12000 := by
  unfold wordsOf
  split
  · exact fun x hx => by simp at hx
  · intro x hx
    have := lex_words s.size 0 1 1 [] (by omega) (by omega) (fun x hx => by simp at hx) x hx
    exact ⟨this.1, by omega⟩
/-- What is written of the words. -/
def cat : List W_glyph_Word → ByteArray
  | [] => bs []
  | x :: l => (x.fText ++ bs [32]) ++ cat l
theorem bl_cat_cons (x : W_glyph_Word) (l : List W_glyph_Word) : bl (cat (x :: l)) = bl x.fText ++ 32 :: bl (cat l) := by
  rw [cat, bl_append, bl_append]; simp [bl, bs]
theorem lex_again {T : ByteArray} : ∀ (l : List W_glyph_Word) (i ln col : Nat) (pre out : List W_glyph_Word), suf T i = cat l → i ≤ T.size → (∀ x ∈ l, Wd x) → out.length + l.length ≤ 3000 → LikeL False pre out →
    (lexR T i ln col out).2.2 = 0 ∧ LikeL False (pre ++ l) (lexR T i ln col out).1 := by
  intro l
  induction l with
  | nil =>
    intro i ln col pre out hs hi hw hl ho
    have hz : (suf T i).size = 0 := by rw [hs]; rfl
    rw [size_suf] at hz
    rw [lexR_eq, if_pos (by omega), List.append_nil]
    exact ⟨rfl, ho⟩
  | cons x l ih =>
    intro i ln col pre out hs hi hw hl ho
    obtain ⟨t, k, n, r, h0, hf, hk, ht⟩ := hw x (.head _)
    obtain ⟨hst, hr1, hn1⟩ := fst_stp h0 hf
    have hle := hst.le
    have hbl : bl (suf T i) = (bl t).take n ++ 32 :: bl (cat l) := by
      rw [hs, bl_cat_cons, ht, bl_extract, List.drop_zero]
    have htl : ((bl t).take n).length = n := by rw [List.length_take, bl_len]; omega
    have hsz : (suf T i).size = n + 1 + (bl (cat l)).length := by
      rw [← bl_len, hbl, List.length_append, htl]; simp; omega
    have hb : ∀ j, j < n → bt (suf T i) j = bt t j := by
      intro j hj
      unfold bt
      rw [hbl, List.getD_eq_getElem?_getD, List.getElem?_append, if_pos (by omega), List.getElem?_take, if_pos hj, ← List.getD_eq_getElem?_getD]
    have h32 : bt (suf T i) n = 32 := by
      unfold bt
      rw [hbl, List.getD_eq_getElem?_getD, List.getElem?_append, if_neg (by omega), htl]
      simp
    obtain ⟨hF, hX⟩ := fst_again h0 hf (by omega) hb h32
    have hfst := fst_first (by omega : 0 < (suf T i).size) hF
    rw [bt_suf, Nat.add_zero] at hfst
    have hsz' := hsz
    rw [size_suf] at hsz'
    rw [lexR_eq, if_neg (by omega), if_neg hfst.1, if_neg (by omega), if_neg hfst.2.2.2, hF]
    simp only
    simp only [List.length_cons] at hl
    rw [if_neg (by omega), lexR_eq]
    have hbn : bt T (i + n) = 32 := by rw [← bt_suf]; exact h32
    rw [if_neg (by omega), if_neg (by omega), if_pos (.inl hbn)]
    have hs' : suf T (i + n + 1) = cat l := by
      refine ext_bl ?_
      rw [Nat.add_assoc, ← suf_suf, bl_suf, hbl, List.drop_append, htl]
      rw [List.drop_eq_nil_of_le (by omega), show n + 1 - n = 1 by omega]
      rfl
    have := ih (i + n + 1) ln (col + r + 1) (pre ++ [x]) (out ++ [wd k ((suf T i).extract 0 n) ln col]) hs' (by omega) (fun y hy => hw y (.tail _ hy)) (by simp; omega)
      (ho.snoc ⟨hk, by rw [ht]; exact hX.symm, fun h => h.elim⟩)
    rw [List.append_assoc] at this
    exact this
theorem cat_size : ∀ (l : List W_glyph_Word), (∀ x ∈ l, x.fText.size ≤ 12000) → (cat l).size ≤ 12001 * l.length
  | [], h => by rw [← bl_len]; simp [cat, bl, bs]
  | x :: l, h => by
    have h1 := h x (.head _)
    have h2 := cat_size l (fun y hy => h y (.tail _ hy))
    rw [← bl_len, bl_cat_cons, List.length_append, List.length_cons, bl_len, bl_len, List.length_cons]
    omega
end Go.Proofs.YthcaodlfnlhfbaaGreatDoorT

/- A remark says nothing. -/
namespace Go.Proofs.YthcaodlfnlhfbaaGreatDoorT
open Go Go.Proofs
set_option linter.unusedVariables false
theorem decN_ag {n n' b0 b1 b2 b3 c1 c2 c3 : Nat} (h : (b1 = 10 ∧ c1 = 10) ∨ (b1 = c1 ∧ 1 < n ∧ 1 < n' ∧ ((b2 = 10 ∧ c2 = 10) ∨ (b2 = c2 ∧ 2 < n ∧ 2 < n' ∧ ((b3 = 10 ∧ c3 = 10) ∨ (b3 = c3 ∧ 3 < n ∧ 3 < n')))))) :
    Lib.decodeN n b0 b1 b2 b3 = Lib.decodeN n' b0 c1 c2 c3 := by
  rcases h with ⟨rfl, rfl⟩ | ⟨rfl, h1, h2, ⟨rfl, rfl⟩ | ⟨rfl, h3, h4, ⟨rfl, rfl⟩ | ⟨rfl, h5, h6⟩⟩⟩
  · simp [Lib.decodeN]
  · simp [Lib.decodeN, h1, h2]
  · simp [Lib.decodeN, h1, h2, h3, h4]
  · simp [Lib.decodeN, h1, h2, h3, h4, h5, h6]
theorem decN_stay (n b0 b1 b2 b3 : Nat) : (Lib.decodeN n b0 b1 b2 b3).2 ≤ 4 ∧ (b1 = 10 → (Lib.decodeN n b0 b1 b2 b3).2 ≤ 1) ∧ (b2 = 10 → (Lib.decodeN n b0 b1 b2 b3).2 ≤ 2) ∧ (b3 = 10 → (Lib.decodeN n b0 b1 b2 b3).2 ≤ 3) := by
  unfold Lib.decodeN
  repeat' split
  all_goals (simp only; omega)
/-- Two texts that agree up to a line feed. -/
structure Ag (s t : ByteArray) (m : Nat) : Prop where
  ls : m < s.size
  lt : m < t.size
  nl : bt s m = 10
  eq : ∀ j, j ≤ m → bt s j = bt t j
section
variable {s t : ByteArray} {m : Nat}
theorem Ag.dec (h : Ag s t m) {i : Nat} (hi : i ≤ m) : Utf8.decode s i = Utf8.decode t i := by
  have h1 := h.ls
  have h2 := h.lt
  have hn := h.nl
  have hn' : bt t m = 10 := by rw [← h.eq m (Nat.le_refl _)]; exact hn
  rw [dec_eq, dec_eq, ← h.eq i hi]
  rcases Nat.lt_or_ge m (i + 1) with h3 | h3
  · have : i = m := by omega
    subst this
    rw [hn]
    simp [Lib.decodeN]
  refine decN_ag ?_
  rcases Nat.lt_or_ge m (i + 2) with h4 | h4
  · have : i + 1 = m := by omega
    subst this
    exact .inl ⟨hn, hn'⟩
  refine .inr ⟨h.eq _ (by omega), by omega, by omega, ?_⟩
  rcases Nat.lt_or_ge m (i + 3) with h5 | h5
  · have : i + 2 = m := by omega
    subst this
    exact .inl ⟨hn, hn'⟩
  refine .inr ⟨h.eq _ (by omega), by omega, by omega, ?_⟩
  exact .inr ⟨h.eq _ (by omega), by omega, by omega⟩
theorem dec_stay {i : Nat} (hi : i < m) (hn : bt s m = 10) : i + (Utf8.decode s i).2 ≤ m := by
  rw [dec_eq]
  obtain ⟨h1, h2, h3, h4⟩ := decN_stay (s.size - i) (bt s i) (bt s (i + 1)) (bt s (i + 2)) (bt s (i + 3))
  rcases Nat.lt_or_ge m (i + 2) with g | g
  · have : i + 1 = m := by omega
    subst this
    have := h2 hn; omega
  rcases Nat.lt_or_ge m (i + 3) with g' | g'
  · have : i + 2 = m := by omega
    subst this
    have := h3 hn; omega
  rcases Nat.lt_or_ge m (i + 4) with g2 | g2
  · have : i + 3 = m := by omega
    subst this
    have := h4 hn; omega
  omega
/-- A remark goes up to the next line feed. -/
theorem rem_to {q : Nat} (hq : q < s.size) (hn : bt s q = 10) : ∀ (d i f k : Nat), q ≤ i + d → i ≤ q → (∀ j, i ≤ j → j < q → bt s j ≠ 10) → s.size ≤ i + f → (rem s f i k).1 = q := by
  intro d
  induction d using Nat.strongRecOn with
  | _ d ih =>
    intro i f k h hi hj hf
    rcases Nat.lt_or_ge i q with g | g
    · obtain ⟨f, rfl⟩ : ∃ f', f = f' + 1 := ⟨f - 1, by omega⟩
      have hst := dec_stay (s := s) g hn
      have hz := dec_size (s := s) (i := i) (by omega)
      rw [rem, if_pos ⟨by omega, hj i (by omega) g⟩]
      exact ih (d - 1) (by omega) _ _ _ (by omega) (by omega) (fun j h1 h2 => hj j (by omega) h2) (by omega)
    · have : i = q := by omega
      subst this
      rw [rem_end (by omega)]
theorem Ag.rem (h : Ag s t m) : ∀ (d i f g k : Nat), m ≤ i + d → i ≤ m → s.size ≤ i + f → t.size ≤ i + g → rem s f i k = rem t g i k ∧ (rem s f i k).1 ≤ m := by
  have h1 := h.ls
  have h2 := h.lt
  intro d
  induction d using Nat.strongRecOn with
  | _ d ih =>
    intro i f g k hd hi hf hg
    have hb := h.eq i hi
    by_cases hc : bt s i = 10
    · rw [rem_end (by omega), rem_end (by omega)]
      exact ⟨rfl, hi⟩
    · have hlt : i < m := by
        rcases Nat.lt_or_ge i m with g | g
        · exact g
        · have : i = m := by omega
          subst this
          exact absurd h.nl hc
      obtain ⟨f, rfl⟩ : ∃ f', f = f' + 1 := ⟨f - 1, by omega⟩
      obtain ⟨g, rfl⟩ : ∃ g', g = g' + 1 := ⟨g - 1, by omega⟩
      have hst := dec_stay (s := s) hlt h.nl
      have hz := dec_size (s := s) (i := i) (by omega)
      have hdc := h.dec hi
      rw [Go.Proofs.YthcaodlfnlhfbaaGreatDoorT.rem, Go.Proofs.YthcaodlfnlhfbaaGreatDoorT.rem, if_pos ⟨by omega, hc⟩, if_pos ⟨by omega, by omega⟩, ← hdc]
      exact ih (d - 1) (by omega) _ _ _ _ (by omega) (by omega) (by omega) (by omega)
theorem Ag.run (h : Ag s t m) : ∀ (d i f g k : Nat), m ≤ i + d → i ≤ m → s.size ≤ i + f → t.size ≤ i + g → run s f i k = run t g i k ∧ (run s f i k).1 ≤ m := by
  have h1 := h.ls
  have h2 := h.lt
  intro d
  induction d using Nat.strongRecOn with
  | _ d ih =>
    intro i f g k hd hi hf hg
    have hdc := h.dec hi
    obtain ⟨f, rfl⟩ : ∃ f', f = f' + 1 := ⟨f - 1, by omega⟩
    obtain ⟨g, rfl⟩ : ∃ g', g = g' + 1 := ⟨g - 1, by omega⟩
    rw [Go.Proofs.YthcaodlfnlhfbaaGreatDoorT.run, Go.Proofs.YthcaodlfnlhfbaaGreatDoorT.run, ← hdc]
    by_cases hc : ins (Utf8.decode s i).1 = true
    · have hlt : i < m := by
        rcases Nat.lt_or_ge i m with g | g
        · exact g
        · have : i = m := by omega
          subst this
          rw [dec_low (by rw [h.nl]; omega), h.nl] at hc
          exact absurd hc (by decide)
      have hst := dec_stay (s := s) hlt h.nl
      have hz := dec_size (s := s) (i := i) (by omega)
      rw [if_pos ⟨by omega, hc⟩, if_pos ⟨by omega, hc⟩]
      exact ih (d - 1) (by omega) _ _ _ _ (by omega) (by omega) (by omega) (by omega)
    · rw [if_neg (fun h => hc h.2), if_neg (fun h => hc h.2)]
      exact ⟨rfl, hi⟩
theorem Ag.suf (h : Ag s t m) {i : Nat} (hi : i ≤ m) : Ag (suf s i) (suf t i) (m - i) := by
  have h1 := h.ls
  have h2 := h.lt
  refine ⟨by rw [size_suf]; omega, by rw [size_suf]; omega, ?_, fun j hj => ?_⟩
  · rw [bt_suf, show i + (m - i) = m by omega]; exact h.nl
  · rw [bt_suf, bt_suf]; exact h.eq _ (by omega)
theorem Ag.fst (h : Ag s t m) (hm : 0 < m) : fst s = fst t ∧ ∀ k n r, fst s = some (k, n, r) → n ≤ m ∧ t.extract 0 n = s.extract 0 n := by
  have h1 := h.ls
  have h2 := h.lt
  have hgo : Lib.decodeGo s = Utf8.decode s 0 := by rw [dec_go, if_neg (by omega)]
  have hgo' : Lib.decodeGo t = Utf8.decode t 0 := by rw [dec_go, if_neg (by omega)]
  have hd := h.dec (Nat.zero_le m)
  obtain ⟨hr, hle⟩ := h.run m 0 s.size t.size 0 (by omega) (by omega) (by omega) (by omega)
  have hx : ∀ n, n ≤ m → t.extract 0 n = s.extract 0 n := fun n hn => pre_of_bt (by omega) (by omega) (fun j hj => (h.eq j (by omega)).symm)
  have hb0 := h.eq 0 (by omega)
  have hb1 := h.eq 1 (by omega)
  have hsg : sgn s = sgn t := by
    unfold sgn
    rw [hb0, hb1]
    simp only [show (1 < s.size) = (1 < t.size) from propext ⟨fun _ => by omega, fun _ => by omega⟩]
  have hsm : sgn s ≤ m := by
    unfold sgn
    split
    · rename_i hc
      rcases Nat.lt_or_ge m 2 with g | g
      · have : m = 1 := by omega
        subst this
        have := h.nl
        omega
      · exact g
    · split <;> omega
  unfold Go.Proofs.YthcaodlfnlhfbaaGreatDoorT.fst
  rw [hgo, hgo', ← hd, ← hr, ← hsg, hx _ hle]
  refine ⟨rfl, fun k n r hk => ?_⟩
  have : n ≤ m := by
    repeat' split at hk
    all_goals simp only [Option.some.injEq, Prod.mk.injEq, reduceCtorEq] at hk
    all_goals omega
  exact ⟨this, hx n this⟩
/-- Up to the line feed the same words; or both behind it. -/
theorem Ag.lex (h : Ag s t m) : ∀ (d i ln col : Nat) (out : List W_glyph_Word), m ≤ i + d → i ≤ m →
    lexR s i ln col out = lexR t i ln col out ∨ ∃ ln' out', lexR s i ln col out = lexR s (m + 1) ln' 1 out' ∧ lexR t i ln col out = lexR t (m + 1) ln' 1 out' := by
  have h1 := h.ls
  have h2 := h.lt
  intro d
  induction d using Nat.strongRecOn with
  | _ d ih =>
    intro i ln col out hd hi
    have hb := h.eq i hi
    rw [lexR_eq (s := s) (i := i), lexR_eq (s := t) (i := i), if_neg (show ¬ s.size ≤ i by omega), if_neg (show ¬ t.size ≤ i by omega), ← hb]
    by_cases h10 : bt s i = 10
    · rw [if_pos h10, if_pos h10]
      rcases Nat.lt_or_ge i m with g | g
      · exact ih (d - 1) (by omega) _ _ _ _ (by omega) (by omega)
      · have : i = m := by omega
        subst this
        exact .inr ⟨_, _, rfl, rfl⟩
    have hlt : i < m := by
      rcases Nat.lt_or_ge i m with g | g
      · exact g
      · have : i = m := by omega
        subst this
        exact absurd h.nl h10
    rw [if_neg h10, if_neg h10]
    by_cases hsp : bt s i = 32 ∨ bt s i = 9
    · rw [if_pos hsp, if_pos hsp]
      exact ih (d - 1) (by omega) _ _ _ _ (by omega) (by omega)
    rw [if_neg hsp, if_neg hsp]
    by_cases h35 : bt s i = 35
    · rw [if_pos h35, if_pos h35]
      obtain ⟨hr, hle⟩ := h.rem m i s.size t.size 0 (by omega) hi (by omega) (by omega)
      have hp := rem_pos (s := s) (i := i) (by omega) h10
      rw [← hr]
      exact ih (d - 1) (by omega) _ _ _ _ (by omega) hle
    rw [if_neg h35, if_neg h35]
    obtain ⟨hf, hn⟩ := (h.suf hi).fst (by omega)
    rw [← hf]
    cases hq : Go.Proofs.YthcaodlfnlhfbaaGreatDoorT.fst (Go.Proofs.YthcaodlfnlhfbaaGreatDoorT.suf s i) with
    | none => exact .inl rfl
    | some q =>
      obtain ⟨k, n, r⟩ := q
      obtain ⟨hst, hr1, hn1⟩ := fst_stp (by rw [size_suf]; omega) hq
      have hle := hst.le
      obtain ⟨hnm, hx⟩ := hn k n r hq
      simp only
      by_cases h3 : out.length = 3000
      · rw [if_pos h3, if_pos h3]; exact .inl rfl
      · rw [if_neg h3, if_neg h3, hx]
        exact ih (d - 1) (by omega) _ _ _ _ (by omega) (by omega)
end
theorem lex_err {s : ByteArray} : ∀ (d i ln col : Nat) (out : List W_glyph_Word), s.size ≤ i + d → i ≤ s.size → (lexR s i ln col out).2.2 ≠ 0 → (lexR s i ln col out).1 = [] := by
  intro d
  induction d using Nat.strongRecOn with
  | _ d ih =>
    intro i ln col out h hi
    rw [lexR_eq]
    split
    · exact fun h => absurd rfl h
    · rename_i h0
      split
      · exact ih (d - 1) (by omega) _ _ _ _ (by omega) (by omega)
      · rename_i h1
        split
        · exact ih (d - 1) (by omega) _ _ _ _ (by omega) (by omega)
        · split
          · have hp := rem_pos (s := s) (i := i) (by omega) h1
            have hr := rem_le (s := s) s.size i 0 hi
            exact ih (d - 1) (by omega) _ _ _ _ (by omega) (by omega)
          · split
            · exact fun _ => rfl
            · rename_i k n r hk
              obtain ⟨hst, hr1, hn1⟩ := fst_stp (by rw [size_suf]; omega) hk
              have hle := hst.le
              rw [size_suf] at hn1
              split
              · exact fun _ => rfl
              · exact ih (d - 1) (by omega) _ _ _ _ (by omega) (by omega)
theorem words_err (s : ByteArray) : (wordsOf s).2.2 ≠ 0 → (wordsOf s).1 = [] := by
  unfold wordsOf
  split
  · exact fun _ => rfl
  · exact lex_err s.size 0 1 1 [] (by omega) (by omega)
theorem LikeL.rfl' {xs : List W_glyph_Word} : LikeL False xs xs := ⟨rfl, fun k x y hx hy => by rw [hx] at hy; cases hy; exact ⟨rfl, rfl, fun h => h.elim⟩⟩
theorem remarks_like {s r u : ByteArray} (hs : s.size ≤ 3000) (hr : r.size ≤ 3000) (hu : u.size ≤ 3000) (hn : ∀ j, j < r.size → bt r j ≠ 10) :
    (wordsOf ((s ++ bs [10]) ++ u)).2.2 = (wordsOf ((((s ++ bs [10, 35]) ++ r) ++ bs [10]) ++ u)).2.2 ∧ LikeL False (wordsOf ((s ++ bs [10]) ++ u)).1 (wordsOf ((((s ++ bs [10, 35]) ++ r) ++ bs [10]) ++ u)).1 := by
  have la := bl_len s
  have lr := bl_len r
  have lu := bl_len u
  generalize hA : (s ++ bs [10]) ++ u = A
  generalize hB : (((s ++ bs [10, 35]) ++ r) ++ bs [10]) ++ u = B
  have bA : bl A = bl s ++ 10 :: bl u := by rw [← hA, bl_append, bl_append]; simp [bl, bs]
  have bB : bl B = bl s ++ 10 :: 35 :: (bl r ++ 10 :: bl u) := by rw [← hB, bl_append, bl_append, bl_append, bl_append]; simp [bl, bs]
  have zA : A.size = s.size + 1 + u.size := by rw [← bl_len, bA, List.length_append, List.length_cons]; omega
  have zB : B.size = s.size + 3 + r.size + u.size := by rw [← bl_len, bB, List.length_append, List.length_cons, List.length_cons, List.length_append, List.length_cons]; omega
  have gA : ∀ j, j < s.size → bt A j = bt s j := by
    intro j hj; unfold bt; rw [bA, List.getD_eq_getElem?_getD, List.getElem?_append, if_pos (by omega), ← List.getD_eq_getElem?_getD]
  have gB : ∀ j, j < s.size → bt B j = bt s j := by
    intro j hj; unfold bt; rw [bB, List.getD_eq_getElem?_getD, List.getElem?_append, if_pos (by omega), ← List.getD_eq_getElem?_getD]
  have sB : bl (suf B (s.size + 1)) = 35 :: (bl r ++ 10 :: bl u) := by
    rw [bl_suf, bB, List.drop_append, List.drop_eq_nil_of_le (by omega), la, show s.size + 1 - s.size = 1 by omega]; rfl
  have nA : bt A s.size = 10 := by
    unfold bt; rw [bA, List.getD_eq_getElem?_getD, List.getElem?_append, if_neg (by omega), la, Nat.sub_self]; rfl
  have nB : bt B s.size = 10 := by
    unfold bt; rw [bB, List.getD_eq_getElem?_getD, List.getElem?_append, if_neg (by omega), la, Nat.sub_self]; rfl
  have tB : ∀ j, bt B (s.size + 1 + j) = ((35 :: (bl r ++ 10 :: bl u)).getD j 0).toNat := by
    intro j; rw [← bt_suf]; unfold bt; rw [sB]
  have hag : Ag A B s.size := ⟨by omega, by omega, nA, fun j hj => by
    rcases Nat.lt_or_ge j s.size with g | g
    · rw [gA j g, gB j g]
    · have : j = s.size := by omega
      subst this
      rw [nA, nB]⟩
  have hA' : wordsOf A = lexR A 0 1 1 [] := by rw [wordsOf, if_neg (by omega)]
  have hB' : wordsOf B = lexR B 0 1 1 [] := by rw [wordsOf, if_neg (by omega)]
  rw [hA', hB']
  rcases hag.lex s.size 0 1 1 [] (by omega) (by omega) with h | ⟨ln', out', h1, h2⟩
  · rw [h]; exact ⟨rfl, LikeL.rfl'⟩
  · rw [h1, h2]
    have b35 : bt B (s.size + 1) = 35 := by have := tB 0; simpa using this
    have q10 : bt B (s.size + 2 + r.size) = 10 := by
      have := tB (r.size + 1)
      rw [show s.size + 1 + (r.size + 1) = s.size + 2 + r.size by omega, List.getD_cons_succ, List.getD_eq_getElem?_getD, List.getElem?_append, if_neg (by omega), lr, Nat.sub_self] at this
      simpa using this
    have mid : ∀ j, s.size + 1 ≤ j → j < s.size + 2 + r.size → bt B j ≠ 10 := by
      intro j h3 h4
      obtain ⟨e, rfl⟩ : ∃ e, j = s.size + 1 + e := ⟨j - (s.size + 1), by omega⟩
      rw [tB]
      cases e with
      | zero => simp
      | succ e =>
        rw [List.getD_cons_succ, List.getD_eq_getElem?_getD, List.getElem?_append, if_pos (by omega), ← List.getD_eq_getElem?_getD]
        exact hn e (by omega)
    have hrem := rem_to (s := B) (q := s.size + 2 + r.size) (by omega) q10 B.size (s.size + 1) B.size 0 (by omega) (by omega) mid (by omega)
    rw [lexR_eq (s := B), if_neg (by omega), if_neg (by omega), if_neg (by omega), if_pos b35, hrem, lexR_eq (s := B), if_neg (by omega), if_pos q10]
    have hsuf : suf A (s.size + 1) = suf B (s.size + 2 + r.size + 1) := by
      have l1 : bl (suf A (s.size + 1)) = bl u := by
        rw [bl_suf, bA, List.drop_append, List.drop_eq_nil_of_le (by omega), la, show s.size + 1 - s.size = 1 by omega]
        rfl
      have l2 : bl (suf B (s.size + 2 + r.size + 1)) = bl u := by
        rw [show s.size + 2 + r.size + 1 = s.size + 1 + (r.size + 2) by omega, ← suf_suf, bl_suf, sB, List.drop_succ_cons, List.drop_append, List.drop_eq_nil_of_le (by omega), lr, show r.size + 1 - r.size = 1 by omega]
        rfl
      exact ext_bl (by rw [l1, l2])
    obtain ⟨e1, e2, _⟩ := lex_like (P := False) (s := A) (t := B) A.size (s.size + 1) (s.size + 2 + r.size + 1) ln' (ln' + 1) 1 1 out' out' (by omega) hsuf (by omega) (by omega) (fun h => h.elim) LikeL.rfl'
    exact ⟨e1, e2⟩
end Go.Proofs.YthcaodlfnlhfbaaGreatDoorT

/- Expressions; operators; reserved words. -/
namespace Go.Proofs.YthcaodlfnlhfbaaGreatDoorT
open Go Go.Proofs
set_option linter.unusedVariables false
inductive E where
  | non
  | lit (n : Int)
  | ref (s : ByteArray)
  | not (x : E)
  | neg (x : E)
  | bin (op : ByteArray) (l r : E)
  deriving Inhabited
/-- How strongly an operator binds; 0: it is none. -/
def lvl (s : ByteArray) : Nat :=
  if s = bs [124, 124] then 1 else if s = bs [38, 38] then 2
  else if s = bs [60] ∨ s = bs [60, 61] ∨ s = bs [61, 61] ∨ s = bs [33, 61] then 3
  else if s = bs [43] ∨ s = bs [45] then 4 else if s = bs [42] then 5 else 0
theorem lvl_le (s : ByteArray) : lvl s ≤ 5 := by
  unfold lvl
  repeat' split
  all_goals omega
/-- chart var state all end do undo at retries on if go set. -/
def RS : List ByteArray := [bs [99, 104, 97, 114, 116], bs [118, 97, 114], bs [115, 116, 97, 116, 101], bs [97, 108, 108], bs [101, 110, 100], bs [100, 111], bs [117, 110, 100, 111], bs [97, 116], bs [114, 101, 116, 114, 105, 101, 115], bs [111, 110], bs [105, 102], bs [103, 111], bs [115, 101, 116]]
def resv (s : ByteArray) : Bool := RS.any fun x => decide (s = x)
end Go.Proofs.YthcaodlfnlhfbaaGreatDoorT
