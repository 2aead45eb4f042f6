/- The library's first rune of a text, by the guide's shelf. -/
import Derived.Test.YthcaodlfnlhfbaaDoorT27
import Derived.Test.YthcaodlfnlhfbaaDoorProg
import Derived.Shelf.Unicode.DecodeAny
namespace Go.Proofs
open Go.RowKit Go.Shelf Go.Lib
def Tryd.laysDecode_ren : Go.Shelf.Ren := ⟨fun | 197 => 55 | 260 => 80 | n => n, fun | 9 => 9 | 21 => 21 | 3 => 3 | 4 => 4 | 5 => 5 | 105 => 76 | 119 => 154 | 0 => 0 | 46 => 155 | 139 => 158 | 138 => 157 | n => n, fun | 3 => 0 | 4 => 1 | n => n⟩
theorem Tryd.laysDecode : Go.Proofs.Lays.n197 Tryd.prog Tryd.laysDecode_ren where
  mixed := by kernel_rfl
  f197 := Tryd.func55.trans (congrArg some (by kernel_rfl))
  f260 := Tryd.func80.trans (congrArg some (by kernel_rfl))
  t0 := Tryd.underlying0
  a0 := Tryd.isAgg0
  z0 := Tryd.sizeOf0
  v0 := Tryd.zeroValue0
  t3 := Tryd.underlying3
  a3 := Tryd.isAgg3
  z3 := Tryd.sizeOf3
  v3 := Tryd.zeroValue3
  t4 := Tryd.underlying4
  a4 := Tryd.isAgg4
  z4 := Tryd.sizeOf4
  v4 := Tryd.zeroValue4
  t5 := Tryd.underlying5
  a5 := Tryd.isAgg5
  z5 := Tryd.sizeOf5
  v5 := Tryd.zeroValue5
  t9 := Tryd.underlying9
  a9 := Tryd.isAgg9
  z9 := Tryd.sizeOf9
  v9 := Tryd.zeroValue9
  t21 := Tryd.underlying21
  a21 := Tryd.isAgg21
  z21 := Tryd.sizeOf21
  v21 := Tryd.zeroValue21
  t46 := Tryd.underlying155
  a46 := Tryd.isAgg155
  z46 := Tryd.sizeOf155
  v46 := Tryd.zeroValue155
  t105 := Tryd.underlying76
  a105 := Tryd.isAgg76
  z105 := Tryd.sizeOf76
  v105 := Tryd.zeroValue76
  t119 := Tryd.underlying154
  a119 := Tryd.isAgg154
  z119 := Tryd.sizeOf154
  t138 := Tryd.underlying157
  a138 := Tryd.isAgg157
  z138 := Tryd.sizeOf157
  v138 := Tryd.zeroValue157
  t139 := Tryd.underlying158
  a139 := Tryd.isAgg158
  z139 := Tryd.sizeOf158
  v139 := Tryd.zeroValue158
  g3 := by kernel_rfl
  g4 := by kernel_rfl
namespace YthcaodlfnlhfbaaDoorT
theorem glob_utf8 {w : World} {ok : Nat → Prop} (h : Glob w ok) : Lib.Utf8Tabs 0 1 w := by
  obtain ⟨cs, t, z, h1, h2⟩ := glob_at h mem_first
  obtain ⟨cs', t', z', h1', h2'⟩ := glob_at h mem_accept
  exact ⟨fun c hc => by rw [cell_at h1]; exact h2 c hc, fun i hi => by rw [cell_at h1', cell_at h1']; exact h2' i hi⟩
theorem runs55 (s : ByteArray) : Runs Tryd.prog 55 [st s] (.tup [i32 (Lib.decodeGo s).1, i64 (Lib.decodeGo s).2], [.dead]) :=
  runs_of_calls (us := [.string s]) ⟨Tryd.f55, Tryd.func55, by decide, by kernel_rfl⟩ (by simp [plainV]) fun w hG =>
    (Any.utf8_DecodeRuneInString Tryd.laysDecode s w (glob_utf8 hG)).mono fun e w' ⟨he, hb⟩ => ⟨hb, _, he, fun ok => X_pair (X_s rfl) (X_s rfl)⟩
end YthcaodlfnlhfbaaDoorT
end Go.Proofs
