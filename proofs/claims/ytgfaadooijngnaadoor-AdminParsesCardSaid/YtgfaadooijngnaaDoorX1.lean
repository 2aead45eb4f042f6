/- The library's first rune of a text, by the guide's shelf. -/
import Derived.Test.YtgfaadooijngnaaDoorT27
import Derived.Test.YtgfaadooijngnaaDoorProg
import Derived.Shelf.Unicode.DecodeAny
namespace Go.Proofs
open Go.RowKit Go.Shelf Go.Lib
def Tryd.laysDecode_ren : Go.Shelf.Ren := ⟨fun | 197 => 41 | 260 => 52 | n => n, fun | 9 => 9 | 21 => 21 | 3 => 3 | 4 => 4 | 5 => 5 | 105 => 60 | 119 => 93 | 0 => 0 | 46 => 80 | 139 => 96 | 138 => 95 | n => n, fun | 3 => 3 | 4 => 4 | n => n⟩
theorem Tryd.laysDecode : Go.Proofs.Lays.n197 Tryd.prog Tryd.laysDecode_ren where
  mixed := by kernel_rfl
  f197 := Tryd.func41.trans (congrArg some (by kernel_rfl))
  f260 := Tryd.func52.trans (congrArg some (by kernel_rfl))
  t0 := Tryd.underlying0
  a0 := Tryd.isAgg0
  z0 := Tryd.sizeOf0
  v0 := Tryd.zeroValue0
  t3 := Tryd.underlying3
  a3 := Tryd.isAgg3
  z3 := Tryd.sizeOf3
  v3 := Tryd.zeroValue3
  t4 := Tryd.underlying4
  a4 := Tryd.isAgg4
  z4 := Tryd.sizeOf4
  v4 := Tryd.zeroValue4
  t5 := Tryd.underlying5
  a5 := Tryd.isAgg5
  z5 := Tryd.sizeOf5
  v5 := Tryd.zeroValue5
  t9 := Tryd.underlying9
  a9 := Tryd.isAgg9
  z9 := Tryd.sizeOf9
  v9 := Tryd.zeroValue9
  t21 := Tryd.underlying21
  a21 := Tryd.isAgg21
  z21 := Tryd.sizeOf21
  v21 := Tryd.zeroValue21
  t46 := Tryd.underlying80
  a46 := Tryd.isAgg80
  z46 := Tryd.sizeOf80
  v46 := Tryd.zeroValue80
  t105 := Tryd.underlying60
  a105 := Tryd.isAgg60
  z105 := Tryd.sizeOf60
  v105 := Tryd.zeroValue60
  t119 := Tryd.underlying93
  a119 := Tryd.isAgg93
  z119 := Tryd.sizeOf93
  t138 := Tryd.underlying95
  a138 := Tryd.isAgg95
  z138 := Tryd.sizeOf95
  v138 := Tryd.zeroValue95
  t139 := Tryd.underlying96
  a139 := Tryd.isAgg96
  z139 := Tryd.sizeOf96
  v139 := Tryd.zeroValue96
  g3 := by kernel_rfl
  g4 := by kernel_rfl
namespace YtgfaadooijngnaaDoorT
theorem glob_utf8 {w : World} {ok : Nat → Prop} (h : Glob w ok) : Lib.Utf8Tabs 3 4 w := by
  obtain ⟨cs, t, z, h1, h2⟩ := glob_at h mem_first
  obtain ⟨cs', t', z', h1', h2'⟩ := glob_at h mem_accept
  exact ⟨fun c hc => by rw [cell_at h1]; exact h2 c hc, fun i hi => by rw [cell_at h1', cell_at h1']; exact h2' i hi⟩
theorem runs41 (s : ByteArray) : Runs Tryd.prog 41 [st s] (.tup [i32 (Lib.decodeGo s).1, i64 (Lib.decodeGo s).2], [.dead]) :=
  runs_of_calls (us := [.string s]) ⟨Tryd.f41, Tryd.func41, by decide, by kernel_rfl⟩ (by simp [plainV]) fun w hG =>
    (Any.utf8_DecodeRuneInString Tryd.laysDecode s w (glob_utf8 hG)).mono fun e w' ⟨he, hb⟩ => ⟨hb, _, he, fun ok => X_pair (X_s rfl) (X_s rfl)⟩
end YtgfaadooijngnaaDoorT
end Go.Proofs
