/- What the listed package-level variables hold, out of the row's reading. -/
import Derived.Test.YthcaodlfnlhfbaaDoorX1
import Derived.Test.YthcaodlfnlhfbaaDoorRows
import Derived.Lib.LaidU8
import Derived.Lib.LaidTab
namespace Go.Proofs
open Go.RowKit Go.Shelf Go.Lib Go.Proofs.YthcaodlfnlhfbaaDoor
def Tryd.laysSlow_ren : Go.Shelf.Ren := ⟨fun | 260 => 80 | n => n, fun | 9 => 9 | 21 => 21 | 3 => 3 | 4 => 4 | 5 => 5 | 119 => 154 | 0 => 0 | 46 => 155 | 139 => 158 | 138 => 157 | n => n, fun | 3 => 0 | 4 => 1 | n => n⟩
theorem Tryd.laysSlow : Go.Proofs.Lays.n260 Tryd.prog Tryd.laysSlow_ren where
  mixed := by kernel_rfl
  f260 := Tryd.func80.trans (congrArg some (by kernel_rfl))
  t0 := Tryd.underlying0
  a0 := Tryd.isAgg0
  z0 := Tryd.sizeOf0
  v0 := Tryd.zeroValue0
  t3 := Tryd.underlying3
  a3 := Tryd.isAgg3
  z3 := Tryd.sizeOf3
  v3 := Tryd.zeroValue3
  t4 := Tryd.underlying4
  a4 := Tryd.isAgg4
  z4 := Tryd.sizeOf4
  v4 := Tryd.zeroValue4
  t5 := Tryd.underlying5
  a5 := Tryd.isAgg5
  z5 := Tryd.sizeOf5
  v5 := Tryd.zeroValue5
  t9 := Tryd.underlying9
  a9 := Tryd.isAgg9
  z9 := Tryd.sizeOf9
  v9 := Tryd.zeroValue9
  t21 := Tryd.underlying21
  a21 := Tryd.isAgg21
  z21 := Tryd.sizeOf21
  v21 := Tryd.zeroValue21
  t46 := Tryd.underlying155
  a46 := Tryd.isAgg155
  z46 := Tryd.sizeOf155
  v46 := Tryd.zeroValue155
  t119 := Tryd.underlying154
  a119 := Tryd.isAgg154
  z119 := Tryd.sizeOf154
  t138 := Tryd.underlying157
  a138 := Tryd.isAgg157
  z138 := Tryd.sizeOf157
  v138 := Tryd.zeroValue157
  t139 := Tryd.underlying158
  a139 := Tryd.isAgg158
  z139 := Tryd.sizeOf158
  v139 := Tryd.zeroValue158
  g3 := by kernel_rfl
  g4 := by kernel_rfl
namespace YthcaodlfnlhfbaaDoorT
theorem cell_heap {w : World} {g i : Nat} {v : Value} (h : w.cell? ⟨g, i, none⟩ = some v) : ∃ cs t z, w.heap[g]? = some (.cells cs t z) := by
  unfold World.cell? at h
  simp only at h
  split at h
  · exact ⟨_, _, _, by assumption⟩
  all_goals simp at h
theorem u8x : U8Extra Tryd.prog Tryd.laysSlow_ren := ⟨by kernel_rfl, by kernel_rfl, by kernel_rfl, by kernel_rfl, by kernel_rfl, by kernel_rfl, by kernel_rfl⟩
theorem first_eq : (Pinned.utf8First : DataW Unit) = firstData := by kernel_rfl
theorem accept_eq : (Rows.laid_unicode_utf8_acceptRanges : DataW Unit) = acceptData := by kernel_rfl
theorem glob_laid {w : World} (h1 : VarReads Tryd.prog w "unicode/utf8.first" Pinned.utf8First) (h2 : VarReads Tryd.prog w "unicode/utf8.acceptRanges" Rows.laid_unicode_utf8_acceptRanges) : Glob w (fun k => k < w.heap.size) := by
  have T := utf8Tabs_of_reads Tryd.laysSlow u8x (first_eq ▸ h1) (accept_eq ▸ h2)
  have T1 : ∀ c, c < 256 → w.cell? ⟨0, c, none⟩ = some (.int .u8 (Lib.firstT c)) := T.1
  have T2 : ∀ i, i < 16 → w.cell? ⟨1, 2 * i, none⟩ = some (.int .u8 (Lib.accLo i)) ∧ w.cell? ⟨1, 2 * i + 1, none⟩ = some (.int .u8 (Lib.accHi i)) := T.2
  have lt : ∀ {g : Nat} {o : Obj}, w.heap[g]? = some o → g < w.heap.size := fun h => by
    rcases Nat.lt_or_ge _ w.heap.size with h' | h'
    · exact h'
    · rw [Array.getElem?_eq_none h'] at h; cases h
  obtain ⟨c0, t0, z0, e0⟩ := cell_heap (T1 0 (by omega))
  obtain ⟨c1, t1, z1, e1⟩ := cell_heap (T2 0 (by omega)).1
  intro e he
  simp only [GL, List.mem_cons, List.not_mem_nil, or_false] at he
  rcases he with rfl | rfl
  · exact ⟨lt e0, c0, t0, z0, e0, fun c hc => by rw [← cell_at e0]; exact T1 c hc⟩
  · exact ⟨lt e1, c1, t1, z1, e1, fun i hi => by rw [← cell_at e1, ← cell_at e1]; exact T2 i hi⟩
end YthcaodlfnlhfbaaDoorT
end Go.Proofs
