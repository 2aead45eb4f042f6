/- What the listed package-level variables hold, out of the row's reading. -/
import Derived.Test.YthcaodlfnlhfbaaDoorX1
import Derived.Test.YthcaodlfnlhfbaaDoorRows
import Derived.Lib.LaidU8
import Derived.Lib.LaidTab
namespace Go.Proofs
open Go.RowKit Go.Shelf Go.Lib Go.Proofs.YthcaodlfnlhfbaaDoor
def Tryd.laysSlow_ren : Go.Shelf.Ren := ⟨fun | 260 => 80 | n => n, fun | 9 => 9 | 21 => 21 | 3 => 3 | 4 => 4 | 5 => 5 | 119 => 154 | 0 => 0 | 46 => 155 | 139 => 158 | 138 => 157 | n => n, fun | 3 => 0 | 4 => 1 | n => n⟩
theorem Tryd.laysSlow : Go.Proofs.Lays.n260 Tryd.prog Tryd.laysSlow_ren where
  mixed := by kernel_rfl
  f260 := Tryd.func80.trans (congrArg some (by kernel_rfl))
  t0 := Tryd.underlying0
  a0 := Tryd.isAgg0
  z0 := Tryd.sizeOf0
  v0 := Tryd.zeroValue0
  t3 := Tryd.underlying3
  a3 := Tryd.isAgg3
  z3 := Tryd.sizeOf3
  v3 := Tryd.zeroValue3
  t4 := Tryd.underlying4
  a4 := Tryd.isAgg4
  z4 := Tryd.sizeOf4
  v4 := Tryd.zeroValue4
  t5 := Tryd.underlying5
  a5 := Tryd.isAgg5
  z5 := Tryd.sizeOf5
  v5 := Tryd.zeroValue5
  t9 := Tryd.underlying9
  a9 := Tryd.isAgg9
  z9 := Tryd.sizeOf9
  v9 := Tryd.zeroValue9
  t21 := Tryd.underlying21
  a21 := Tryd.isAgg21
  z21 := Tryd.sizeOf21
  v21 := Tryd.zeroValue21
  t46 := Tryd.underlying155
  a46 := Tryd.isAgg155
  z46 := Tryd.sizeOf155
  v46 := Tryd.zeroValue155
  t119 := Tryd.underlying154
  a119 := Tryd.isAgg154
  z119 := Tryd.sizeOf154
  t138 := Tryd.underlying157
  a138 := Tryd.isAgg157
  z138 := Tryd.sizeOf157
  v138 := Tryd.zeroValue157
  t139 := Tryd.underlying158
  a139 := Tryd.isAgg158
  z139 := Tryd.sizeOf158
  v139 := Tryd.zeroValue158
  g3 := by kernel_rfl
  g4 := by kernel_rfl
namespace YthcaodlfnlhfbaaDoorT
theorem iface_of_trod {H : Type} {enc : TypeId × Value → H} {P : Program} {w : World} {base : Nat} {sp : Nat → Bool} {fuel : Nat} {t : TypeId} {ms : Array (String × TypeId)} {cs : List Value} {name : String} {d : DataW H} {p : List MemPlace}
    (ht : P.underlying t = some (.interface ms)) (h : DataW.trod enc P w base sp false fuel t cs = some (.iface name d, p)) : ∃ u x, cs = [.iface u x] := by
  cases fuel with
  | zero => simp [DataW.trod] at h
  | succ fuel =>
    unfold DataW.trod at h
    rw [ht] at h
    split at h
    all_goals first
      | exact ⟨_, _, rfl⟩
      | (exfalso; simp at h; done)
      | (exfalso; simp_all; done)
theorem cell_heap {w : World} {g i : Nat} {v : Value} (h : w.cell? ⟨g, i, none⟩ = some v) : ∃ cs t z, w.heap[g]? = some (.cells cs t z) := by
  unfold World.cell? at h
  simp only at h
  split at h
  · exact ⟨_, _, _, by assumption⟩
  all_goals simp at h
theorem var_heap {w : World} {n : String} {g : Nat} {cs : Array Value} (hg : Tryd.prog.globalNamed n = some g) (h : w.var? Tryd.prog n = some cs) : ∃ t z, w.heap[g]? = some (.cells cs t z) := by
  unfold World.var? at h
  rw [hg] at h
  simp only [Option.bind_some] at h
  split at h
  · cases h; exact ⟨_, _, by assumption⟩
  · cases h
theorem u8x : U8Extra Tryd.prog Tryd.laysSlow_ren := ⟨by kernel_rfl, by kernel_rfl, by kernel_rfl, by kernel_rfl, by kernel_rfl, by kernel_rfl, by kernel_rfl⟩
theorem first_eq : (Pinned.utf8First : DataW Unit) = firstData := by kernel_rfl
theorem accept_eq : (Rows.laid_unicode_utf8_acceptRanges : DataW Unit) = acceptData := by kernel_rfl
theorem pow_eq : (Rows.laid_internal_strconv_uint64pow10 : DataW Unit) = tabData .u64 pow10Tab := by kernel_rfl
theorem glob_laid {w : World} (h1 : VarReads Tryd.prog w "unicode/utf8.first" Pinned.utf8First) (h2 : VarReads Tryd.prog w "unicode/utf8.acceptRanges" Rows.laid_unicode_utf8_acceptRanges) (h3 : VarReads Tryd.prog w "internal/strconv.uint64pow10" Rows.laid_internal_strconv_uint64pow10)
    (h4 : VarReads Tryd.prog w "strconv.ErrSyntax" Rows.laid_strconv_ErrSyntax) (h5 : VarReads Tryd.prog w "strconv.ErrRange" Rows.laid_strconv_ErrRange) : Glob w (fun k => k < w.heap.size) := by
  have T := utf8Tabs_of_reads Tryd.laysSlow u8x (first_eq ▸ h1) (accept_eq ▸ h2)
  have T1 : ∀ c, c < 256 → w.cell? ⟨0, c, none⟩ = some (.int .u8 (Lib.firstT c)) := T.1
  have T2 : ∀ i, i < 16 → w.cell? ⟨1, 2 * i, none⟩ = some (.int .u8 (Lib.accLo i)) ∧ w.cell? ⟨1, 2 * i + 1, none⟩ = some (.int .u8 (Lib.accHi i)) := T.2
  have lt : ∀ {g : Nat} {o : Obj}, w.heap[g]? = some o → g < w.heap.size := fun h => by
    rcases Nat.lt_or_ge _ w.heap.size with h' | h'
    · exact h'
    · rw [Array.getElem?_eq_none h'] at h; cases h
  obtain ⟨c0, t0, z0, e0⟩ := cell_heap (T1 0 (by omega))
  obtain ⟨c1, t1, z1, e1⟩ := cell_heap (T2 0 (by omega)).1
  have sent : ∀ {n : String} {g : Nat} {d : DataW Unit} {nm : String}, VarReads Tryd.prog w n (.iface nm d) → Tryd.prog.globalNamed n = some g → (Tryd.prog.globals[g]?).map (·.type) = some 160 → ∃ cs t z, w.heap[g]? = some (.cells cs t z) ∧ ∃ u x, cs[0]? = some (.iface u x) := by
    rintro n g d nm ⟨g', t, cs, fuel, p, hg, hty, hvar, hd⟩ hn hy
    obtain rfl := Option.some.inj (hn.symm.trans hg)
    obtain rfl := Option.some.inj (hy.symm.trans hty)
    obtain ⟨t', z, hh⟩ := var_heap hn hvar
    obtain ⟨u, x, hc⟩ := iface_of_trod Tryd.underlying160 hd
    exact ⟨cs, t', z, hh, u, x, by rw [← Array.getElem?_toList, hc]; rfl⟩
  obtain ⟨c2, t2, z2, e2, f2⟩ := sent (g := 2) h4 (by kernel_rfl) (by kernel_rfl)
  obtain ⟨c3, t3, z3, e3, f3⟩ := sent (g := 3) h5 (by kernel_rfl) (by kernel_rfl)
  obtain ⟨c4, t4, z4, e4, f4⟩ : ∃ cs t z, w.heap[4]? = some (.cells cs t z) ∧ cs = (Lib.pow10Tab.map fun z => Value.int .u64 z).toArray := by
    rw [pow_eq] at h3
    obtain ⟨g', t, cs, fuel, p, hg, hty, hvar, hd⟩ := h3
    have hn : Tryd.prog.globalNamed "internal/strconv.uint64pow10" = some 4 := by kernel_rfl
    obtain rfl := Option.some.inj (hn.symm.trans hg)
    have hy : (Tryd.prog.globals[4]?).map (·.type) = some 207 := by kernel_rfl
    obtain rfl := Option.some.inj (hy.symm.trans hty)
    obtain ⟨t', z, hh⟩ := var_heap hn hvar
    have := cells_of_tab Tryd.underlying207 Tryd.underlying164 (by kernel_rfl) (by kernel_rfl) hd
    exact ⟨cs, t', z, hh, by rw [← this]⟩
  intro e he
  simp only [GL, List.mem_cons, List.not_mem_nil, or_false] at he
  rcases he with rfl | rfl | rfl | rfl | rfl
  · exact ⟨lt e2, c2, t2, z2, e2, f2⟩
  · exact ⟨lt e3, c3, t3, z3, e3, f3⟩
  · exact ⟨lt e4, c4, t4, z4, e4, f4⟩
  · exact ⟨lt e0, c0, t0, z0, e0, fun c hc => by rw [← cell_at e0]; exact T1 c hc⟩
  · exact ⟨lt e1, c1, t1, z1, e1, fun i hi => by rw [← cell_at e1, ← cell_at e1]; exact T2 i hi⟩
end YthcaodlfnlhfbaaDoorT
end Go.Proofs
