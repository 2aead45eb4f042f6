/- What the listed package-level variables hold, out of the row's reading. -/
import Derived.Test.YtgfaadooijngnaaDoorX1
import Derived.Test.YtgfaadooijngnaaDoorRows
import Derived.Lib.LaidU8
import Derived.Lib.LaidTab
namespace Go.Proofs
open Go.RowKit Go.Shelf Go.Lib Go.Proofs.YtgfaadooijngnaaDoor
def Tryd.laysSlow_ren : Go.Shelf.Ren := ⟨fun | 260 => 52 | n => n, fun | 9 => 9 | 21 => 21 | 3 => 3 | 4 => 4 | 5 => 5 | 119 => 93 | 0 => 0 | 46 => 80 | 139 => 96 | 138 => 95 | n => n, fun | 3 => 3 | 4 => 4 | n => n⟩
theorem Tryd.laysSlow : Go.Proofs.Lays.n260 Tryd.prog Tryd.laysSlow_ren where
  mixed := by kernel_rfl
  f260 := Tryd.func52.trans (congrArg some (by kernel_rfl))
  t0 := Tryd.underlying0
  a0 := Tryd.isAgg0
  z0 := Tryd.sizeOf0
  v0 := Tryd.zeroValue0
  t3 := Tryd.underlying3
  a3 := Tryd.isAgg3
  z3 := Tryd.sizeOf3
  v3 := Tryd.zeroValue3
  t4 := Tryd.underlying4
  a4 := Tryd.isAgg4
  z4 := Tryd.sizeOf4
  v4 := Tryd.zeroValue4
  t5 := Tryd.underlying5
  a5 := Tryd.isAgg5
  z5 := Tryd.sizeOf5
  v5 := Tryd.zeroValue5
  t9 := Tryd.underlying9
  a9 := Tryd.isAgg9
  z9 := Tryd.sizeOf9
  v9 := Tryd.zeroValue9
  t21 := Tryd.underlying21
  a21 := Tryd.isAgg21
  z21 := Tryd.sizeOf21
  v21 := Tryd.zeroValue21
  t46 := Tryd.underlying80
  a46 := Tryd.isAgg80
  z46 := Tryd.sizeOf80
  v46 := Tryd.zeroValue80
  t119 := Tryd.underlying93
  a119 := Tryd.isAgg93
  z119 := Tryd.sizeOf93
  t138 := Tryd.underlying95
  a138 := Tryd.isAgg95
  z138 := Tryd.sizeOf95
  v138 := Tryd.zeroValue95
  t139 := Tryd.underlying96
  a139 := Tryd.isAgg96
  z139 := Tryd.sizeOf96
  v139 := Tryd.zeroValue96
  g3 := by kernel_rfl
  g4 := by kernel_rfl
namespace YtgfaadooijngnaaDoorT
theorem iface_of_trod {H : Type} {enc : TypeId × Value → H} {P : Program} {w : World} {base : Nat} {sp : Nat → Bool} {fuel : Nat} {t : TypeId} {ms : Array (String × TypeId)} {cs : List Value} {name : String} {d : DataW H} {p : List MemPlace}
    (ht : P.underlying t = some (.interface ms)) (h : DataW.trod enc P w base sp false fuel t cs = some (.iface name d, p)) : ∃ u x, cs = [.iface u x] := by
  cases fuel with
  | zero => simp [DataW.trod] at h
  | succ fuel =>
    unfold DataW.trod at h
    rw [ht] at h
    split at h
    all_goals first
      | exact ⟨_, _, rfl⟩
      | (exfalso; simp at h; done)
      | (exfalso; simp_all; done)
theorem cell_heap {w : World} {g i : Nat} {v : Value} (h : w.cell? ⟨g, i, none⟩ = some v) : ∃ cs t z, w.heap[g]? = some (.cells cs t z) := by
  unfold World.cell? at h
  simp only at h
  split at h
  · exact ⟨_, _, _, by assumption⟩
  all_goals simp at h
theorem var_heap {w : World} {n : String} {g : Nat} {cs : Array Value} (hg : Tryd.prog.globalNamed n = some g) (h : w.var? Tryd.prog n = some cs) : ∃ t z, w.heap[g]? = some (.cells cs t z) := by
  unfold World.var? at h
  rw [hg] at h
  simp only [Option.bind_some] at h
  split at h
  · cases h; exact ⟨_, _, by assumption⟩
  · cases h
theorem u8x : U8Extra Tryd.prog Tryd.laysSlow_ren := ⟨by kernel_rfl, by kernel_rfl, by kernel_rfl, by kernel_rfl, by kernel_rfl, by kernel_rfl, by kernel_rfl⟩
theorem first_eq : (Pinned.utf8First : DataW Unit) = firstData := by kernel_rfl
theorem accept_eq : (Rows.laid_unicode_utf8_acceptRanges : DataW Unit) = acceptData := by kernel_rfl
theorem pow_eq : (Rows.laid_internal_strconv_uint64pow10 : DataW Unit) = tabData .u64 pow10Tab := by kernel_rfl
/-- In this order: first, accept, pow, syn, rng. -/
theorem glob_laid {w : World} (h_first : VarReads Tryd.prog w "unicode/utf8.first" Pinned.utf8First) (h_accept : VarReads Tryd.prog w "unicode/utf8.acceptRanges" Rows.laid_unicode_utf8_acceptRanges) (h_pow : VarReads Tryd.prog w "internal/strconv.uint64pow10" Rows.laid_internal_strconv_uint64pow10) (h_syn : VarReads Tryd.prog w "strconv.ErrSyntax" Rows.laid_strconv_ErrSyntax) (h_rng : VarReads Tryd.prog w "strconv.ErrRange" Rows.laid_strconv_ErrRange) : Glob w (fun k => k < w.heap.size) := by
  have T := utf8Tabs_of_reads Tryd.laysSlow u8x (first_eq ▸ h_first) (accept_eq ▸ h_accept)
  have T1 : ∀ c, c < 256 → w.cell? ⟨3, c, none⟩ = some (.int .u8 (Lib.firstT c)) := T.1
  have T2 : ∀ i, i < 16 → w.cell? ⟨4, 2 * i, none⟩ = some (.int .u8 (Lib.accLo i)) ∧ w.cell? ⟨4, 2 * i + 1, none⟩ = some (.int .u8 (Lib.accHi i)) := T.2
  have lt : ∀ {g : Nat} {o : Obj}, w.heap[g]? = some o → g < w.heap.size := fun h => by
    rcases Nat.lt_or_ge _ w.heap.size with h' | h'
    · exact h'
    · rw [Array.getElem?_eq_none h'] at h; cases h
  obtain ⟨c_first, t_first, z_first, e_first⟩ := cell_heap (T1 0 (by omega))
  obtain ⟨c_accept, t_accept, z_accept, e_accept⟩ := cell_heap (T2 0 (by omega)).1
  have sent : ∀ {n : String} {g : Nat} {d : DataW Unit} {nm : String}, VarReads Tryd.prog w n (.iface nm d) → Tryd.prog.globalNamed n = some g → (Tryd.prog.globals[g]?).map (·.type) = some 49 → ∃ cs t z, w.heap[g]? = some (.cells cs t z) ∧ ∃ u x, cs[0]? = some (.iface u x) := by
    rintro n g d nm ⟨g', t, cs, fuel, p, hg, hty, hvar, hd⟩ hn hy
    obtain rfl := Option.some.inj (hn.symm.trans hg)
    obtain rfl := Option.some.inj (hy.symm.trans hty)
    obtain ⟨t', z, hh⟩ := var_heap hn hvar
    obtain ⟨u, x, hc⟩ := iface_of_trod Tryd.underlying49 hd
    exact ⟨cs, t', z, hh, u, x, by rw [← Array.getElem?_toList, hc]; rfl⟩
  obtain ⟨c_syn, t_syn, z_syn, e_syn, f_syn⟩ := sent (g := 1) h_syn (by kernel_rfl) (by kernel_rfl)
  obtain ⟨c_rng, t_rng, z_rng, e_rng, f_rng⟩ := sent (g := 2) h_rng (by kernel_rfl) (by kernel_rfl)
  obtain ⟨c_pow, t_pow, z_pow, e_pow, f_pow⟩ : ∃ cs t z, w.heap[5]? = some (.cells cs t z) ∧ cs = (Lib.pow10Tab.map fun z => Value.int .u64 z).toArray := by
    rw [pow_eq] at h_pow
    obtain ⟨g', t, cs, fuel, p, hg, hty, hvar, hd⟩ := h_pow
    have hn : Tryd.prog.globalNamed "internal/strconv.uint64pow10" = some 5 := by kernel_rfl
    obtain rfl := Option.some.inj (hn.symm.trans hg)
    have hy : (Tryd.prog.globals[5]?).map (·.type) = some 106 := by kernel_rfl
    obtain rfl := Option.some.inj (hy.symm.trans hty)
    obtain ⟨t', z, hh⟩ := var_heap hn hvar
    have := cells_of_tab Tryd.underlying106 Tryd.underlying81 (by kernel_rfl) (by kernel_rfl) hd
    exact ⟨cs, t', z, hh, by rw [← this]⟩
  intro e he
  simp only [GL, List.mem_cons, List.not_mem_nil, or_false] at he
  rcases he with rfl | rfl | rfl | rfl | rfl
  · exact ⟨lt e_syn, c_syn, t_syn, z_syn, e_syn, f_syn⟩
  · exact ⟨lt e_rng, c_rng, t_rng, z_rng, e_rng, f_rng⟩
  · exact ⟨lt e_pow, c_pow, t_pow, z_pow, e_pow, f_pow⟩
  · exact ⟨lt e_first, c_first, t_first, z_first, e_first, fun c hc => by rw [← cell_at e_first]; exact T1 c hc⟩
  · exact ⟨lt e_accept, c_accept, t_accept, z_accept, e_accept, fun i hi => by rw [← cell_at e_accept, ← cell_at e_accept]; exact T2 i hi⟩
end YtgfaadooijngnaaDoorT
end Go.Proofs
