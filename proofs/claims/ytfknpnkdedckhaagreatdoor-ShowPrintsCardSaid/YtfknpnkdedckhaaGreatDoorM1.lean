/- The library's first rune of a text, by the guide's shelf. -/
import Derived.Test.YtfknpnkdedckhaaGreatDoorT27
import Derived.Test.YtfknpnkdedckhaaGreatDoorProg
import Derived.Shelf.Unicode.DecodeAny
import Derived.Test.YtfknpnkdedckhaaGreatDoorRows
import Derived.Lib.LaidU8
import Derived.Lib.LaidTab
import Derived.Test.YtfknpnkdedckhaaGreatDoorT26
import Derived.Shelf.Unicode.DecodeSlow
import Derived.Test.YtfknpnkdedckhaaGreatDoorPA
import Derived.Test.YtfknpnkdedckhaaGreatDoorD
import Derived.Shelf.LaysM
import Derived.Shelf.Strconv.Lower
import Derived.Lib.Strings
import Derived.Lib.Walk
import Derived.Lib.ConvBytes
import Derived.Lib.ParseIntBMem
import Derived.Lib.Hide
import Derived.Laws.Strings3
import Derived.Laws.Closers25
import Derived.Laws.Closers25b
import Derived.WalkKit
import Derived.BigCall
import Derived.BigGuard
import Derived.Shelf.Strconv.Itoa1
import Derived.Shelf.Strconv.Itoa2
import Derived.Lib.ItoaMem
import Derived.Lib.AppendIntMem
import Derived.Lib.OwnBridge
import Derived.Lib.ItoaNum
import Derived.Shelf.Strconv.ToError
import Derived.Shelf.Strconv.ToErrorRange
import Derived.Shelf.Strconv.ParseUintEmpty
namespace Go.Proofs
open Go.RowKit Go.Shelf Go.Lib
def Tryz.laysDecode_ren : Go.Shelf.Ren := ⟨fun | 197 => 272 | 260 => 347 | n => n, fun | 9 => 9 | 21 => 21 | 3 => 3 | 4 => 4 | 5 => 5 | 105 => 327 | 119 => 506 | 0 => 0 | 46 => 359 | 139 => 509 | 138 => 508 | n => n, fun | 3 => 1 | 4 => 2 | n => n⟩
theorem Tryz.laysDecode : Go.Proofs.Lays.n197 Tryz.prog Tryz.laysDecode_ren where
  mixed := by kernel_rfl
  f197 := Tryz.func272.trans (congrArg some (by kernel_rfl))
  f260 := Tryz.func347.trans (congrArg some (by kernel_rfl))
  t0 := Tryz.underlying0
  a0 := Tryz.isAgg0
  z0 := Tryz.sizeOf0
  v0 := Tryz.zeroValue0
  t3 := Tryz.underlying3
  a3 := Tryz.isAgg3
  z3 := Tryz.sizeOf3
  v3 := Tryz.zeroValue3
  t4 := Tryz.underlying4
  a4 := Tryz.isAgg4
  z4 := Tryz.sizeOf4
  v4 := Tryz.zeroValue4
  t5 := Tryz.underlying5
  a5 := Tryz.isAgg5
  z5 := Tryz.sizeOf5
  v5 := Tryz.zeroValue5
  t9 := Tryz.underlying9
  a9 := Tryz.isAgg9
  z9 := Tryz.sizeOf9
  v9 := Tryz.zeroValue9
  t21 := Tryz.underlying21
  a21 := Tryz.isAgg21
  z21 := Tryz.sizeOf21
  v21 := Tryz.zeroValue21
  t46 := Tryz.underlying359
  a46 := Tryz.isAgg359
  z46 := Tryz.sizeOf359
  v46 := Tryz.zeroValue359
  t105 := Tryz.underlying327
  a105 := Tryz.isAgg327
  z105 := Tryz.sizeOf327
  v105 := Tryz.zeroValue327
  t119 := Tryz.underlying506
  a119 := Tryz.isAgg506
  z119 := Tryz.sizeOf506
  t138 := Tryz.underlying508
  a138 := Tryz.isAgg508
  z138 := Tryz.sizeOf508
  v138 := Tryz.zeroValue508
  t139 := Tryz.underlying509
  a139 := Tryz.isAgg509
  z139 := Tryz.sizeOf509
  v139 := Tryz.zeroValue509
  g3 := by kernel_rfl
  g4 := by kernel_rfl
namespace YtfknpnkdedckhaaGreatDoorT
theorem glob_utf8 {w : World} {ok : Nat → Prop} (h : Glob w ok) : Lib.Utf8Tabs 1 2 w := by
  obtain ⟨cs, t, z, h1, h2⟩ := glob_at h mem_first
  obtain ⟨cs', t', z', h1', h2'⟩ := glob_at h mem_accept
  exact ⟨fun c hc => by rw [cell_at h1]; exact h2 c hc, fun i hi => by rw [cell_at h1', cell_at h1']; exact h2' i hi⟩
theorem runs272 (s : ByteArray) : Runs Tryz.prog 272 [st s] (.tup [i32 (Lib.decodeGo s).1, i64 (Lib.decodeGo s).2], [.dead]) :=
  runs_of_calls (us := [.string s]) ⟨Tryz.f272, Tryz.func272, by decide, by kernel_rfl⟩ (by simp [plainV]) fun w hG =>
    (Any.utf8_DecodeRuneInString Tryz.laysDecode s w (glob_utf8 hG)).mono fun e w' ⟨he, hb⟩ => ⟨hb, _, he, fun ok => X_pair (X_s rfl) (X_s rfl)⟩
end YtfknpnkdedckhaaGreatDoorT
end Go.Proofs

/- What the listed package-level variables hold, out of the row's reading. -/
namespace Go.Proofs
open Go.RowKit Go.Shelf Go.Lib Go.Proofs.YtfknpnkdedckhaaGreatDoor
def Tryz.laysSlow_ren : Go.Shelf.Ren := ⟨fun | 260 => 347 | n => n, fun | 9 => 9 | 21 => 21 | 3 => 3 | 4 => 4 | 5 => 5 | 119 => 506 | 0 => 0 | 46 => 359 | 139 => 509 | 138 => 508 | n => n, fun | 3 => 1 | 4 => 2 | n => n⟩
theorem Tryz.laysSlow : Go.Proofs.Lays.n260 Tryz.prog Tryz.laysSlow_ren where
  mixed := by kernel_rfl
  f260 := Tryz.func347.trans (congrArg some (by kernel_rfl))
  t0 := Tryz.underlying0
  a0 := Tryz.isAgg0
  z0 := Tryz.sizeOf0
  v0 := Tryz.zeroValue0
  t3 := Tryz.underlying3
  a3 := Tryz.isAgg3
  z3 := Tryz.sizeOf3
  v3 := Tryz.zeroValue3
  t4 := Tryz.underlying4
  a4 := Tryz.isAgg4
  z4 := Tryz.sizeOf4
  v4 := Tryz.zeroValue4
  t5 := Tryz.underlying5
  a5 := Tryz.isAgg5
  z5 := Tryz.sizeOf5
  v5 := Tryz.zeroValue5
  t9 := Tryz.underlying9
  a9 := Tryz.isAgg9
  z9 := Tryz.sizeOf9
  v9 := Tryz.zeroValue9
  t21 := Tryz.underlying21
  a21 := Tryz.isAgg21
  z21 := Tryz.sizeOf21
  v21 := Tryz.zeroValue21
  t46 := Tryz.underlying359
  a46 := Tryz.isAgg359
  z46 := Tryz.sizeOf359
  v46 := Tryz.zeroValue359
  t119 := Tryz.underlying506
  a119 := Tryz.isAgg506
  z119 := Tryz.sizeOf506
  t138 := Tryz.underlying508
  a138 := Tryz.isAgg508
  z138 := Tryz.sizeOf508
  v138 := Tryz.zeroValue508
  t139 := Tryz.underlying509
  a139 := Tryz.isAgg509
  z139 := Tryz.sizeOf509
  v139 := Tryz.zeroValue509
  g3 := by kernel_rfl
  g4 := by kernel_rfl
namespace YtfknpnkdedckhaaGreatDoorT
theorem iface_of_trod {H : Type} {enc : TypeId × Value → H} {P : Program} {w : World} {base : Nat} {sp : Nat → Bool} {fuel : Nat} {t : TypeId} {ms : Array (String × TypeId)} {cs : List Value} {name : String} {d : DataW H} {p : List MemPlace}
    (ht : P.underlying t = some (.interface ms)) (h : DataW.trod enc P w base sp false fuel t cs = some (.iface name d, p)) : ∃ u x, cs = [.iface u x] := by
  cases fuel with
  | zero => simp [DataW.trod] at h
  | succ fuel =>
    unfold DataW.trod at h
    rw [ht] at h
    split at h
    all_goals first
      | exact ⟨_, _, rfl⟩
      | (exfalso; simp at h; done)
      | (exfalso; simp_all; done)
theorem cell_heap {w : World} {g i : Nat} {v : Value} (h : w.cell? ⟨g, i, none⟩ = some v) : ∃ cs t z, w.heap[g]? = some (.cells cs t z) := by
  unfold World.cell? at h
  simp only at h
  split at h
  · exact ⟨_, _, _, by assumption⟩
  all_goals simp at h
theorem var_heap {w : World} {n : String} {g : Nat} {cs : Array Value} (hg : Tryz.prog.globalNamed n = some g) (h : w.var? Tryz.prog n = some cs) : ∃ t z, w.heap[g]? = some (.cells cs t z) := by
  unfold World.var? at h
  rw [hg] at h
  simp only [Option.bind_some] at h
  split at h
  · cases h; exact ⟨_, _, by assumption⟩
  · cases h
theorem u8x : U8Extra Tryz.prog Tryz.laysSlow_ren := ⟨by kernel_rfl, by kernel_rfl, by kernel_rfl, by kernel_rfl, by kernel_rfl, by kernel_rfl, by kernel_rfl⟩
theorem first_eq : (Pinned.utf8First : DataW Unit) = firstData := by kernel_rfl
theorem accept_eq : (Rows.laid_unicode_utf8_acceptRanges : DataW Unit) = acceptData := by kernel_rfl
theorem pow_eq : (Rows.laid_internal_strconv_uint64pow10 : DataW Unit) = tabData .u64 pow10Tab := by kernel_rfl
/-- In this order: first, accept, pow, syn, rng. -/
theorem glob_laid {w : World} (h_first : VarReads Tryz.prog w "unicode/utf8.first" Pinned.utf8First) (h_accept : VarReads Tryz.prog w "unicode/utf8.acceptRanges" Rows.laid_unicode_utf8_acceptRanges) (h_pow : VarReads Tryz.prog w "internal/strconv.uint64pow10" Rows.laid_internal_strconv_uint64pow10) (h_syn : VarReads Tryz.prog w "strconv.ErrSyntax" Rows.laid_strconv_ErrSyntax) (h_rng : VarReads Tryz.prog w "strconv.ErrRange" Rows.laid_strconv_ErrRange) : Glob w (fun k => k < w.heap.size) := by
  have T := utf8Tabs_of_reads Tryz.laysSlow u8x (first_eq ▸ h_first) (accept_eq ▸ h_accept)
  have T1 : ∀ c, c < 256 → w.cell? ⟨1, c, none⟩ = some (.int .u8 (Lib.firstT c)) := T.1
  have T2 : ∀ i, i < 16 → w.cell? ⟨2, 2 * i, none⟩ = some (.int .u8 (Lib.accLo i)) ∧ w.cell? ⟨2, 2 * i + 1, none⟩ = some (.int .u8 (Lib.accHi i)) := T.2
  have lt : ∀ {g : Nat} {o : Obj}, w.heap[g]? = some o → g < w.heap.size := fun h => by
    rcases Nat.lt_or_ge _ w.heap.size with h' | h'
    · exact h'
    · rw [Array.getElem?_eq_none h'] at h; cases h
  obtain ⟨c_first, t_first, z_first, e_first⟩ := cell_heap (T1 0 (by omega))
  obtain ⟨c_accept, t_accept, z_accept, e_accept⟩ := cell_heap (T2 0 (by omega)).1
  have sent : ∀ {n : String} {g : Nat} {d : DataW Unit} {nm : String}, VarReads Tryz.prog w n (.iface nm d) → Tryz.prog.globalNamed n = some g → (Tryz.prog.globals[g]?).map (·.type) = some 314 → ∃ cs t z, w.heap[g]? = some (.cells cs t z) ∧ ∃ u x, cs[0]? = some (.iface u x) := by
    rintro n g d nm ⟨g', t, cs, fuel, p, hg, hty, hvar, hd⟩ hn hy
    obtain rfl := Option.some.inj (hn.symm.trans hg)
    obtain rfl := Option.some.inj (hy.symm.trans hty)
    obtain ⟨t', z, hh⟩ := var_heap hn hvar
    obtain ⟨u, x, hc⟩ := iface_of_trod Tryz.underlying314 hd
    exact ⟨cs, t', z, hh, u, x, by rw [← Array.getElem?_toList, hc]; rfl⟩
  obtain ⟨c_syn, t_syn, z_syn, e_syn, f_syn⟩ := sent (g := 6) h_syn (by kernel_rfl) (by kernel_rfl)
  obtain ⟨c_rng, t_rng, z_rng, e_rng, f_rng⟩ := sent (g := 7) h_rng (by kernel_rfl) (by kernel_rfl)
  obtain ⟨c_pow, t_pow, z_pow, e_pow, f_pow⟩ : ∃ cs t z, w.heap[0]? = some (.cells cs t z) ∧ cs = (Lib.pow10Tab.map fun z => Value.int .u64 z).toArray := by
    rw [pow_eq] at h_pow
    obtain ⟨g', t, cs, fuel, p, hg, hty, hvar, hd⟩ := h_pow
    have hn : Tryz.prog.globalNamed "internal/strconv.uint64pow10" = some 0 := by kernel_rfl
    obtain rfl := Option.some.inj (hn.symm.trans hg)
    have hy : (Tryz.prog.globals[0]?).map (·.type) = some 479 := by kernel_rfl
    obtain rfl := Option.some.inj (hy.symm.trans hty)
    obtain ⟨t', z, hh⟩ := var_heap hn hvar
    have := cells_of_tab Tryz.underlying479 Tryz.underlying408 (by kernel_rfl) (by kernel_rfl) hd
    exact ⟨cs, t', z, hh, by rw [← this]⟩
  intro e he
  simp only [GL, List.mem_cons, List.not_mem_nil, or_false] at he
  rcases he with rfl | rfl | rfl | rfl | rfl
  · exact ⟨lt e_syn, c_syn, t_syn, z_syn, e_syn, f_syn⟩
  · exact ⟨lt e_rng, c_rng, t_rng, z_rng, e_rng, f_rng⟩
  · exact ⟨lt e_pow, c_pow, t_pow, z_pow, e_pow, f_pow⟩
  · exact ⟨lt e_first, c_first, t_first, z_first, e_first, fun c hc => by rw [← cell_at e_first]; exact T1 c hc⟩
  · exact ⟨lt e_accept, c_accept, t_accept, z_accept, e_accept, fun i hi => by rw [← cell_at e_accept, ← cell_at e_accept]; exact T2 i hi⟩
end YtfknpnkdedckhaaGreatDoorT
end Go.Proofs

/- Texts: bytes, first runes, what stands behind. -/
namespace Go.Proofs.YtfknpnkdedckhaaGreatDoorT
open Go Go.Proofs
set_option linter.unusedVariables false

/-- A text's bytes. -/
def bl (s : ByteArray) : List UInt8 := s.data.toList
def bt (s : ByteArray) (i : Nat) : Nat := ((bl s).getD i 0).toNat
theorem bl_len (s : ByteArray) : (bl s).length = s.size := by simp [bl]
theorem bt_lt (s : ByteArray) (i : Nat) : bt s i < 256 := by unfold bt; exact UInt8.toNat_lt _
theorem byteAt_bt (s : ByteArray) (i : Nat) : byteAt s i = (bt s i : Int) := rfl
theorem get_bt (s : ByteArray) (i : Nat) : (s.get! i).toNat = bt s i := by
  unfold bt bl
  show (s.data.get!Internal i).toNat = _
  congr 1
  show s.data[i]! = _
  rw [Array.getElem!_eq_getD, Array.getD_eq_getD_getElem?, List.getD_eq_getElem?_getD, Array.getElem?_toList]
  rfl
theorem ext_bl {s t : ByteArray} (h : bl s = bl t) : s = t := by
  cases s; cases t
  simp only [bl] at h
  rw [Array.toList_inj.1 h]
theorem bl_extract (s : ByteArray) (a b : Nat) : bl (s.extract a b) = ((bl s).take b).drop a := by
  unfold bl
  rw [ByteArray.data_extract, Array.toList_extract, List.extract_eq_take_drop]
  rw [List.drop_take]
theorem bl_append (s t : ByteArray) : bl (s ++ t) = bl s ++ bl t := by
  unfold bl
  rw [ByteArray.data_append, Array.toList_append]
/-- What stands behind a place. -/
def suf (s : ByteArray) (i : Nat) : ByteArray := s.extract i s.size
theorem bl_suf (s : ByteArray) (i : Nat) : bl (suf s i) = (bl s).drop i := by
  rw [suf, bl_extract, List.take_of_length_le (by rw [bl_len]; omega)]
theorem size_suf (s : ByteArray) (i : Nat) : (suf s i).size = s.size - i := by rw [← bl_len, bl_suf, List.length_drop, bl_len]
theorem suf_suf (s : ByteArray) (i j : Nat) : suf (suf s i) j = suf s (i + j) := ext_bl (by rw [bl_suf, bl_suf, bl_suf, List.drop_drop])
theorem suf_zero (s : ByteArray) : suf s 0 = s := ext_bl (by rw [bl_suf, List.drop_zero])
theorem bt_suf (s : ByteArray) (i j : Nat) : bt (suf s i) j = bt s (i + j) := by
  unfold bt
  rw [bl_suf, List.getD_eq_getElem?_getD, List.getElem?_drop, List.getD_eq_getElem?_getD]
theorem dec_eq (s : ByteArray) (i : Nat) : Utf8.decode s i = Lib.decodeN (s.size - i) (bt s i) (bt s (i + 1)) (bt s (i + 2)) (bt s (i + 3)) := by
  rw [Lib.decode_at, get_bt, get_bt, get_bt, get_bt]
theorem dec_suf (s : ByteArray) (i j : Nat) : Utf8.decode (suf s i) j = Utf8.decode s (i + j) := by
  rw [dec_eq, dec_eq, size_suf, bt_suf, bt_suf, bt_suf, bt_suf, Nat.sub_sub]
  rfl
theorem dec_go (s : ByteArray) : Lib.decodeGo s = if s.size = 0 then (65533, 0) else Utf8.decode s 0 := rfl
theorem dec_low {s : ByteArray} {i : Nat} (h : bt s i < 128) : Utf8.decode s i = (bt s i, 1) := by
  rw [dec_eq, Lib.decodeN, if_pos h]
theorem decN_size (n b0 b1 b2 b3 : Nat) (h : 0 < n) : 1 ≤ (Lib.decodeN n b0 b1 b2 b3).2 ∧ (Lib.decodeN n b0 b1 b2 b3).2 ≤ n := by
  unfold Lib.decodeN
  repeat' split
  all_goals (simp only; omega)
theorem decN_high (n b0 b1 b2 b3 : Nat) (h : 128 ≤ b0) : 128 ≤ (Lib.decodeN n b0 b1 b2 b3).1 := by
  unfold Lib.decodeN
  repeat' split
  all_goals (simp only; omega)
theorem decN_max (n b0 b1 b2 b3 : Nat) (h : b0 < 256) : (Lib.decodeN n b0 b1 b2 b3).1 ≤ 1114111 := by
  unfold Lib.decodeN
  repeat' split
  all_goals (simp only; omega)
theorem dec_size {s : ByteArray} {i : Nat} (h : i < s.size) : 1 ≤ (Utf8.decode s i).2 ∧ i + (Utf8.decode s i).2 ≤ s.size := by
  rw [dec_eq]
  have := decN_size (s.size - i) (bt s i) (bt s (i + 1)) (bt s (i + 2)) (bt s (i + 3)) (by omega)
  omega
theorem dec_high {s : ByteArray} {i : Nat} (h : 128 ≤ bt s i) : 128 ≤ (Utf8.decode s i).1 := by
  rw [dec_eq]; exact decN_high _ _ _ _ _ h
theorem dec_max (s : ByteArray) (i : Nat) : (Utf8.decode s i).1 ≤ 1114111 := by
  rw [dec_eq]; exact decN_max _ _ _ _ _ (bt_lt _ _)
/-- A rune below 128 is its byte. -/
theorem dec_asc {s : ByteArray} {i c : Nat} (hc : c < 128) : (Utf8.decode s i).1 = c ↔ bt s i = c := by
  by_cases h : bt s i < 128
  · rw [dec_low h]
  · have := dec_high (s := s) (i := i) (by omega)
    omega
end Go.Proofs.YtfknpnkdedckhaaGreatDoorT

/- Letters, digits, names: what the functions on runes come to. -/
namespace Go.Proofs.YtfknpnkdedckhaaGreatDoorT
open Go Go.Proofs
set_option linter.unusedVariables false
theorem tbR {a b : Bool} {l : List T} (h : a = b) : ((tb a, l) : T × List T) = (tb b, l) := by rw [h]
def ltr (n : Int) : Bool := decide ((97 ≤ n ∧ n ≤ 122) ∨ (65 ≤ n ∧ n ≤ 90) ∨ (1072 ≤ n ∧ n ≤ 1103))
def dig (n : Int) : Bool := decide (48 ≤ n ∧ n ≤ 57)
def ins (n : Int) : Bool := ltr n || dig n || decide (n = 95)
theorem r279 (n : Int) : Rn 279 [i32 n] (tb (ltr n), [.dead]) := by
  refine f279 _ _ ?_
  repeat' refine cd (fun h => ?_) (fun h => ?_)
  all_goals exact tbR (Bool.eq_iff_iff.2 (by simp [ltr]; omega))
theorem r274 (n : Int) : Rn 274 [i32 n] (tb (ltr n), [.dead]) := by
  refine f274 _ _ ?_
  repeat' refine cd (fun h => ?_) (fun h => ?_)
  all_goals exact tbR (Bool.eq_iff_iff.2 (by simp [ltr]; omega))
theorem r344 (n : Int) : Rn 344 [i32 n] (tb (dig n), [.dead]) := by
  refine f344 _ _ ?_
  repeat' refine cd (fun h => ?_) (fun h => ?_)
  all_goals exact tbR (Bool.eq_iff_iff.2 (by simp [dig]; omega))
theorem r275 (n : Int) : Rn 275 [i32 n] (tb (dig n), [.dead]) := by
  refine f275 _ _ ?_
  repeat' refine cd (fun h => ?_) (fun h => ?_)
  all_goals exact tbR (Bool.eq_iff_iff.2 (by simp [dig]; omega))
theorem r278 (n : Int) : Rn 278 [i32 n] (tb (ins n), [.dead]) := by
  refine f278 _ _ ⟨_, r279 n, cb (fun h => tbR (by simp [ins, h])) (fun h => ⟨_, r344 n, cb (fun h' => tbR (by simp [ins, h'])) (fun h' => tbR (by simp [ins, h, h']))⟩)⟩
theorem r348 (n : Int) : Rn 348 [i32 n] (tb (ins n), [.dead]) := by
  refine f348 _ _ ⟨_, r274 n, cb (fun h => tbR (by simp [ins, h])) (fun h => ⟨_, r275 n, cb (fun h' => tbR (by simp [ins, h'])) (fun h' => tbR (by simp [ins, h, h']))⟩)⟩
/-- How far, and how many runes, of what may stand in a name there is from a place on. -/
def run (t : ByteArray) : Nat → Nat → Nat → Nat × Nat
  | 0, n, k => (n, k)
  | f + 1, n, k => if n < t.size ∧ ins (Utf8.decode t n).1 = true then run t f (n + (Utf8.decode t n).2) (k + 1) else (n, k)
theorem run_end {t : ByteArray} : ∀ (f n k : Nat), t.size ≤ n → run t f n k = (n, k)
  | 0, n, k, h => rfl
  | f + 1, n, k, h => by rw [run, if_neg (by omega)]
theorem run_more {t : ByteArray} : ∀ (f g n k : Nat), t.size ≤ n + f → t.size ≤ n + g → run t f n k = run t g n k := by
  intro f
  induction f with
  | zero => intro g n k h1 h2; rw [run_end 0 n k (by omega), run_end g n k (by omega)]
  | succ f ih =>
    intro g n k h1 h2
    cases g with
    | zero => rw [run_end _ n k (by omega), run_end _ n k (by omega)]
    | succ g =>
      rw [run, run]
      by_cases h : n < t.size ∧ ins (Utf8.decode t n).1 = true
      · rw [if_pos h, if_pos h]
        have := dec_size h.1
        exact ih g _ _ (by omega) (by omega)
      · rw [if_neg h, if_neg h]
theorem run_le {t : ByteArray} : ∀ (f n k : Nat), n ≤ t.size → n ≤ (run t f n k).1 ∧ (run t f n k).1 ≤ t.size ∧ k ≤ (run t f n k).2 ∧ (run t f n k).2 + n ≤ (run t f n k).1 + k := by
  intro f
  induction f with
  | zero => intro n k h; simp only [run]; omega
  | succ f ih =>
    intro n k h
    rw [run]
    split
    · rename_i hh
      have := dec_size hh.1
      have := ih (n + (Utf8.decode t n).2) (k + 1) (by omega)
      omega
    · simp only; omega
end Go.Proofs.YtfknpnkdedckhaaGreatDoorT

/- Names, numbers, signs: what the functions on texts come to. -/
namespace Go.Proofs.YtfknpnkdedckhaaGreatDoorT
open Go Go.Proofs
set_option linter.unusedVariables false
/-- A name. -/
def nm (t : ByteArray) : Bool := ltr (Lib.decodeGo t).1 && decide ((run t t.size 0 0).1 = t.size) && decide ((run t t.size 0 0).2 ≤ 24)
theorem bleF {n m : Nat} (h : ¬ n ≤ m) : Nat.ble n m = false := by
  cases hb : Nat.ble n m with
  | false => rfl
  | true => exact absurd (Nat.le_of_ble_eq_true hb) h
theorem bleT {n m : Nat} (h : n ≤ m) : Nat.ble n m = true := Nat.ble_eq_true_of_le h
theorem cble {n m : Nat} {A B : Prop} (ht : n ≤ m → A) (hf : ¬ n ≤ m → B) : cond (Nat.ble n m) A B := cb (fun h => ht (Nat.le_of_ble_eq_true h)) (fun h => hf (fun hh => by rw [bleT hh] at h; cases h))
theorem ltr_ins {n : Int} (h : ltr n = true) : ins n = true := by simp [ins, h]
theorem r194 (t : ByteArray) (hs : t.size ≤ maxLen) : Rn 194 [st t] (tb (nm t), [.dead]) := by
  have hm := Nat.le_trans hs maxLen_lt
  have loop : ∀ (f pos k : Nat), t.size ≤ pos + f → pos ≤ t.size → 0 < pos → 0 < k → k ≤ pos → L194_0 (k : Int) t pos (tb (decide ((run t f pos k).1 = t.size) && decide ((run t f pos k).2 ≤ 24)), [.dead]) := by
    intro f
    induction f with
    | zero =>
      intro pos k h h' h0 h1 hk
      refine l194_0 _ _ _ _ (cF (bleF (by omega)) (cT (by simp; omega) (tbR (Bool.eq_iff_iff.2 ?_))))
      have hp : pos = t.size := by omega
      simp only [run, hp, decide_true, Bool.true_and, decide_eq_true_eq]
      omega
    | succ f ih =>
      intro pos k h h' h0 h1 hk
      refine l194_0 _ _ _ _ (cble (fun hn => ?_) (fun hn => ?_))
      · have hn : pos < t.size := hn
        have hz := dec_size hn
        refine ⟨_, r278 _, cb (fun h2 => tbR ?_) (fun h2 => ?_)⟩
        · rw [run, if_neg (by simp at h2; simp [h2])]
          dsimp only
          simp; omega
        · have h2 : ins (Utf8.decode t pos).1 = true := by simpa using h2
          rw [run, if_pos ⟨hn, h2⟩, wS (by omega)]
          exact cF (by simp; omega) (ih _ _ (by omega) (by omega) (by omega) (by omega) (by omega))
      · rw [run_end _ _ _ (by omega)]
        refine cT (by simp; omega) (tbR (Bool.eq_iff_iff.2 ?_))
        have hp : pos = t.size := by omega
        simp only [hp, decide_true, Bool.true_and, decide_eq_true_eq]
        omega
  refine f194 _ _ (l194_0 _ _ _ _ (cble (fun hn => ?_) (fun hn => ?_)))
  · have hn : 0 < t.size := by omega
    have hz := dec_size hn
    have hd : Lib.decodeGo t = Utf8.decode t 0 := by rw [dec_go, if_neg (by omega)]
    refine ⟨_, r278 _, cb (fun h2 => tbR ?_) (fun h2 => cT (by simp) ⟨_, r279 _, cb (fun h3 => tbR ?_) (fun h3 => ?_)⟩)⟩
    · have h2 : ins (Utf8.decode t 0).1 = false := by simpa using h2
      have h3 : ltr (Utf8.decode t 0).1 = false := by
        cases h3 : ltr (Utf8.decode t 0).1 with
        | false => rfl
        | true => rw [ltr_ins h3] at h2; cases h2
      simp [nm, hd, h3]
    · have h3 : ltr (Utf8.decode t 0).1 = false := by simpa using h3
      simp [nm, hd, h3]
    · have h2 : ins (Utf8.decode t 0).1 = true := by simpa using h2
      have h3 : ltr (Utf8.decode t 0).1 = true := by simpa using h3
      obtain ⟨f, hf⟩ : ∃ f, t.size = f + 1 := ⟨t.size - 1, by omega⟩
      have hr : run t t.size 0 0 = run t f (0 + (Utf8.decode t 0).2) (0 + 1) := by rw [hf, run, if_pos ⟨hn, h2⟩]
      rw [nm, hd, h3, hr, Bool.true_and, show IntKind.wrap .i64 (0 + 1) = ((1 : Nat) : Int) by decide]
      exact loop f _ _ (by omega) (by omega) (by omega) (by omega) (by omega)
  · have h0 : t.size = 0 := by omega
    refine cF (by simp) (tbR ?_)
    have hd : Lib.decodeGo t = (65533, 0) := by rw [dec_go, if_pos h0]
    simp [nm, hd, ltr]
end Go.Proofs.YtfknpnkdedckhaaGreatDoorT

/- Expressions; operators; reserved words. -/
namespace Go.Proofs.YtfknpnkdedckhaaGreatDoorT
open Go Go.Proofs
set_option linter.unusedVariables false
inductive E where
  | non
  | lit (n : Int)
  | ref (s : ByteArray)
  | not (x : E)
  | neg (x : E)
  | bin (op : ByteArray) (l r : E)
  deriving Inhabited
/-- How strongly an operator binds; 0: it is none. -/
def lvl (s : ByteArray) : Nat :=
  if s = bs [124, 124] then 1 else if s = bs [38, 38] then 2
  else if s = bs [60] ∨ s = bs [60, 61] ∨ s = bs [61, 61] ∨ s = bs [33, 61] then 3
  else if s = bs [43] ∨ s = bs [45] then 4 else if s = bs [42] then 5 else 0
theorem lvl_le (s : ByteArray) : lvl s ≤ 5 := by
  unfold lvl
  repeat' split
  all_goals omega
/-- chart var state all end do undo at retries on if go set. -/
def RS : List ByteArray := [bs [99, 104, 97, 114, 116], bs [118, 97, 114], bs [115, 116, 97, 116, 101], bs [97, 108, 108], bs [101, 110, 100], bs [100, 111], bs [117, 110, 100, 111], bs [97, 116], bs [114, 101, 116, 114, 105, 101, 115], bs [111, 110], bs [105, 102], bs [103, 111], bs [115, 101, 116]]
def resv (s : ByteArray) : Bool := RS.any fun x => decide (s = x)
end Go.Proofs.YtfknpnkdedckhaaGreatDoorT

/- Expressions as the program has them: what its functions on them come to. -/
namespace Go.Proofs.YtfknpnkdedckhaaGreatDoorT
open Go Go.Proofs
set_option linter.unusedVariables false
/-- As the program has it. -/
def E.v : E → IfV
  | .non => ⟨0, .dead⟩
  | .lit n => ⟨165, .agg [i64 n]⟩
  | .ref s => ⟨378, .agg [st s]⟩
  | .not x => ⟨380, .agg [x.v.v]⟩
  | .neg x => ⟨381, .agg [x.v.v]⟩
  | .bin op l r => ⟨383, .agg [st op, l.v.v, r.v.v]⟩
def E.ops : E → List E
  | .not x => [x]
  | .neg x => [x]
  | .bin _ l r => [l, r]
  | _ => []
def E.nodes : E → Nat
  | .not x => x.nodes + 1
  | .neg x => x.nodes + 1
  | .bin _ l r => l.nodes + r.nodes + 1
  | _ => 1
def E.deep : E → Nat
  | .not x => x.deep + 1
  | .neg x => x.deep + 1
  | .bin _ l r => max l.deep r.deep + 1
  | _ => 1
def E.snd : E → Bool
  | .non => false
  | .lit n => decide (0 ≤ n ∧ n ≤ 1000000000)
  | .ref s => nm s
  | .not x => x.snd
  | .neg x => x.snd
  | .bin op l r => decide (lvl op ≠ 0) && l.snd && r.snd
/-- Names are texts of a length that there is. -/
def E.wf : E → Prop
  | .ref s => s.size ≤ maxLen
  | .not x => x.wf
  | .neg x => x.wf
  | .bin _ l r => l.wf ∧ r.wf
  | _ => True
theorem E.ops_wf {x : E} (h : x.wf) : ∀ y ∈ x.ops, y.wf := by
  cases x <;> simp_all [E.ops, E.wf]
abbrev vs (l : List E) : List T := l.map fun y => y.v.v
theorem getv {l : List E} {k : Nat} (h : k < l.length) : (vs l)[Int.toNat (k : Int)]? = some (l[k]).v.v := getm h
theorem r249 (x : E) : Rn 249 [x.v.v] (.sl 1 (vs x.ops), [.dead]) := by
  cases x with
  | not x => exact f249 _ _ (cT rfl ⟨⟨x.v⟩, rfl, rfl⟩)
  | neg x => exact f249 _ _ (cF rfl (cT rfl ⟨⟨x.v⟩, rfl, rfl⟩))
  | bin op l r => exact f249 _ _ (cF rfl (cF rfl (cT rfl ⟨⟨op, l.v, r.v⟩, rfl, rfl⟩)))
  | _ => exact f249 _ _ (cF rfl (cF rfl (cF rfl rfl)))
theorem nodes_ops : ∀ x : E, x.nodes = (x.ops.map E.nodes).sum + 1 := by intro x; cases x <;> simp [E.nodes, E.ops]
theorem nodes_pos (x : E) : 1 ≤ x.nodes := by rw [nodes_ops]; omega
def least (a b : Int) : Int := if a ≤ b then a else b
theorem loop324 : ∀ (ys : List E) (left : Int), 0 ≤ left → left ≤ 40 → (∀ y ∈ ys, ∀ left : Int, 0 ≤ left → left ≤ 40 → Rn 324 [y.v.v, i64 left] (i64 (least (y.nodes : Int) (left + 1)), [.dead, .dead])) →
    ∀ (d k : Nat) (n : Int), k + d = ys.length → ys.length ≤ 100 → 1 ≤ n → n ≤ left + 1 → L324_0 left n (vs ys) (((vs ys).length : Nat) : Int) (k : Int) (i64 (least (n + (((ys.drop k).map E.nodes).sum : Nat)) (left + 1)), [.dead, .dead]) := by
  intro ys left h0 h1 IH d
  induction d with
  | zero =>
    intro k n hk hl hn hn'
    refine l324_0 _ _ _ _ _ _ (cF (by simp; omega) ?_)
    rw [List.drop_of_length_le (by omega)]
    simp only [List.map_nil, List.sum_nil, least]
    rw [if_pos (by simpa using hn')]
    simp
  | succ d ih =>
    intro k n hk hl hn hn'
    have hlt : k < ys.length := by omega
    have hd : ((ys.drop k).map E.nodes).sum = (ys[k]).nodes + ((ys.drop (k + 1)).map E.nodes).sum := by rw [List.drop_eq_getElem_cons hlt, List.map_cons, List.sum_cons]
    have hp := nodes_pos ys[k]
    refine l324_0 _ _ _ _ _ _ (cT (by simp; omega) ⟨(ys[k]).v, ⟨by omega, getv hlt⟩, cd (fun hle => ?_) (fun hle => ?_)⟩)
    · rw [w64 (n := left - n) (by omega)]
      refine ⟨_, IH _ (List.getElem_mem hlt) (left - n) (by omega) (by omega), ?_⟩
      rw [wS (by omega), w64 (by unfold least; split <;> omega)]
      have := ih (k + 1) (n + least ((ys[k]).nodes : Int) (left - n + 1)) (by omega) hl (by unfold least; split <;> omega) (by unfold least; split <;> omega)
      have e : least (n + ((((ys.drop k).map E.nodes).sum : Nat) : Int)) (left + 1) = least (n + least ((ys[k]).nodes : Int) (left - n + 1) + ((((ys.drop (k + 1)).map E.nodes).sum : Nat) : Int)) (left + 1) := by
        rw [hd]
        unfold least
        repeat' split
        all_goals omega
      rw [e]
      exact this
    · rw [wS (by omega)]
      have := ih (k + 1) n (by omega) hl hn hn'
      have e : least (n + ((((ys.drop k).map E.nodes).sum : Nat) : Int)) (left + 1) = least (n + ((((ys.drop (k + 1)).map E.nodes).sum : Nat) : Int)) (left + 1) := by
        rw [hd]
        unfold least
        repeat' split
        all_goals omega
      rw [e]
      exact this
theorem ops_len (x : E) : x.ops.length ≤ 2 := by cases x <;> simp [E.ops]
theorem r324_of (x : E) (IH : ∀ y ∈ x.ops, ∀ left : Int, 0 ≤ left → left ≤ 40 → Rn 324 [y.v.v, i64 left] (i64 (least (y.nodes : Int) (left + 1)), [.dead, .dead])) :
    ∀ left : Int, 0 ≤ left → left ≤ 40 → Rn 324 [x.v.v, i64 left] (i64 (least (x.nodes : Int) (left + 1)), [.dead, .dead]) := by
  intro left h0 h1
  have := loop324 x.ops left h0 h1 IH x.ops.length 0 1 (by omega) (by have := ops_len x; omega) (by omega) (by omega)
  rw [List.drop_zero] at this
  have e : ((x.nodes : Nat) : Int) = 1 + ((((x.ops).map E.nodes).sum : Nat) : Int) := by rw [nodes_ops]; omega
  rw [e]
  exact f324 _ _ _ ⟨_, r249 x, this⟩
theorem r324 : ∀ (x : E) (left : Int), 0 ≤ left → left ≤ 40 → Rn 324 [x.v.v, i64 left] (i64 (least (x.nodes : Int) (left + 1)), [.dead, .dead]) := by
  intro x
  induction x with
  | non => exact r324_of _ (fun y h => by simp [E.ops] at h)
  | lit n => exact r324_of _ (fun y h => by simp [E.ops] at h)
  | ref s => exact r324_of _ (fun y h => by simp [E.ops] at h)
  | not x ih => exact r324_of _ (fun y h => by simp only [E.ops, List.mem_singleton] at h; subst h; exact ih)
  | neg x ih => exact r324_of _ (fun y h => by simp only [E.ops, List.mem_singleton] at h; subst h; exact ih)
  | bin op l r ih1 ih2 => exact r324_of _ (fun y h => by
      simp only [E.ops, List.mem_cons, List.not_mem_nil, or_false] at h
      rcases h with rfl | rfl
      · exact ih1
      · exact ih2)
theorem r245 (x : E) : Rn 245 [x.v.v] (i64 (least (x.nodes : Int) 41), [.dead]) := by
  refine f245 _ _ ⟨_, r324 x 40 (by omega) (by omega), ?_⟩
  rw [show ((40 : Int) + 1) = 41 by rfl, if_neg (by unfold least; split <;> omega)]
/-- The place of a text among texts. -/
theorem r349 (L : List ByteArray) (x : ByteArray) (hL : L.length ≤ 1000) : ∃ n : Int, Rn 349 [.sl 1 (L.map st), st x] (i64 n, [.dead, .dead]) ∧ decide (0 ≤ n) = L.any fun y => decide (x = y) := by
  have loop : ∀ (d k : Nat), k + d = L.length → ∃ n : Int, L349_0 (L.map st) x (((L.map st).length : Nat) : Int) (k : Int) (i64 n, [.dead, .dead]) ∧ decide (0 ≤ n) = (L.drop k).any fun y => decide (x = y) := by
    intro d
    induction d with
    | zero => intro k hk; exact ⟨-1, l349_0 _ _ _ _ _ (cF (by simp; omega) rfl), by rw [List.drop_of_length_le (by omega)]; simp⟩
    | succ d ih =>
      intro k hk
      have hlt : k < L.length := by omega
      rw [List.drop_eq_getElem_cons hlt]
      by_cases h : x = L[k]
      · exact ⟨(k : Int), l349_0 _ _ _ _ _ (cT (by simp; omega) ⟨L[k], ⟨by omega, getm hlt⟩, cT (by simpa using h) rfl⟩), by rw [List.any_cons, decide_eq_true h, Bool.true_or]; simp⟩
      · obtain ⟨n, h1, h2⟩ := ih (k + 1) (by omega)
        refine ⟨n, l349_0 _ _ _ _ _ (cT (by simp; omega) ⟨L[k], ⟨by omega, getm hlt⟩, cF (by simpa using h) ?_⟩), by rw [List.any_cons, decide_eq_false h, Bool.false_or]; exact h2⟩
        rw [wS (by omega)]
        exact h1
  obtain ⟨n, h1, h2⟩ := loop L.length 0 (by omega)
  exact ⟨n, f349 _ _ _ h1, h2⟩
theorem r280 (L : List ByteArray) (x : ByteArray) (hL : L.length ≤ 1000) : Rn 280 [.sl 1 (L.map st), st x] (tb (L.any fun y => decide (x = y)), [.dead, .dead]) := by
  obtain ⟨n, h1, h2⟩ := r349 L x hL
  exact f280 _ _ _ ⟨n, h1, by rw [h2]⟩
/-- + - * < <= == != && ||. -/
def OPS : List ByteArray := [bs [43], bs [45], bs [42], bs [60], bs [60, 61], bs [61, 61], bs [33, 61], bs [38, 38], bs [124, 124]]
theorem ops_lvl (s : ByteArray) : (OPS.any fun y => decide (s = y)) = decide (lvl s ≠ 0) := by
  refine Bool.eq_iff_iff.2 ?_
  simp only [OPS, List.any_cons, List.any_nil, Bool.or_false, Bool.or_eq_true, decide_eq_true_eq]
  unfold lvl
  constructor
  · rintro (h | h | h | h | h | h | h | h | h) <;> subst h <;> decide
  · intro h
    refine Classical.byContradiction fun hn => ?_
    simp only [not_or] at hn
    obtain ⟨a1, a2, a3, a4, a5, a6, a7, a8, a9⟩ := hn
    exact h (by simp [a1, a2, a3, a4, a5, a6, a7, a8, a9])
abbrev clo327 (n : Int) : T := .fn (.func 327) [] [.cbox 3 [i64 n]]
def leB (d : Nat) (n : Int) : Bool := decide ((d : Int) ≤ n)
theorem leB_t {d : Nat} {n : Int} (h : (d : Int) ≤ n) : leB d n = true := decide_eq_true h
theorem leB_f {d : Nat} {n : Int} (h : ¬ (d : Int) ≤ n) : leB d n = false := decide_eq_false h
theorem leB_s (d : Nat) (n : Int) : leB (d + 1) n = leB d (n - 1) := decide_eq_decide.2 (by omega)
theorem leB_m (a b : Nat) (n : Int) : leB (max a b + 1) n = (leB a (n - 1) && leB b (n - 1)) := by
  unfold leB
  refine Bool.eq_iff_iff.2 ?_
  simp only [decide_eq_true_eq, Bool.and_eq_true]
  omega
def E.sd (x : E) (n : Int) : Bool := x.snd && leB x.deep n
theorem r326 (ys : List E) (n : Int) (hl : ys.length ≤ 2) (hn : 1 ≤ n) (hn' : n ≤ 12) (IH : ∀ y ∈ ys, Rn 246 [y.v.v, i64 (n - 1)] (tb (y.sd (n - 1)), [.dead, .dead])) :
    Rn 326 [.sl 1 (vs ys), clo327 n] (tb (ys.any fun y => !(y.sd (n - 1))), [.dead, clo327 n]) := by
  have loop : ∀ (d k : Nat), k + d = ys.length → ∃ m : Int, L372_0 (vs ys) (((vs ys).length : Nat) : Int) (k : Int) n (i64 m, [.dead, clo327 n]) ∧ decide (0 ≤ m) = (ys.drop k).any fun y => !(y.sd (n - 1)) := by
    intro d
    induction d with
    | zero => intro k hk; exact ⟨-1, l372_0 _ _ _ _ _ (cF (by simp; omega) rfl), by rw [List.drop_of_length_le (by omega)]; simp⟩
    | succ d ih =>
      intro k hk
      have hlt : k < ys.length := by omega
      rw [List.drop_eq_getElem_cons hlt]
      have hx := IH _ (List.getElem_mem hlt)
      have h94 : Rn 327 [(ys[k]).v.v, .cbox 3 [i64 n]] (tb (!((ys[k]).sd (n - 1))), [.dead, .cbox 3 [i64 n]]) := by
        refine f327 _ _ _ ⟨(ys[k]).sd (n - 1), ?_, rfl⟩
        rw [w64 (by omega)]
        exact hx
      cases hb : (ys[k]).sd (n - 1) with
      | false =>
        rw [hb] at h94
        exact ⟨(k : Int), l372_0 _ _ _ _ _ (cT (by simp; omega) ⟨_, ⟨by omega, getv hlt⟩, _, n, h94, cT rfl rfl⟩), by rw [List.any_cons, hb]; simp⟩
      | true =>
        rw [hb] at h94
        obtain ⟨m, h1, h2⟩ := ih (k + 1) (by omega)
        refine ⟨m, l372_0 _ _ _ _ _ (cT (by simp; omega) ⟨_, ⟨by omega, getv hlt⟩, _, n, h94, cF rfl ?_⟩), by rw [List.any_cons, hb]; simpa using h2⟩
        rw [wS (by omega)]
        exact h1
  obtain ⟨m, h1, h2⟩ := loop ys.length 0 (by omega)
  rw [List.drop_zero] at h2
  exact f326 _ _ _ ⟨m, n, f372 _ _ _ h1, by rw [h2]⟩
theorem deep_pos (x : E) : 1 ≤ x.deep := by cases x <;> simp [E.deep]
theorem sd_zero (x : E) : x.sd 0 = false := by
  have := deep_pos x
  unfold E.sd
  rw [leB_f (by omega), Bool.and_false]
theorem r246 : ∀ (x : E), x.wf → ∀ n : Int, 0 ≤ n → n ≤ 12 → Rn 246 [x.v.v, i64 n] (tb (x.sd n), [.dead, .dead]) := by
  -- two that have operands, but are no operators
  have one : ∀ (x y : E), x.ops = [y] → (∀ n, x.sd n = y.sd (n - 1)) → (∀ n : Int, 0 ≤ n → n ≤ 12 → Rn 246 [y.v.v, i64 n] (tb (y.sd n), [.dead, .dead])) → ∀ (n : Int) (R : T × List T), 0 ≤ n → n ≤ 12 → R = (tb (x.sd n), [.dead, .dead]) →
      ∃ l2 : List T, (Rn 249 [x.v.v] (.sl 1 l2, [.dead])) ∧ (cond (decide ((0 : Int) < n)) (cond (decide ((0 : Int) < (((List.length l2) : Nat) : Int)))
       (∃ b3 : Bool, ∃ n1 : Int, (Rn 326 [.sl 1 l2, .fn (.func 327) [] [.cbox 3 [i64 n]]] (tb b3, [.dead, .fn (.func 327) [] [.cbox 3 [i64 n1]]])) ∧ (R = (tb (!b3), [.dead, .dead])))
       (R = (tb false, [.dead, .dead]))) (R = (tb false, [.dead, .dead]))) := by
    intro x y hx hsd ih n R h0 h12 hR
    refine ⟨_, r249 x, cd (fun hp => cT (by rw [hx]; rfl) ?_) (fun hp => ?_)⟩
    · have := r326 x.ops n (by rw [hx]; simp) (by omega) h12 (fun z hz => by rw [hx] at hz; simp only [List.mem_singleton] at hz; subst hz; exact ih (n - 1) (by omega) (by omega))
      refine ⟨_, n, this, ?_⟩
      rw [hR, hx, hsd]
      simp
    · rw [hR, show n = 0 by omega, sd_zero]
  intro x
  induction x with
  | non => intro hw n h0 h12; exact f246 _ _ _ (cF rfl (cF rfl (cF rfl ⟨_, r249 .non, cd (fun hp => cF rfl (tbR (by simp [E.sd, E.snd]))) (fun hp => tbR (by simp [E.sd, E.snd]))⟩)))
  | lit m =>
    intro hw n h0 h12
    refine f246 _ _ _ (cT rfl ⟨⟨m⟩, rfl, cd (fun hp => cd (fun hm => tbR ?_) (fun hm => tbR ?_)) (fun hp => tbR ?_)⟩)
    · have hm : 0 ≤ m := hm
      simp only [E.sd, E.snd, E.deep]
      rw [leB_t (by omega), Bool.and_true]
      exact decide_eq_decide.2 ⟨fun h => h.2, fun h => ⟨hm, h⟩⟩
    · have hm : ¬ 0 ≤ m := hm
      simp only [E.sd, E.snd, E.deep]
      rw [decide_eq_false (fun h => hm h.1), Bool.false_and]
    · rw [show n = 0 by omega, sd_zero]
  | ref s =>
    intro hw n h0 h12
    refine f246 _ _ _ (cF rfl (cT rfl ⟨⟨s⟩, rfl, cd (fun hp => ⟨_, r194 s hw, tbR ?_⟩) (fun hp => tbR ?_)⟩))
    · simp only [E.sd, E.snd, E.deep]
      rw [leB_t (by omega), Bool.and_true]
    · rw [show n = 0 by omega, sd_zero]
  | not x ih =>
    intro hw n h0 h12
    refine f246 _ _ _ (cF rfl (cF rfl (cF rfl (one (.not x) x rfl (fun n => ?_) (ih hw) n _ h0 h12 rfl))))
    simp only [E.sd, E.snd, E.deep, leB_s]
  | neg x ih =>
    intro hw n h0 h12
    refine f246 _ _ _ (cF rfl (cF rfl (cF rfl (one (.neg x) x rfl (fun n => ?_) (ih hw) n _ h0 h12 rfl))))
    simp only [E.sd, E.snd, E.deep, leB_s]
  | bin op l r ih1 ih2 =>
    intro hw n h0 h12
    have h91 := r280 OPS op (by decide)
    rw [ops_lvl] at h91
    refine f246 _ _ _ (cF rfl (cF rfl (cT rfl ⟨⟨op, l.v, r.v⟩, rfl, _, f325 _ rfl, _, h91, cb (fun hb => tbR ?_) (fun hb => ?_)⟩)))
    · have hb : decide (lvl op ≠ 0) = false := by simpa using hb
      simp [E.sd, E.snd, hb]
    · have hb : decide (lvl op ≠ 0) = true := by simpa using hb
      refine ⟨_, r249 (.bin op l r), cd (fun hp => cT rfl ?_) (fun hp => tbR (by rw [show n = 0 by omega, sd_zero]))⟩
      have := r326 [l, r] n (by simp) (by omega) h12 (fun z hz => by
        simp only [List.mem_cons, List.not_mem_nil, or_false] at hz
        rcases hz with rfl | rfl
        · exact ih1 hw.1 (n - 1) (by omega) (by omega)
        · exact ih2 hw.2 (n - 1) (by omega) (by omega))
      refine ⟨_, n, this, tbR ?_⟩
      simp only [E.sd, E.snd, E.deep, hb, List.any_cons, List.any_nil, Bool.or_false, Bool.true_and]
      rw [leB_m]
      cases l.snd <;> cases r.snd <;> cases leB l.deep (n - 1) <;> cases leB r.deep (n - 1) <;> rfl
/-- Formed. -/
def E.ok (x : E) : Bool := decide (x.nodes ≤ 40) && x.sd 12
theorem r165 (x : E) (hw : x.wf) : Rn 165 [x.v.v] (tb x.ok, [.dead]) := by
  refine f165 _ _ ⟨_, r245 x, cd (fun h => ⟨_, r246 x hw 12 (by omega) (by omega), tbR ?_⟩) (fun h => tbR ?_)⟩
  · have : x.nodes ≤ 40 := by unfold least at h; split at h <;> omega
    rw [E.ok, decide_eq_true this, Bool.true_and]
  · have : ¬ x.nodes ≤ 40 := by unfold least at h; split at h <;> omega
    rw [E.ok, decide_eq_false this, Bool.false_and]
end Go.Proofs.YtfknpnkdedckhaaGreatDoorT

/- Expressions as the document has them: their size. -/
namespace Go.Proofs.YtfknpnkdedckhaaGreatDoorT
open Go Go.Proofs
set_option linter.unusedVariables false
/-- As the document has it. -/
def E.d : E → W_tumbrelref04_Node
  | .non => ⟨0, 0, bs [], []⟩
  | .lit n => ⟨1, n, bs [], []⟩
  | .ref s => ⟨2, 0, s, []⟩
  | .not x => ⟨3, 0, bs [], [x.d.t]⟩
  | .neg x => ⟨4, 0, bs [], [x.d.t]⟩
  | .bin op l r => ⟨5, 0, op, [l.d.t, r.d.t]⟩
abbrev ds (l : List E) : List T := l.map fun y => y.d.t
theorem getd {l : List E} {k : Nat} (h : k < l.length) : (ds l)[Int.toNat (k : Int)]? = some (l[k]).d.t := getm h
theorem d_parts (x : E) : x.d.fParts = ds x.ops := by cases x <;> rfl
theorem r351_of (x : E) (IH : ∀ y ∈ x.ops, Rn 351 [y.d.t] (i64 (least (y.nodes : Int) 41), [.dead])) : Rn 351 [x.d.t] (i64 (least (x.nodes : Int) 41), [.dead]) := by
  have hlen := ops_len x
  have loop : ∀ (d k : Nat) (n : Int), k + d = x.ops.length → 0 ≤ n → n ≤ 1 + 41 * k → L351_0 n (((x.d.fParts).length : Nat) : Int) (k : Int) x.d (i64 (least (n + ((((x.ops.drop k).map E.nodes).sum : Nat) : Int)) 41), [.dead]) := by
    intro d
    induction d with
    | zero =>
      intro k n hk h0 h1
      rw [d_parts]
      refine l351_0 _ _ _ _ _ (cF (by simp; omega) ?_)
      rw [List.drop_of_length_le (by omega)]
      simp only [List.map_nil, List.sum_nil, least]
      congr 2
      repeat' split
      all_goals omega
    | succ d ih =>
      intro k n hk h0 h1
      have hlt : k < x.ops.length := by omega
      have hd : ((x.ops.drop k).map E.nodes).sum = (x.ops[k]).nodes + ((x.ops.drop (k + 1)).map E.nodes).sum := by rw [List.drop_eq_getElem_cons hlt, List.map_cons, List.sum_cons]
      have hp := nodes_pos x.ops[k]
      have h := ih (k + 1) (n + least ((x.ops[k]).nodes : Int) 41) (by omega) (by unfold least; split <;> omega) (by unfold least; split <;> omega)
      rw [d_parts] at h ⊢
      refine l351_0 _ _ _ _ _ (cT (by simp; omega) ⟨(x.ops[k]).d, ⟨by omega, by rw [d_parts]; exact getd hlt⟩, _, IH _ (List.getElem_mem hlt), ?_⟩)
      rw [wS (by omega), w64 (by unfold least; split <;> omega)]
      have e : least (n + ((((x.ops.drop k).map E.nodes).sum : Nat) : Int)) 41 = least (n + least ((x.ops[k]).nodes : Int) 41 + ((((x.ops.drop (k + 1)).map E.nodes).sum : Nat) : Int)) 41 := by
        rw [hd]
        unfold least
        repeat' split
        all_goals omega
      rw [e]
      exact h
  have := loop x.ops.length 0 1 (by omega) (by omega) (by omega)
  rw [List.drop_zero] at this
  have e : ((x.nodes : Nat) : Int) = 1 + ((((x.ops).map E.nodes).sum : Nat) : Int) := by rw [nodes_ops]; omega
  rw [e]
  exact f351 _ _ this
theorem E.rec_ops {p : E → Prop} (h : ∀ x : E, (∀ y ∈ x.ops, p y) → p x) : ∀ x, p x := by
  intro x
  induction x with
  | non => exact h _ (fun y h => by simp [E.ops] at h)
  | lit n => exact h _ (fun y h => by simp [E.ops] at h)
  | ref s => exact h _ (fun y h => by simp [E.ops] at h)
  | not x ih => exact h _ (fun y h => by simp only [E.ops, List.mem_singleton] at h; subst h; exact ih)
  | neg x ih => exact h _ (fun y h => by simp only [E.ops, List.mem_singleton] at h; subst h; exact ih)
  | bin op l r ih1 ih2 => exact h _ (fun y h => by
      simp only [E.ops, List.mem_cons, List.not_mem_nil, or_false] at h
      rcases h with rfl | rfl
      · exact ih1
      · exact ih2)
theorem r351 : ∀ x : E, Rn 351 [x.d.t] (i64 (least (x.nodes : Int) 41), [.dead]) := E.rec_ops r351_of
theorem deep_nodes : ∀ x : E, x.deep ≤ x.nodes := by
  intro x
  induction x <;> simp only [E.deep, E.nodes] <;> omega
theorem deep_ops (x : E) : x.deep = (x.ops.map E.deep).foldl max 0 + 1 := by cases x <;> simp [E.deep, E.ops]
theorem nodes_mem {x y : E} (h : y ∈ x.ops) : y.nodes < x.nodes := by
  cases x <;> simp [E.ops] at h
  · subst h; simp [E.nodes]
  · subst h; simp [E.nodes]
  · rcases h with rfl | rfl <;> simp only [E.nodes] <;> omega
theorem r352 : ∀ x : E, x.nodes ≤ 40 → Rn 352 [x.d.t] (i64 (x.deep : Int), [.dead]) := by
  refine E.rec_ops fun x IH h40 => ?_
  have hlen := ops_len x
  have hb : ∀ y ∈ x.ops, y.deep ≤ 40 := fun y hy => by have := nodes_mem hy; have := deep_nodes y; omega
  have loop : ∀ (d k n : Nat), k + d = x.ops.length → n ≤ 40 → L352_0 (n : Int) (((x.d.fParts).length : Nat) : Int) (k : Int) x.d (i64 ((((x.ops.drop k).map E.deep).foldl max n + 1 : Nat) : Int), [.dead]) := by
    intro d
    induction d with
    | zero =>
      intro k n hk hn
      rw [d_parts]
      refine l352_0 _ _ _ _ _ (cF (by simp; omega) ?_)
      rw [List.drop_of_length_le (by omega), wS (by omega)]
      rfl
    | succ d ih =>
      intro k n hk hn
      have hlt : k < x.ops.length := by omega
      have hy := hb _ (List.getElem_mem hlt)
      have h := ih (k + 1) (max n (x.ops[k]).deep) (by omega) (by omega)
      rw [List.drop_eq_getElem_cons hlt]
      rw [d_parts] at h ⊢
      refine l352_0 _ _ _ _ _ (cT (by simp; omega) ⟨(x.ops[k]).d, ⟨by omega, by rw [d_parts]; exact getd hlt⟩, _, IH _ (List.getElem_mem hlt) (by have := nodes_mem (List.getElem_mem hlt); omega), ?_⟩)
      rw [wS (by omega)]
      have e : (if (n : Int) < ((x.ops[k]).deep : Int) then ((x.ops[k]).deep : Int) else (n : Int)) = ((max n (x.ops[k]).deep : Nat) : Int) := by split <;> omega
      rw [e]
      exact h
  have := loop x.ops.length 0 0 (by omega) (by omega)
  rw [List.drop_zero, ← deep_ops] at this
  exact f352 _ _ this
theorem r385 (s : ByteArray) : Rn 385 [st s] (tb (decide (lvl s ≠ 0)), [.dead]) := by
  rw [← ops_lvl]
  have yes : s ∈ OPS → (OPS.any fun y => decide (s = y)) = true := fun h => List.any_eq_true.2 ⟨s, h, by simp⟩
  refine f385 _ _ ?_
  refine cd (fun h => tbR (yes (by subst h; simp [OPS]))) (fun h1 => ?_)
  refine cd (fun h => tbR (yes (by subst h; simp [OPS]))) (fun h2 => ?_)
  refine cd (fun h => tbR (yes (by subst h; simp [OPS]))) (fun h3 => ?_)
  refine cd (fun h => tbR (yes (by subst h; simp [OPS]))) (fun h4 => ?_)
  refine cd (fun h => tbR (yes (by subst h; simp [OPS]))) (fun h5 => ?_)
  refine cd (fun h => tbR (yes (by subst h; simp [OPS]))) (fun h6 => ?_)
  refine cd (fun h => tbR (yes (by subst h; simp [OPS]))) (fun h7 => ?_)
  refine cd (fun h => tbR (yes (by subst h; simp [OPS]))) (fun h8 => ?_)
  refine cd (fun h => tbR (yes (by subst h; simp [OPS]))) (fun h9 => tbR ?_)
  simp only [OPS, List.any_cons, List.any_nil, h1, h2, h3, h4, h5, h6, h7, h8, h9, decide_false, Bool.or_false]
end Go.Proofs.YtfknpnkdedckhaaGreatDoorT

/- Raw expressions, by both; their size. -/
namespace Go.Proofs.YtfknpnkdedckhaaGreatDoorT
open Go Go.Proofs
set_option linter.unusedVariables false
/-- A raw expression: what it is, by both. -/
theorem raw : ∀ (m : Nat) (w : W_tumbrelref04_Node), ByteArray.size w.fS ≤ reachBytes → SlT Tryz.prog m 72 w.fParts → ∃ x : E, x.wf ∧ Rn 153 [w.t] (x.v.v, [.dead]) ∧ Rn 156 [w.t] (x.d.t, [.dead]) := by
  intro m
  induction m using Nat.strongRecOn with
  | _ m ih =>
    intro w hS hs
    have hl := Nat.le_trans hs.len maxLen_lt
    have part : ∀ i : Nat, i ≤ 1 → ∃ x : E, x.wf ∧ Rn 244 [i64 (i : Int), .cbox 72 [i64 w.fKind, i64 w.fN, st w.fS, .sl 4 w.fParts]] (x.v.v, [.dead, .cbox 72 [i64 w.fKind, i64 w.fN, st w.fS, .sl 4 w.fParts]]) ∧
        ((i < w.fParts.length ∧ ∃ w1 : W_tumbrelref04_Node, w.fParts[i]? = some w1.t ∧ Rn 156 [w1.t] (x.d.t, [.dead])) ∨ (¬ i < w.fParts.length ∧ x = .non)) := by
      intro i hi1
      by_cases hi : i < w.fParts.length
      · obtain ⟨y, hx, hy⟩ := hs.get (List.getElem?_eq_getElem hi)
        obtain ⟨w1, hw1, _, _, hS1, m', hm', hs'⟩ := d72 hy
        obtain ⟨x, hwf, h20, h22⟩ := ih m' hm' w1 hS1 hs'
        rw [hw1] at hx
        have hg : w.fParts[i]? = some w1.t := by rw [List.getElem?_eq_getElem hi, hx]
        exact ⟨x, hwf, f244 _ _ _ _ _ _ (cT (by simp; omega) ⟨w1, ⟨by omega, by rw [toN]; exact hg⟩, _, h20, rfl⟩), .inl ⟨hi, w1, hg, h22⟩⟩
      · exact ⟨.non, trivial, f244 _ _ _ _ _ _ (cF (by simp; omega) rfl), .inr ⟨hi, rfl⟩⟩
    have step : ∀ (n i : Nat) (l : List T) (n2 n3 : Int) (s : ByteArray) (n4 n5 : Int) (s1 : ByteArray) (R : T × List T) (x : E), i < n → n ≤ 2 → l.length ≤ 2 → ((i < w.fParts.length ∧ ∃ w1 : W_tumbrelref04_Node, w.fParts[i]? = some w1.t ∧ Rn 156 [w1.t] (x.d.t, [.dead])) ∨ (¬ i < w.fParts.length ∧ x = .non)) →
        L156_0 (n : Int) ((i + 1 : Nat) : Int) w n2 n3 s n4 n5 s1 (l ++ [x.d.t]) R → L156_0 (n : Int) (i : Int) w n2 n3 s n4 n5 s1 l R := by
      intro n i l n2 n3 s n4 n5 s1 R x hin hn hll hx h
      rcases hx with ⟨hi, w1, hg, h22⟩ | ⟨hi, rfl⟩
      · refine l156_0 _ _ _ _ _ _ _ _ _ _ _ (cT (by simp; omega) (cT (by simp; omega) ⟨w1, ⟨by omega, by rw [toN]; exact hg⟩, x.d, h22, ckn (by omega) ?_⟩))
        rw [wS (by omega)]
        exact h
      · refine l156_0 _ _ _ _ _ _ _ _ _ _ _ (cT (by simp; omega) (cF (by simp; omega) (ckn (by omega) ?_)))
        rw [wS (by omega)]
        exact h
    have fin : ∀ (n : Nat) (l : List T) (n2 n3 : Int) (s : ByteArray) (n4 n5 : Int) (s1 : ByteArray), L156_0 (n : Int) (n : Int) w n2 n3 s n4 n5 s1 l (.agg [i64 n4, i64 n5, st s1, .sl 4 l], [.dead]) := fun n l n2 n3 s n4 n5 s1 => l156_0 _ _ _ _ _ _ _ _ _ _ _ (cF (by simp) rfl)
    obtain ⟨x0, wf0, h0, p0⟩ := part 0 (by omega)
    obtain ⟨x1, wf1, h1, p1⟩ := part 1 (by omega)
    by_cases k1 : w.fKind = 1
    · exact ⟨.lit w.fN, trivial, f153 _ _ (cT (by simpa using k1) rfl), f156 _ _ (cT (by simpa using k1) rfl)⟩
    by_cases k2 : w.fKind = 2
    · exact ⟨.ref w.fS, reach_max hS, f153 _ _ (cF (by simpa using k1) (cT (by simpa using k2) rfl)), f156 _ _ (cF (by simpa using k1) (cT (by simpa using k2) rfl))⟩
    by_cases k3 : w.fKind = 3
    · refine ⟨.not x0, wf0, f153 _ _ (cF (by simpa using k1) (cF (by simpa using k2) (cT (by simpa using k3) ⟨_, h0, rfl⟩))), f156 _ _ (cF (by simpa using k1) (cF (by simpa using k2) (cT (by simpa using k3) ?_)))⟩
      have := step 1 0 [] 0 0 (bs []) w.fKind 0 (bs []) _ x0 (by omega) (by omega) (by simp) p0 (fin 1 _ _ _ _ _ _ _)
      rw [k3] at this ⊢
      exact this
    by_cases k4 : w.fKind = 4
    · refine ⟨.neg x0, wf0, f153 _ _ (cF (by simpa using k1) (cF (by simpa using k2) (cF (by simpa using k3) (cT (by simpa using k4) ⟨_, h0, rfl⟩)))), f156 _ _ (cF (by simpa using k1) (cF (by simpa using k2) (cF (by simpa using k3) (cT (by simpa using k4) ?_))))⟩
      have := step 1 0 [] 0 0 (bs []) w.fKind 0 (bs []) _ x0 (by omega) (by omega) (by simp) p0 (fin 1 _ _ _ _ _ _ _)
      rw [k4] at this ⊢
      exact this
    by_cases k5 : w.fKind = 5
    · refine ⟨.bin w.fS x0 x1, ⟨wf0, wf1⟩, f153 _ _ (cF (by simpa using k1) (cF (by simpa using k2) (cF (by simpa using k3) (cF (by simpa using k4) (cT (by simpa using k5) ⟨_, h0, rfl, _, h1, rfl, rfl⟩))))), f156 _ _ (cF (by simpa using k1) (cF (by simpa using k2) (cF (by simpa using k3) (cF (by simpa using k4) (cT (by simpa using k5) ?_)))))⟩
      exact step 2 0 [] 0 0 (bs []) 5 0 w.fS _ x0 (by omega) (by omega) (by simp) p0 (step 2 1 _ 0 0 (bs []) 5 0 w.fS _ x1 (by omega) (by omega) (by simp) p1 (fin 2 _ _ _ _ _ _ _))
    · exact ⟨.non, trivial, f153 _ _ (cF (by simpa using k1) (cF (by simpa using k2) (cF (by simpa using k3) (cF (by simpa using k4) (cF (by simpa using k5) rfl))))), f156 _ _ (cF (by simpa using k1) (cF (by simpa using k2) (cF (by simpa using k3) (cF (by simpa using k4) (cF (by simpa using k5) (fin 0 [] 0 0 (bs []) 0 0 (bs [])))))))⟩
/-- An expression's size is looked at: some answer. -/
theorem r255 : ∀ (m : Nat) (w : W_tumbrelref04_Node), SlT Tryz.prog m 72 w.fParts → ∀ depth left : Int, ∃ n : Int, Rn 255 [w.t, i64 depth, i64 left] (i64 n, [.dead, .dead, .dead]) := by
  intro m
  induction m using Nat.strongRecOn with
  | _ m ih =>
    intro w hs depth left
    have hl := Nat.le_trans hs.len maxLen_lt
    have loop : ∀ (d k : Nat) (left : Int), k + d = w.fParts.length → ∃ n : Int, L255_0 depth left ((w.fParts.length : Nat) : Int) (k : Int) w (i64 n, [.dead, .dead, .dead]) := by
      intro d
      induction d with
      | zero => exact fun k left hk => ⟨left, l255_0 _ _ _ _ _ _ (cF (by simp; omega) rfl)⟩
      | succ d ihd =>
        intro k left hk
        have hlt : k < w.fParts.length := by omega
        obtain ⟨y1, hx, hy1⟩ := hs.get (List.getElem?_eq_getElem hlt)
        obtain ⟨w1, hw1, _, _, _, m', hm', hs'⟩ := d72 hy1
        obtain ⟨n2, h2⟩ := ih m' hm' w1 hs' (IntKind.wrap .i64 (depth + 1)) left
        rw [hw1] at hx
        have hg : w.fParts[Int.toNat (k : Int)]? = some w1.t := by rw [toN, List.getElem?_eq_getElem hlt, hx]
        by_cases hn : n2 < 0
        · exact ⟨-1, l255_0 _ _ _ _ _ _ (cT (by simp; omega) ⟨w1, ⟨by omega, hg⟩, n2, h2, cT (by simpa using hn) rfl⟩)⟩
        · obtain ⟨n, hn'⟩ := ihd (k + 1) n2 (by omega)
          refine ⟨n, l255_0 _ _ _ _ _ _ (cT (by simp; omega) ⟨w1, ⟨by omega, hg⟩, n2, h2, cF (by simpa using hn) ?_⟩)⟩
          rw [wS (by omega)]
          exact hn'
    by_cases h1 : (60 : Int) < depth
    · exact ⟨-1, f255 _ _ _ _ (cT (by simpa using h1) rfl)⟩
    by_cases h2 : IntKind.wrap .i64 (left - 1) < 0
    · exact ⟨-1, f255 _ _ _ _ (cF (by simpa using h1) (cT (by simpa using h2) rfl))⟩
    by_cases h3 : (1000 : Int) < ((ByteArray.size w.fS : Nat) : Int)
    · exact ⟨-1, f255 _ _ _ _ (cF (by simpa using h1) (cF (by simpa using h2) (cT (by simpa using h3) rfl)))⟩
    obtain ⟨n, hn⟩ := loop w.fParts.length 0 (IntKind.wrap .i64 (left - 1)) (by omega)
    exact ⟨n, f255 _ _ _ _ (cF (by simpa using h1) (cF (by simpa using h2) (cF (by simpa using h3) hn)))⟩
theorem r171 {m : Nat} {w : W_tumbrelref04_Node} (hs : SlT Tryz.prog m 72 w.fParts) : ∃ b : Bool, Rn 171 [w.t] (tb b, [.dead]) := by
  obtain ⟨n, hn⟩ := r255 m w hs 0 200
  exact ⟨_, f171 _ _ ⟨n, hn, rfl⟩⟩
end Go.Proofs.YtfknpnkdedckhaaGreatDoorT

/- Charts: as the program and as the document have them; raw ones; their size. -/
namespace Go.Proofs.YtfknpnkdedckhaaGreatDoorT
open Go Go.Proofs
set_option linter.unusedVariables false
/-- A set; an on; a state; a variable; a chart. -/
structure Sg where
  name : ByteArray
  to : E
structure On where
  event : ByteArray
  guard : E
  target : ByteArray
  sets : List Sg
  line : Int
  col : Int
/-- A state but for those in it. -/
structure Sb where
  name : ByteArray
  line : Int
  col : Int
  all : Bool
  en : Bool
  do_ : ByteArray
  undo : ByteArray
  where_ : Int
  retries : Int
  ons : List On
inductive Stt where
  | mk (b : Sb) (inner : List Stt)
def Stt.b : Stt → Sb
  | .mk b _ => b
def Stt.inner : Stt → List Stt
  | .mk _ l => l
structure Vr where
  name : ByteArray
  n : Int
  line : Int
  col : Int
structure Ch where
  name : ByteArray
  version : Int
  line : Int
  col : Int
  vars : List Vr
  states : List Stt
/-- As the program has them. -/
def Sg.v (g : Sg) : W_chart_Set := ⟨g.name, g.to.v⟩
def On.v (o : On) : W_chart_On := ⟨o.event, o.guard.v, o.target, o.sets.map fun g => g.v.t, o.line, o.col⟩
def Sb.v (b : Sb) (l : List T) : W_chart_State := ⟨b.name, b.line, b.col, b.all, b.en, b.do_, b.undo, b.where_, b.retries, b.ons.map fun o => o.v.t, l⟩
mutual
def Stt.v : Stt → W_chart_State
  | .mk b l => b.v (Stt.vl l)
def Stt.vl : List Stt → List T
  | [] => []
  | s :: r => s.v.t :: Stt.vl r
end
theorem vl_map : ∀ l : List Stt, Stt.vl l = l.map fun s => s.v.t
  | [] => rfl
  | s :: r => by rw [Stt.vl, vl_map r]; rfl
def Vr.v (x : Vr) : W_chart_Var := ⟨x.name, x.n, x.line, x.col⟩
def Ch.v (c : Ch) : W_chart_Chart := ⟨c.name, c.version, c.line, c.col, c.vars.map fun x => x.v.t, c.states.map fun s => s.v.t⟩
/-- As the document has them. -/
def E.has : E → Bool
  | .non => false
  | _ => true
def Sg.d (g : Sg) : W_tumbrelref06_Set := ⟨g.name, g.to.d.fKind, g.to.d.fN, g.to.d.fS, g.to.d.fParts⟩
def On.d (o : On) : W_tumbrelref06_On := ⟨o.event, o.guard.has, o.guard.d.fKind, o.guard.d.fN, o.guard.d.fS, o.guard.d.fParts, o.target, o.sets.map fun g => g.d.t, o.line, o.col⟩
def Sb.d (b : Sb) (l : List T) : W_tumbrelref06_State := ⟨b.name, b.line, b.col, b.all, b.en, b.do_, b.undo, b.where_, b.retries, b.ons.map fun o => o.d.t, l⟩
mutual
def Stt.d : Stt → W_tumbrelref06_State
  | .mk b l => b.d (Stt.dl l)
def Stt.dl : List Stt → List T
  | [] => []
  | s :: r => s.d.t :: Stt.dl r
end
theorem dl_map : ∀ l : List Stt, Stt.dl l = l.map fun s => s.d.t
  | [] => rfl
  | s :: r => by rw [Stt.dl, dl_map r]; rfl
def Vr.d (x : Vr) : W_tumbrelref06_Var := ⟨x.name, x.n, x.line, x.col⟩
def Ch.d (c : Ch) : W_tumbrelref06_Chart := ⟨c.name, c.version, c.line, c.col, c.vars.map fun x => x.d.t, c.states.map fun s => s.d.t⟩
theorem v_mk (s : Stt) : s.v = s.b.v (s.inner.map fun x => x.v.t) := by
  cases s; rw [Stt.v, vl_map]; rfl
theorem d_mk (s : Stt) : s.d = s.b.d (s.inner.map fun x => x.d.t) := by
  cases s; rw [Stt.d, dl_map]; rfl
/-- By what lies in a state. -/
theorem Stt.rec_in {p : Stt → Prop} (h : ∀ b l, (∀ s ∈ l, p s) → p (.mk b l)) : ∀ s, p s := by
  intro s
  refine Stt.rec (motive_1 := p) (motive_2 := fun l => ∀ s ∈ l, p s) (fun b l ih => h b l ih) (fun s hs => (List.not_mem_nil hs).elim) (fun s l h1 h2 x hx => ?_) s
  rcases List.mem_cons.1 hx with rfl | hx
  · exact h1
  · exact h2 x hx
/-! ### Raw ones -/
/-- Two lists, one by one. -/
def All2 {α β : Type _} (R : α → β → Prop) (l : List α) (m : List β) : Prop := l.length = m.length ∧ ∀ (k : Nat) (a : α) (b : β), l[k]? = some a → m[k]? = some b → R a b
theorem All2.get {α β : Type _} {R : α → β → Prop} {l : List α} {m : List β} (h : All2 R l m) {k : Nat} (hk : k < m.length) : ∃ a, l[k]? = some a ∧ R a m[k] := by
  have hl : k < l.length := by rw [h.1]; exact hk
  exact ⟨l[k], List.getElem?_eq_getElem hl, h.2 k _ _ (List.getElem?_eq_getElem hl) (List.getElem?_eq_getElem hk)⟩
theorem all2_of {α β : Type _} {R : α → β → Prop} : ∀ {l : List α}, (∀ a ∈ l, ∃ b, R a b) → ∃ m, All2 R l m
  | [], _ => ⟨[], rfl, fun k a b h => by simp at h⟩
  | a :: l, h => by
    obtain ⟨b, hb⟩ := h a (.head _)
    obtain ⟨m, hm⟩ := all2_of fun x hx => h x (.tail _ hx)
    refine ⟨b :: m, by simp [hm.1], fun k x y hx hy => ?_⟩
    cases k with
    | zero => simp at hx hy; subst hx hy; exact hb
    | succ k => simp at hx hy; exact hm.2 k x y hx hy
theorem All2.cons {α β : Type _} {R : α → β → Prop} {a : α} {b : β} {l : List α} {m : List β} (h : R a b) (hm : All2 R l m) : All2 R (a :: l) (b :: m) := by
  refine ⟨by simp [hm.1], fun k x y hx hy => ?_⟩
  cases k with
  | zero => simp at hx hy; subst hx hy; exact h
  | succ k => simp at hx hy; exact hm.2 k x y hx hy
/-- A raw expression is, for the program and for the document, this one. -/
def Gd (k n : Int) (s : ByteArray) (ps : List T) (x : E) : Prop :=
  x.wf ∧ Rn 153 [.agg [i64 k, i64 n, st s, .sl 4 ps]] (x.v.v, [.dead]) ∧ Rn 156 [.agg [i64 k, i64 n, st s, .sl 4 ps]] (x.d.t, [.dead]) ∧ ∃ b : Bool, Rn 171 [.agg [i64 k, i64 n, st s, .sl 4 ps]] (tb b, [.dead])
def RawSg (t : T) (g : Sg) : Prop := ∃ w : W_tumbrelref06_Set, t = w.t ∧ w.fName = g.name ∧ g.name.size ≤ 140737488351232 ∧ Gd w.fTo_Kind w.fTo_N w.fTo_S w.fTo_Parts g.to
def RawOn (t : T) (o : On) : Prop := ∃ w : W_tumbrelref06_On, t = w.t ∧ w.fEvent = o.event ∧ w.fTarget = o.target ∧ w.fAt_Line = o.line ∧ w.fAt_Col = o.col ∧ All2 RawSg w.fSets o.sets ∧
  (∃ x, Gd w.fGuard_Kind w.fGuard_N w.fGuard_S w.fGuard_Parts x ∧ o.guard = if w.fHas = true then x else .non) ∧ o.event.size ≤ 140737488351232 ∧ o.target.size ≤ 140737488351232 ∧ o.sets.length ≤ 140737488351232
mutual
def RawSt : Stt → T → Prop
  | .mk b l, t => ∃ w : W_tumbrelref06_State, t = w.t ∧ (w.fName = b.name ∧ w.fAt_Line = b.line ∧ w.fAt_Col = b.col ∧ w.fAll = b.all ∧ w.fEnd = b.en ∧ w.fDo = b.do_ ∧ w.fUndo = b.undo ∧ w.fWhere = b.where_ ∧ w.fRetries = b.retries) ∧
      All2 RawOn w.fOns b.ons ∧ RawSl l w.fInner ∧ b.name.size ≤ 140737488351232 ∧ b.do_.size ≤ 140737488351232 ∧ b.undo.size ≤ 140737488351232 ∧ b.ons.length ≤ 140737488351232 ∧ l.length ≤ 140737488351232
def RawSl : List Stt → List T → Prop
  | [], l => l = []
  | s :: r, l => ∃ t l', l = t :: l' ∧ RawSt s t ∧ RawSl r l'
end
theorem rawSl_iff : ∀ (m : List Stt) (l : List T), RawSl m l ↔ All2 (fun t s => RawSt s t) l m
  | [], l => by
    rw [RawSl]
    constructor
    · rintro rfl; exact ⟨rfl, fun k a b h => by simp at h⟩
    · intro h; exact List.eq_nil_of_length_eq_zero h.1
  | s :: r, l => by
    rw [RawSl]
    constructor
    · rintro ⟨t, l', rfl, h1, h2⟩; exact All2.cons h1 ((rawSl_iff r l').1 h2)
    · intro h
      match l, h with
      | [], h => exact absurd h.1 (by simp)
      | t :: l', h => exact ⟨t, l', rfl, h.2 0 _ _ rfl rfl, (rawSl_iff r l').2 ⟨by simpa using h.1, fun k a b ha hb => h.2 (k + 1) a b (by simpa using ha) (by simpa using hb)⟩⟩
theorem room_len {n b : Nat} (h : n * b ≤ reachBytes) (hb : 1 ≤ b) : n ≤ 140737488351232 := by
  have := reach_num h
  have h2 : n * 1 ≤ n * b := Nat.mul_le_mul_left n hb
  omega
theorem gd_of {m : Nat} {k n : Int} {s : ByteArray} {ps : List T} (hs : s.size ≤ reachBytes) (hp : SlT Tryz.prog m 72 ps) : ∃ x, Gd k n s ps x := by
  obtain ⟨x, h1, h2, h3⟩ := raw m ⟨k, n, s, ps⟩ hs hp
  obtain ⟨b, h4⟩ := r171 (w := ⟨k, n, s, ps⟩) hp
  exact ⟨x, h1, h2, h3, b, h4⟩
theorem rawSg_of {m : Nat} {y : List T} (h : Ty Tryz.prog m 193 y) : ∃ g, RawSg (valT Tryz.prog 193 y) g := by
  obtain ⟨w, e, h1, _, _, hs, m', _, hp⟩ := d193 h
  obtain ⟨x, hx⟩ := gd_of (k := w.fTo_Kind) (n := w.fTo_N) hs hp
  exact ⟨⟨w.fName, x⟩, w, e, rfl, reach_num h1, hx⟩
theorem rawOn_of {m : Nat} {y : List T} (h : Ty Tryz.prog m 75 y) : ∃ o, RawOn (valT Tryz.prog 75 y) o := by
  obtain ⟨w, e, h1, _, _, hs, ⟨m', _, hp⟩, h5, ⟨m2, _, hq⟩, _, _⟩ := d75 h
  obtain ⟨x, hx⟩ := gd_of (k := w.fGuard_Kind) (n := w.fGuard_N) hs hp
  obtain ⟨gs, hgs⟩ : ∃ gs, All2 RawSg w.fSets gs := all2_of fun t ht => by
    obtain ⟨y, ey, hy⟩ := hq.mem ht
    rw [ey]
    exact rawSg_of hy
  exact ⟨⟨w.fEvent, if w.fHas = true then x else .non, w.fTarget, gs, w.fAt_Line, w.fAt_Col⟩, w, e, rfl, rfl, rfl, rfl, hgs, ⟨x, hx, rfl⟩, reach_num h1, reach_num h5, by rw [← hgs.1]; exact room_len hq.room (Nat.le_of_ble_eq_true (by kernel_rfl))⟩
theorem rawSt_of : ∀ (m : Nat) {y : List T}, Ty Tryz.prog m 63 y → ∃ s, RawSt s (valT Tryz.prog 63 y) := by
  intro m
  induction m using Nat.strongRecOn with
  | _ m ih =>
    intro y h
    obtain ⟨w, e, h1, _, _, h2, h3, _, _, ⟨m1, _, hq⟩, m2, hm2, hi⟩ := d63 h
    obtain ⟨os, hos⟩ : ∃ os, All2 RawOn w.fOns os := all2_of fun t ht => by
      obtain ⟨y, ey, hy⟩ := hq.mem ht
      rw [ey]
      exact rawOn_of hy
    obtain ⟨l, hl⟩ : ∃ l, All2 (fun t s => RawSt s t) w.fInner l := all2_of fun t ht => by
      obtain ⟨y, ey, hy⟩ := hi.mem ht
      rw [ey]
      exact ih m2 hm2 hy
    refine ⟨.mk ⟨w.fName, w.fAt_Line, w.fAt_Col, w.fAll, w.fEnd, w.fDo, w.fUndo, w.fWhere, w.fRetries, os⟩ l, ?_⟩
    rw [RawSt]
    exact ⟨w, e, ⟨rfl, rfl, rfl, rfl, rfl, rfl, rfl, rfl, rfl⟩, hos, (rawSl_iff _ _).2 hl, reach_num h1, reach_num h2, reach_num h3, by rw [← hos.1]; exact room_len hq.room (Nat.le_of_ble_eq_true (by kernel_rfl)), by rw [← hl.1]; exact room_len hi.room (Nat.le_of_ble_eq_true (by kernel_rfl))⟩
/-- A raw chart. -/
def RawCh (w : W_tumbrelref06_Chart) (c : Ch) : Prop := w.fName = c.name ∧ w.fVersion = c.version ∧ w.fAt_Line = c.line ∧ w.fAt_Col = c.col ∧ w.fVars = (c.vars.map fun x => x.d.t) ∧ RawSl c.states w.fStates ∧ c.name.size ≤ 140737488351232 ∧ c.vars.length ≤ 140737488351232 ∧ c.states.length ≤ 140737488351232 ∧ ∀ x ∈ c.vars, x.name.size ≤ 140737488351232
theorem rawCh_of {m : Nat} {y : List T} (h : Ty Tryz.prog m 27 y) : ∃ (w : W_tumbrelref06_Chart) (c : Ch), valT Tryz.prog 27 y = w.t ∧ RawCh w c := by
  obtain ⟨w, e, h1, _, _, _, ⟨m1, _, hv⟩, m2, _, hs⟩ := d27 h
  obtain ⟨vs, hvs, hvb⟩ : ∃ vs : List Vr, w.fVars = (vs.map fun x => x.d.t) ∧ ∀ x ∈ vs, x.name.size ≤ 140737488351232 := list_of' fun t ht => by
    obtain ⟨y, ey, hy⟩ := hv.mem ht
    rw [ey]
    obtain ⟨u, e, hu, _⟩ := d149 hy
    exact ⟨⟨u.fName, u.fN, u.fAt_Line, u.fAt_Col⟩, e, reach_num hu⟩
  obtain ⟨l, hl⟩ : ∃ l, All2 (fun t s => RawSt s t) w.fStates l := all2_of fun t ht => by
    obtain ⟨y, ey, hy⟩ := hs.mem ht
    rw [ey]
    exact rawSt_of m2 hy
  refine ⟨w, ⟨w.fName, w.fVersion, w.fAt_Line, w.fAt_Col, vs, l⟩, e, rfl, rfl, rfl, rfl, hvs, (rawSl_iff _ _).2 hl, reach_num h1, ?_, by show l.length ≤ 140737488351232; rw [← hl.1]; exact room_len hs.room (Nat.le_of_ble_eq_true (by kernel_rfl)), hvb⟩
  have := room_len hv.room (Nat.le_of_ble_eq_true (by kernel_rfl))
  rw [hvs, List.length_map] at this
  exact this
/-! ### Sizes -/
def Sg.sz (g : Sg) : Prop := g.name.size ≤ 140737488351232 ∧ g.to.wf
def On.sz (o : On) : Prop := o.event.size ≤ 140737488351232 ∧ o.target.size ≤ 140737488351232 ∧ o.guard.wf ∧ ∀ g ∈ o.sets, g.sz
def Sb.sz (b : Sb) : Prop := b.name.size ≤ 140737488351232 ∧ b.do_.size ≤ 140737488351232 ∧ b.undo.size ≤ 140737488351232 ∧ ∀ o ∈ b.ons, o.sz
mutual
def Stt.sz : Stt → Prop
  | .mk b l => b.sz ∧ Stt.szl l
def Stt.szl : List Stt → Prop
  | [] => True
  | s :: r => s.sz ∧ Stt.szl r
end
theorem szl_iff : ∀ l : List Stt, Stt.szl l ↔ ∀ s ∈ l, s.sz
  | [] => by simp [Stt.szl]
  | s :: r => by rw [Stt.szl, szl_iff r]; simp
theorem All2.mem {α β : Type _} {R : α → β → Prop} {l : List α} {m : List β} (h : All2 R l m) {b : β} (hb : b ∈ m) : ∃ a, R a b := by
  obtain ⟨k, hk, rfl⟩ := List.getElem_of_mem hb
  obtain ⟨a, _, ha⟩ := h.get hk
  exact ⟨a, ha⟩
theorem rawSg_sz {t : T} {g : Sg} (h : RawSg t g) : g.sz := by
  obtain ⟨w, _, _, h1, h2, _⟩ := h
  exact ⟨h1, h2⟩
theorem rawOn_sz {t : T} {o : On} (h : RawOn t o) : o.sz := by
  obtain ⟨w, _, _, _, _, _, hs, ⟨x, hx, hg⟩, h1, h2, _⟩ := h
  refine ⟨h1, h2, ?_, fun g hg => ?_⟩
  · rw [hg]
    split
    · exact hx.1
    · exact trivial
  · obtain ⟨a, ha⟩ := hs.mem hg
    exact rawSg_sz ha
theorem rawSt_sz : ∀ (s : Stt) (t : T), RawSt s t → s.sz := by
  refine Stt.rec_in fun b l ih t h => ?_
  rw [RawSt] at h
  obtain ⟨w, _, _, ho, hi, h1, h2, h3, _⟩ := h
  rw [Stt.sz]
  refine ⟨⟨h1, h2, h3, fun o hm => ?_⟩, (szl_iff l).2 fun s hs => ?_⟩
  · obtain ⟨a, ha⟩ := ho.mem hm
    exact rawOn_sz ha
  · obtain ⟨a, ha⟩ := ((rawSl_iff _ _).1 hi).mem hs
    exact ih s hs a ha
structure Ch.sz (c : Ch) : Prop where
  name : c.name.size ≤ 140737488351232
  vars : ∀ x ∈ c.vars, x.name.size ≤ 140737488351232
  states : ∀ s ∈ c.states, s.sz
theorem rawCh_sz {w : W_tumbrelref06_Chart} {c : Ch} (h : RawCh w c) : c.sz := by
  obtain ⟨_, _, _, _, _, hs, h1, _, _, h2⟩ := h
  refine ⟨h1, h2, fun s hm => ?_⟩
  obtain ⟨a, ha⟩ := ((rawSl_iff _ _).1 hs).mem hm
  exact rawSt_sz s a ha
end Go.Proofs.YtfknpnkdedckhaaGreatDoorT

/- Charts out of raw ones: by the program (Theirs) and by the document (Clean); their weight (Small). -/
namespace Go.Proofs.YtfknpnkdedckhaaGreatDoorT
open Go Go.Proofs
set_option linter.unusedVariables false
def On.wt (o : On) : Nat := 1 + o.sets.length
def onsWt (l : List On) : Nat := (l.map On.wt).sum
mutual
def Stt.wt : Stt → Nat
  | .mk b l => 1 + onsWt b.ons + Stt.wtl l
def Stt.wtl : List Stt → Nat
  | [] => 0
  | s :: r => s.wt + Stt.wtl r
end
theorem wtl_map : ∀ l : List Stt, Stt.wtl l = (l.map Stt.wt).sum
  | [] => rfl
  | s :: r => by rw [Stt.wtl, wtl_map r]; simp
theorem wt_mk (b : Sb) (l : List Stt) : (Stt.mk b l).wt = 1 + onsWt b.ons + (l.map Stt.wt).sum := by rw [Stt.wt, wtl_map]
theorem sum_len {α : Type} {f : α → Nat} (hf : ∀ a, 1 ≤ f a) : ∀ l : List α, l.length ≤ (l.map f).sum
  | [] => by simp
  | a :: l => by have := sum_len hf l; have := hf a; simp; omega
theorem sum_mem {α : Type} {f : α → Nat} : ∀ {l : List α} {a : α}, a ∈ l → f a ≤ (l.map f).sum
  | x :: l, a, h => by
    rcases List.mem_cons.1 h with rfl | h
    · simp
    · have := sum_mem (f := f) h; simp; omega
theorem wt_pos (s : Stt) : 1 ≤ s.wt := by cases s; rw [wt_mk]; omega
/-- What is light. -/
structure Lt (b : Sb) (l : List Stt) : Prop where
  ons : b.ons.length ≤ 400
  sets : ∀ o ∈ b.ons, o.sets.length ≤ 400
  inner : l.length ≤ 400
  each : ∀ s ∈ l, s.wt ≤ 400
theorem lt_of {b : Sb} {l : List Stt} (h : (Stt.mk b l).wt ≤ 400) : Lt b l := by
  rw [wt_mk] at h
  have h1 := sum_len (f := On.wt) (fun o => by unfold On.wt; omega) b.ons
  have h2 := sum_len (f := Stt.wt) wt_pos l
  unfold onsWt at h
  refine ⟨by omega, fun o ho => ?_, by omega, fun s hs => ?_⟩
  · have := sum_mem (f := On.wt) ho
    have hw : On.wt o = 1 + o.sets.length := rfl
    omega
  · have := sum_mem (f := Stt.wt) hs
    omega
theorem getT {l : List T} {k : Nat} {t : T} (h : l[k]? = some t) : l[Int.toNat (k : Int)]? = some t := by rw [toN]; exact h
/-! ### Theirs -/
theorem r59 : ∀ (n : Nat) (l : List Stt) (ts : List T), RawSl l ts → (∀ s ∈ l, s.wt ≤ 400) → l.length ≤ 400 → (l.map Stt.wt).sum ≤ n → Rn 59 [.sl 11 ts] (.sl 11 (l.map fun s => s.v.t), [.dead]) := by
  intro n
  induction n using Nat.strongRecOn with
  | _ n ih =>
    intro l ts hraw hwt hlen hn
    have hr := (rawSl_iff l ts).1 hraw
    -- the sets of an on
    have sets : ∀ (w : W_tumbrelref06_State) (wo : W_tumbrelref06_On) (o : On) (i : Nat), w.fOns[i]? = some wo.t → All2 RawSg wo.fSets o.sets → o.sets.length ≤ 400 →
        ∀ (l1 : List T) (n1 n2 n3 n4 : Int) (s : ByteArray) (n7 n8 : Int) (b b1 : Bool) (s1 s2 : ByteArray) (n9 n10 : Int) (l2 l3 : List T) (s3 : ByteArray) (e : IfV) (s4 : ByteArray) (n11 n12 : Int) (R : T × List T), l2.length ≤ 400 →
        L59_1 ts l1 n1 n2 n3 (IntKind.wrap .i64 (n4 + 1)) w s n7 n8 b b1 s1 s2 n9 n10 (l2 ++ [.agg [st s3, e.v, st s4, .sl 2 (o.sets.map fun g => g.v.t), i64 n11, i64 n12]]) l3 R →
        L59_2 ts l1 i n1 n2 n3 n4 ((wo.fSets.length : Nat) : Int) 0 w s n7 n8 b b1 s1 s2 n9 n10 l2 l3 s3 e s4 [] n11 n12 R := by
      intro w wo o i hi hg h400 l1 n1 n2 n3 n4 s n7 n8 b b1 s1 s2 n9 n10 l2 l3 s3 e s4 n11 n12 R hl2 hR
      have loop : ∀ (d k : Nat), k + d = o.sets.length → L59_2 ts l1 i n1 n2 n3 n4 ((wo.fSets.length : Nat) : Int) (k : Int) w s n7 n8 b b1 s1 s2 n9 n10 l2 l3 s3 e s4 ((o.sets.take k).map fun g => g.v.t) n11 n12 R := by
        intro d
        induction d with
        | zero =>
          intro k hk
          refine l59_2 _ _ _ _ _ _ _ _ _ _ _ _ _ _ _ _ _ _ _ _ _ _ _ _ _ _ _ _ (cF (by rw [hg.1]; simp; omega) (ckn (by omega) ?_))
          rw [List.take_of_length_le (by omega)]
          exact hR
        | succ d ihd =>
          intro k hk
          have hlt : k < o.sets.length := by omega
          obtain ⟨t, ht, wg, rfl, hnm, _, hwf, h153, _⟩ := hg.get hlt
          have := ihd (k + 1) (by omega)
          refine l59_2 _ _ _ _ _ _ _ _ _ _ _ _ _ _ _ _ _ _ _ _ _ _ _ _ _ _ _ _ (cT (by rw [hg.1]; simp; omega) ⟨wo, ⟨by omega, getT hi⟩, wg, ⟨by omega, getT ht⟩, wo, ⟨by omega, getT hi⟩, wg, ⟨by omega, getT ht⟩, _, h153, ckn (by simp; omega) ?_⟩)
          rw [wS (by omega)]
          rw [List.take_succ_eq_append_getElem hlt, List.map_append] at this
          have e2 : ([o.sets[k]].map fun g : Sg => g.v.t) = [.agg [st wg.fName, (o.sets[k]).to.v.v]] := by rw [hnm]; rfl
          rw [e2] at this
          exact this
      exact loop o.sets.length 0 (by omega)
    -- the ons of a state
    have ons : ∀ (w : W_tumbrelref06_State) (os : List On), All2 RawOn w.fOns os → os.length ≤ 400 → (∀ o ∈ os, o.sets.length ≤ 400) →
        ∀ (l1 : List T) (n n1 : Int) (s : ByteArray) (n4 n5 : Int) (b b1 : Bool) (s1 s2 : ByteArray) (n6 n7 : Int) (l3 : List T) (R : T × List T), l1.length ≤ 400 →
        L59_0 ts (l1 ++ [.agg [st s, i64 n4, i64 n5, tb b, tb b1, st s1, st s2, i64 n6, i64 n7, .sl 6 (os.map fun o => o.v.t), .sl 11 l3]]) n (IntKind.wrap .i64 (n1 + 1)) R →
        L59_1 ts l1 n n1 ((w.fOns.length : Nat) : Int) 0 w s n4 n5 b b1 s1 s2 n6 n7 [] l3 R := by
      intro w os ho h400 hs400 l1 n n1 s n4 n5 b b1 s1 s2 n6 n7 l3 R hl1 hR
      have loop : ∀ (d k : Nat), k + d = os.length → L59_1 ts l1 n n1 ((w.fOns.length : Nat) : Int) (k : Int) w s n4 n5 b b1 s1 s2 n6 n7 ((os.take k).map fun o => o.v.t) l3 R := by
        intro d
        induction d with
        | zero =>
          intro k hk
          refine l59_1 _ _ _ _ _ _ _ _ _ _ _ _ _ _ _ _ _ _ _ (cF (by rw [ho.1]; simp; omega) (ckn (by omega) ?_))
          rw [List.take_of_length_le (by omega)]
          exact hR
        | succ d ihd =>
          intro k hk
          have hlt : k < os.length := by omega
          obtain ⟨t, ht, wo, rfl, he, htg, hln, hcl, hsets, ⟨x, hx, hgd⟩, _⟩ := ho.get hlt
          have hg400 := hs400 _ (List.getElem_mem hlt)
          have next := ihd (k + 1) (by omega)
          rw [List.take_succ_eq_append_getElem hlt, List.map_append] at next
          have key : ∀ e : IfV, e = (os[k]).guard.v → L59_2 ts l1 (k : Int) n n1 ((w.fOns.length : Nat) : Int) (k : Int) ((wo.fSets.length : Nat) : Int) 0 w s n4 n5 b b1 s1 s2 n6 n7 ((os.take k).map fun o => o.v.t) l3 wo.fEvent e wo.fTarget [] wo.fAt_Line wo.fAt_Col R := by
            rintro e rfl
            refine sets w wo os[k] k ht hsets hg400 _ _ _ _ _ _ _ _ _ _ _ _ _ _ _ _ _ _ _ _ _ _ (by simp; omega) ?_
            rw [wS (by omega)]
            have e2 : ([os[k]].map fun o : On => o.v.t) = [.agg [st wo.fEvent, (os[k]).guard.v.v, st wo.fTarget, .sl 2 ((os[k]).sets.map fun g => g.v.t), i64 wo.fAt_Line, i64 wo.fAt_Col]] := by rw [he, htg, hln, hcl]; rfl
            rw [e2] at next
            exact next
          have g : w.fOns[Int.toNat (k : Int)]? = some wo.t := getT ht
          refine l59_1 _ _ _ _ _ _ _ _ _ _ _ _ _ _ _ _ _ _ _ (cT (by rw [ho.1]; simp; omega) ⟨wo, ⟨by omega, g⟩, wo, ⟨by omega, g⟩, wo, ⟨by omega, g⟩, wo, ⟨by omega, g⟩, ?_⟩)
          cases hh : wo.fHas with
          | true =>
            rw [hh, if_pos rfl] at hgd
            exact cT rfl ⟨wo, ⟨by omega, g⟩, _, hx.2.1, wo, ⟨by omega, g⟩, key _ (by rw [hgd])⟩
          | false =>
            rw [hh, if_neg (by simp)] at hgd
            exact cF rfl ⟨wo, ⟨by omega, g⟩, key _ (by rw [hgd]; rfl)⟩
      exact loop os.length 0 (by omega)
    -- the states
    have loop : ∀ (d k : Nat), k + d = l.length → L59_0 ts ((l.take k).map fun s => s.v.t) ((ts.length : Nat) : Int) (k : Int) (.sl 11 (l.map fun s => s.v.t), [.dead]) := by
      intro d
      induction d with
      | zero =>
        intro k hk
        refine l59_0 _ _ _ _ _ (cF (by rw [hr.1]; simp; omega) ?_)
        rw [List.take_of_length_le (by omega)]
      | succ d ihd =>
        intro k hk
        have hlt : k < l.length := by omega
        obtain ⟨t, ht, hst⟩ := hr.get hlt
        have hw := hwt _ (List.getElem_mem hlt)
        have hsum := sum_mem (f := Stt.wt) (List.getElem_mem hlt)
        have next := ihd (k + 1) (by omega)
        rw [List.take_succ_eq_append_getElem hlt, List.map_append] at next
        generalize hsk : l[k] = sk at hst hw hsum next
        obtain ⟨bb, il⟩ := sk
        rw [RawSt] at hst
        obtain ⟨w, rfl, ⟨e1, e2, e3, e4, e5, e6, e7, e8, e9⟩, hons, hin, _⟩ := hst
        have hlt' := lt_of hw
        rw [wt_mk] at hsum
        have h59 := ih ((il.map Stt.wt).sum) (by omega) il w.fInner hin hlt'.each hlt'.inner (Nat.le_refl _)
        refine l59_0 _ _ _ _ _ (cT (by rw [hr.1]; simp; omega) ⟨w, ⟨by omega, getT ht⟩, _, h59, ?_⟩)
        refine ons w bb.ons hons hlt'.ons hlt'.sets _ _ _ _ _ _ _ _ _ _ _ _ _ _ (by simp; omega) ?_
        rw [wS (by omega), e1, e2, e3, e4, e5, e6, e7, e8, e9]
        have ev : ([Stt.mk bb il].map fun s : Stt => s.v.t) = [.agg [st bb.name, i64 bb.line, i64 bb.col, tb bb.all, tb bb.en, st bb.do_, st bb.undo, i64 bb.where_, i64 bb.retries, .sl 6 (bb.ons.map fun o => o.v.t), .sl 11 (il.map fun s => s.v.t)]] := by
          rw [List.map_cons, List.map_nil, v_mk]; rfl
        rw [ev] at next
        exact next
    exact f59 _ _ (loop l.length 0 (by omega))
end Go.Proofs.YtfknpnkdedckhaaGreatDoorT

/- Charts out of raw ones: by the document (Clean). -/
namespace Go.Proofs.YtfknpnkdedckhaaGreatDoorT
open Go Go.Proofs
set_option linter.unusedVariables false
theorem has_kind (x : E) : (!(decide (x.d.fKind = 0))) = x.has := by cases x <;> simp [E.d, E.has]
theorem r63 : ∀ (n : Nat) (l : List Stt) (ts : List T), RawSl l ts → (∀ s ∈ l, s.wt ≤ 400) → l.length ≤ 400 → (l.map Stt.wt).sum ≤ n → Rn 63 [.sl 11 ts] (.sl 11 (l.map fun s => s.d.t), [.dead]) := by
  intro n
  induction n using Nat.strongRecOn with
  | _ n ih =>
    intro l ts hraw hwt hlen hn
    have hr := (rawSl_iff l ts).1 hraw
    -- the sets of an on
    have setsA : ∀ (j : Nat) (w : W_tumbrelref06_State) (wo : W_tumbrelref06_On) (o : On) (i : Nat), ts[j]? = some w.t → w.fOns[i]? = some wo.t → All2 RawSg wo.fSets o.sets → o.sets.length ≤ 400 →
        ∀ (l1 : List T) (n1 n2 n3 n4 : Int) (s : ByteArray) (n7 n8 : Int) (b b1 : Bool) (s1 s2 : ByteArray) (n9 n10 : Int) (l2 l3 : List T) (s3 : ByteArray) (b2 : Bool) (n11 n12 : Int) (s4 : ByteArray) (l4 : List T) (s5 : ByteArray) (n13 n14 : Int) (R : T × List T), l2.length ≤ 400 →
        L63_1 ts l1 (j : Int) n1 n2 n3 (IntKind.wrap .i64 (n4 + 1)) s n7 n8 b b1 s1 s2 n9 n10 (l2 ++ [.agg [st s3, tb b2, i64 n11, i64 n12, st s4, .sl 4 l4, st s5, .sl 5 (o.sets.map fun g => g.d.t), i64 n13, i64 n14]]) l3 R →
        L63_2a ts l1 (j : Int) (i : Int) n1 n2 n3 n4 ((wo.fSets.length : Nat) : Int) 0 s n7 n8 b b1 s1 s2 n9 n10 l2 l3 s3 b2 n11 n12 s4 l4 s5 [] n13 n14 R := by
      intro j w wo o i hj hi hg h400 l1 n1 n2 n3 n4 s n7 n8 b b1 s1 s2 n9 n10 l2 l3 s3 b2 n11 n12 s4 l4 s5 n13 n14 R hl2 hR
      have loop : ∀ (d k : Nat), k + d = o.sets.length → L63_2a ts l1 (j : Int) (i : Int) n1 n2 n3 n4 ((wo.fSets.length : Nat) : Int) (k : Int) s n7 n8 b b1 s1 s2 n9 n10 l2 l3 s3 b2 n11 n12 s4 l4 s5 ((o.sets.take k).map fun g => g.d.t) n13 n14 R := by
        intro d
        induction d with
        | zero =>
          intro k hk
          refine l63_2a _ _ _ _ _ _ _ _ _ _ _ _ _ _ _ _ _ _ _ _ _ _ _ _ _ _ _ _ _ _ _ _ (cF (by rw [hg.1]; simp; omega) (ckn (by omega) ?_))
          rw [List.take_of_length_le (by omega)]
          exact hR
        | succ d ihd =>
          intro k hk
          have hlt : k < o.sets.length := by omega
          obtain ⟨t, ht, wg, rfl, hnm, _, hwf, _, h156, _⟩ := hg.get hlt
          have := ihd (k + 1) (by omega)
          refine l63_2a _ _ _ _ _ _ _ _ _ _ _ _ _ _ _ _ _ _ _ _ _ _ _ _ _ _ _ _ _ _ _ _ (cT (by rw [hg.1]; simp; omega) ⟨w, ⟨by omega, getT hj⟩, wo, ⟨by omega, getT hi⟩, wg, ⟨by omega, getT ht⟩, _, h156, ckn (by simp; omega) ?_⟩)
          rw [wS (by omega)]
          rw [List.take_succ_eq_append_getElem hlt, List.map_append] at this
          have e2 : ([o.sets[k]].map fun g : Sg => g.d.t) = [.agg [st wg.fName, i64 (o.sets[k]).to.d.fKind, i64 (o.sets[k]).to.d.fN, st (o.sets[k]).to.d.fS, .sl 4 (o.sets[k]).to.d.fParts]] := by rw [hnm]; rfl
          rw [e2] at this
          exact this
      exact loop o.sets.length 0 (by omega)
    have setsB : ∀ (j : Nat) (w : W_tumbrelref06_State) (wo : W_tumbrelref06_On) (o : On) (i : Nat), ts[j]? = some w.t → w.fOns[i]? = some wo.t → All2 RawSg wo.fSets o.sets → o.sets.length ≤ 400 →
        ∀ (l1 : List T) (n1 n2 n3 n4 : Int) (s : ByteArray) (n7 n8 : Int) (b b1 : Bool) (s1 s2 : ByteArray) (n9 n10 : Int) (l2 l3 : List T) (s3 : ByteArray) (b2 : Bool) (n11 n12 : Int) (s4 s5 : ByteArray) (n13 n14 : Int) (R : T × List T), l2.length ≤ 400 →
        L63_1 ts l1 (j : Int) n1 n2 n3 (IntKind.wrap .i64 (n4 + 1)) s n7 n8 b b1 s1 s2 n9 n10 (l2 ++ [.agg [st s3, tb b2, i64 n11, i64 n12, st s4, .sl 4 [], st s5, .sl 5 (o.sets.map fun g => g.d.t), i64 n13, i64 n14]]) l3 R →
        L63_2b ts l1 (j : Int) (i : Int) n1 n2 n3 n4 ((wo.fSets.length : Nat) : Int) 0 s n7 n8 b b1 s1 s2 n9 n10 l2 l3 s3 b2 n11 n12 s4 s5 [] n13 n14 R := by
      intro j w wo o i hj hi hg h400 l1 n1 n2 n3 n4 s n7 n8 b b1 s1 s2 n9 n10 l2 l3 s3 b2 n11 n12 s4 s5 n13 n14 R hl2 hR
      have loop : ∀ (d k : Nat), k + d = o.sets.length → L63_2b ts l1 (j : Int) (i : Int) n1 n2 n3 n4 ((wo.fSets.length : Nat) : Int) (k : Int) s n7 n8 b b1 s1 s2 n9 n10 l2 l3 s3 b2 n11 n12 s4 s5 ((o.sets.take k).map fun g => g.d.t) n13 n14 R := by
        intro d
        induction d with
        | zero =>
          intro k hk
          refine l63_2b _ _ _ _ _ _ _ _ _ _ _ _ _ _ _ _ _ _ _ _ _ _ _ _ _ _ _ _ _ _ _ (cF (by rw [hg.1]; simp; omega) (ckn (by omega) ?_))
          rw [List.take_of_length_le (by omega)]
          exact hR
        | succ d ihd =>
          intro k hk
          have hlt : k < o.sets.length := by omega
          obtain ⟨t, ht, wg, rfl, hnm, _, hwf, _, h156, _⟩ := hg.get hlt
          have := ihd (k + 1) (by omega)
          refine l63_2b _ _ _ _ _ _ _ _ _ _ _ _ _ _ _ _ _ _ _ _ _ _ _ _ _ _ _ _ _ _ _ (cT (by rw [hg.1]; simp; omega) ⟨w, ⟨by omega, getT hj⟩, wo, ⟨by omega, getT hi⟩, wg, ⟨by omega, getT ht⟩, _, h156, ckn (by simp; omega) ?_⟩)
          rw [wS (by omega)]
          rw [List.take_succ_eq_append_getElem hlt, List.map_append] at this
          have e2 : ([o.sets[k]].map fun g : Sg => g.d.t) = [.agg [st wg.fName, i64 (o.sets[k]).to.d.fKind, i64 (o.sets[k]).to.d.fN, st (o.sets[k]).to.d.fS, .sl 4 (o.sets[k]).to.d.fParts]] := by rw [hnm]; rfl
          rw [e2] at this
          exact this
      exact loop o.sets.length 0 (by omega)
    -- the ons of a state
    have ons : ∀ (j : Nat) (w : W_tumbrelref06_State) (os : List On), ts[j]? = some w.t → All2 RawOn w.fOns os → os.length ≤ 400 → (∀ o ∈ os, o.sets.length ≤ 400) →
        ∀ (l1 : List T) (n n1 : Int) (s : ByteArray) (n4 n5 : Int) (b b1 : Bool) (s1 s2 : ByteArray) (n6 n7 : Int) (l3 : List T) (R : T × List T), l1.length ≤ 400 →
        L63_0 ts (l1 ++ [.agg [st s, i64 n4, i64 n5, tb b, tb b1, st s1, st s2, i64 n6, i64 n7, .sl 10 (os.map fun o => o.d.t), .sl 11 l3]]) n (IntKind.wrap .i64 (n1 + 1)) R →
        L63_1 ts l1 (j : Int) n n1 ((w.fOns.length : Nat) : Int) 0 s n4 n5 b b1 s1 s2 n6 n7 [] l3 R := by
      intro j w os hj ho h400 hs400 l1 n n1 s n4 n5 b b1 s1 s2 n6 n7 l3 R hl1 hR
      have loop : ∀ (d k : Nat), k + d = os.length → L63_1 ts l1 (j : Int) n n1 ((w.fOns.length : Nat) : Int) (k : Int) s n4 n5 b b1 s1 s2 n6 n7 ((os.take k).map fun o => o.d.t) l3 R := by
        intro d
        induction d with
        | zero =>
          intro k hk
          refine l63_1 _ _ _ _ _ _ _ _ _ _ _ _ _ _ _ _ _ _ _ (cF (by rw [ho.1]; simp; omega) (ckn (by omega) ?_))
          rw [List.take_of_length_le (by omega)]
          exact hR
        | succ d ihd =>
          intro k hk
          have hlt : k < os.length := by omega
          obtain ⟨t, ht, wo, rfl, he, htg, hln, hcl, hsets, ⟨x, hx, hgd⟩, _⟩ := ho.get hlt
          have hg400 := hs400 _ (List.getElem_mem hlt)
          have next := ihd (k + 1) (by omega)
          rw [List.take_succ_eq_append_getElem hlt, List.map_append] at next
          have e2 : ([os[k]].map fun o : On => o.d.t) = [.agg [st wo.fEvent, tb (os[k]).guard.has, i64 (os[k]).guard.d.fKind, i64 (os[k]).guard.d.fN, st (os[k]).guard.d.fS, .sl 4 (os[k]).guard.d.fParts, st wo.fTarget, .sl 5 ((os[k]).sets.map fun g => g.d.t), i64 wo.fAt_Line, i64 wo.fAt_Col]] := by rw [he, htg, hln, hcl]; rfl
          rw [e2] at next
          have g : w.fOns[Int.toNat (k : Int)]? = some wo.t := getT ht
          have gj : ts[Int.toNat (j : Int)]? = some w.t := getT hj
          refine l63_1 _ _ _ _ _ _ _ _ _ _ _ _ _ _ _ _ _ _ _ (cT (by rw [ho.1]; simp; omega) ⟨w, ⟨by omega, gj⟩, wo, ⟨by omega, g⟩, ?_⟩)
          cases hh : wo.fHas with
          | true =>
            rw [hh, if_pos rfl] at hgd
            refine cT rfl ⟨x.d, hx.2.2.1, cT rfl ⟨w, ⟨by omega, gj⟩, wo, ⟨by omega, g⟩, ?_⟩⟩
            rw [has_kind]
            refine setsA j w wo os[k] k hj ht hsets hg400 _ _ _ _ _ _ _ _ _ _ _ _ _ _ _ _ _ _ _ _ _ _ _ _ _ _ (by simp; omega) ?_
            rw [wS (by omega)]
            rw [hgd] at next
            exact next
          | false =>
            rw [hh, if_neg (by simp)] at hgd
            refine cF rfl (cF rfl ⟨w, ⟨by omega, gj⟩, wo, ⟨by omega, g⟩, ?_⟩)
            refine setsB j w wo os[k] k hj ht hsets hg400 _ _ _ _ _ _ _ _ _ _ _ _ _ _ _ _ _ _ _ _ _ _ _ _ _ (by simp; omega) ?_
            rw [wS (by omega)]
            rw [hgd] at next
            exact next
      exact loop os.length 0 (by omega)
    -- the states
    have loop : ∀ (d k : Nat), k + d = l.length → L63_0 ts ((l.take k).map fun s => s.d.t) ((ts.length : Nat) : Int) (k : Int) (.sl 11 (l.map fun s => s.d.t), [.dead]) := by
      intro d
      induction d with
      | zero =>
        intro k hk
        refine l63_0 _ _ _ _ _ (cF (by rw [hr.1]; simp; omega) ?_)
        rw [List.take_of_length_le (by omega)]
      | succ d ihd =>
        intro k hk
        have hlt : k < l.length := by omega
        obtain ⟨t, ht, hst⟩ := hr.get hlt
        have hw := hwt _ (List.getElem_mem hlt)
        have hsum := sum_mem (f := Stt.wt) (List.getElem_mem hlt)
        have next := ihd (k + 1) (by omega)
        rw [List.take_succ_eq_append_getElem hlt, List.map_append] at next
        generalize hsk : l[k] = sk at hst hw hsum next
        obtain ⟨bb, il⟩ := sk
        rw [RawSt] at hst
        obtain ⟨w, rfl, ⟨e1, e2, e3, e4, e5, e6, e7, e8, e9⟩, hons, hin, _⟩ := hst
        have hlt' := lt_of hw
        rw [wt_mk] at hsum
        have h63 := ih ((il.map Stt.wt).sum) (by omega) il w.fInner hin hlt'.each hlt'.inner (Nat.le_refl _)
        have g := getT ht
        refine l63_0 _ _ _ _ _ (cT (by rw [hr.1]; simp; omega) ⟨w, ⟨by omega, g⟩, w, ⟨by omega, g⟩, _, h63, w, ⟨by omega, g⟩, ?_⟩)
        refine ons k w bb.ons ht hons hlt'.ons hlt'.sets _ _ _ _ _ _ _ _ _ _ _ _ _ _ (by simp; omega) ?_
        rw [wS (by omega), e1, e2, e3, e4, e5, e6, e7, e8, e9]
        have ev : ([Stt.mk bb il].map fun s : Stt => s.d.t) = [.agg [st bb.name, i64 bb.line, i64 bb.col, tb bb.all, tb bb.en, st bb.do_, st bb.undo, i64 bb.where_, i64 bb.retries, .sl 10 (bb.ons.map fun o => o.d.t), .sl 11 (il.map fun s => s.d.t)]] := by
          rw [List.map_cons, List.map_nil, d_mk]; rfl
        rw [ev] at next
        exact next
    exact f63 _ _ (loop l.length 0 (by omega))
end Go.Proofs.YtfknpnkdedckhaaGreatDoorT

/- Charts: their size (Small); the whole chart by the program and by the document. -/
namespace Go.Proofs.YtfknpnkdedckhaaGreatDoorT
open Go Go.Proofs
set_option linter.unusedVariables false
def Good (r left : Int) (w : Nat) : Prop := r = -1 ∨ (0 ≤ r ∧ r + (w : Int) ≤ left)
theorem q50 {a : Nat} (h : a ≤ 140737488351232) : IntKind.wrap .i64 (Int.tdiv (a : Int) 50) = ((a / 50 : Nat) : Int) := by
  rw [Int.tdiv_eq_ediv_of_nonneg (by omega), w64 (by omega)]
  omega
def setsWt (l : List On) : Nat := (l.map fun o => o.sets.length).sum
theorem onsWt_eq (l : List On) : onsWt l = l.length + setsWt l := by
  unfold onsWt setsWt
  induction l with
  | nil => rfl
  | cons o l ih =>
    simp only [List.map_cons, List.sum_cons, List.length_cons]
    have : On.wt o = 1 + o.sets.length := rfl
    omega
theorem r74 : ∀ (n : Nat) (l : List Stt) (ts : List T) (depth left : Int), RawSl l ts → (l.map Stt.wt).sum ≤ n → l.length ≤ 140737488351232 → 0 ≤ depth → depth ≤ 16 → 0 ≤ left → left ≤ 400 →
    ∃ r : Int, Rn 74 [.sl 11 ts, i64 depth, i64 left] (i64 r, [.dead, .dead, .dead]) ∧ Good r left (l.map Stt.wt).sum := by
  intro n
  induction n using Nat.strongRecOn with
  | _ n ih =>
    intro l ts depth left hraw hn hlen hd0 hd1 hl0 hl1
    have hr := (rawSl_iff l ts).1 hraw
    by_cases hdp : (15 : Int) < depth
    · exact ⟨-1, f74 _ _ _ _ (cT (by simpa using hdp) rfl), .inl rfl⟩
    have loop : ∀ (d k : Nat) (left : Int), k + d = l.length → 0 ≤ left → left ≤ 400 → ∃ r : Int, L74_0 ts depth left ((ts.length : Nat) : Int) (k : Int) (i64 r, [.dead, .dead, .dead]) ∧ Good r left ((l.drop k).map Stt.wt).sum := by
      intro d
      induction d with
      | zero =>
        intro k left hk h0 h1
        refine ⟨left, l74_0 _ _ _ _ _ _ (cF (by rw [hr.1]; simp; omega) rfl), .inr ⟨h0, ?_⟩⟩
        rw [List.drop_of_length_le (by omega)]; simp
      | succ d ihd =>
        intro k left hk h0 h1
        have hlt : k < l.length := by omega
        obtain ⟨t, ht, hst⟩ := hr.get hlt
        have hsum := sum_mem (f := Stt.wt) (List.getElem_mem hlt)
        rw [List.drop_eq_getElem_cons hlt, List.map_cons, List.sum_cons]
        generalize hsk : l[k] = sk at hst hsum ⊢
        obtain ⟨bb, il⟩ := sk
        rw [RawSt] at hst
        obtain ⟨w, rfl, ⟨e1, e2, e3, e4, e5, e6, e7, e8, e9⟩, hons, hin, z1, z2, z3, z4, z5⟩ := hst
        rw [wt_mk, onsWt_eq] at hsum ⊢
        have g := getT ht
        have x1 : IntKind.wrap .i64 (left - 1) = left - 1 := w64 (by omega)
        have x2 : IntKind.wrap .i64 (left - 1 - ((w.fOns.length : Nat) : Int)) = left - 1 - (bb.ons.length : Int) := by rw [hons.1]; exact w64 (by omega)
        have y1 := q50 z1
        have y2 := q50 z2
        have y3 := q50 z3
        rw [← e1] at y1 z1
        rw [← e6] at y2 z2
        rw [← e7] at y3 z3
        -- the ons
        have ons : ∀ (c j : Nat) (left' : Int), j + c = bb.ons.length → 0 ≤ left' → left' ≤ 400 → ∃ r : Int, L74_1 ts depth left' (k : Int) ((ts.length : Nat) : Int) (k : Int) ((w.fOns.length : Nat) : Int) (j : Int) (i64 r, [.dead, .dead, .dead]) ∧
            Good r left' (setsWt (bb.ons.drop j) + (il.map Stt.wt).sum + ((l.drop (k + 1)).map Stt.wt).sum) := by
          intro c
          induction c with
          | zero =>
            intro j left' hj g0 g1
            obtain ⟨r4, h4, hg4⟩ := ih ((il.map Stt.wt).sum) (by omega) il w.fInner (depth + 1) left' hin (Nat.le_refl _) z5 (by omega) (by omega) g0 g1
            have hs0 : setsWt (bb.ons.drop j) = 0 := by rw [List.drop_of_length_le (by omega)]; rfl
            have xd : IntKind.wrap .i64 (depth + 1) = depth + 1 := w64 (by omega)
            rcases hg4 with rfl | ⟨p0, p1⟩
            · exact ⟨-1, l74_1 _ _ _ _ _ _ _ _ _ (cF (by rw [hons.1]; simp; omega) ⟨w, ⟨by omega, g⟩, -1, by rw [xd]; exact h4, cT (by simp) rfl⟩), .inl rfl⟩
            · obtain ⟨r, h5, hg5⟩ := ihd (k + 1) r4 (by omega) p0 (by omega)
              refine ⟨r, l74_1 _ _ _ _ _ _ _ _ _ (cF (by rw [hons.1]; simp; omega) ⟨w, ⟨by omega, g⟩, r4, by rw [xd]; exact h4, cF (by simp; omega) ?_⟩), ?_⟩
              · rw [wS (by omega)]; exact h5
              · rcases hg5 with rfl | ⟨q0, q1⟩
                · exact .inl rfl
                · right; rw [hs0]; exact ⟨q0, by omega⟩
          | succ c ihc =>
            intro j left' hj g0 g1
            have hjl : j < bb.ons.length := by omega
            obtain ⟨t2, ht2, wo, rfl, he, htg, hln, hcl, hsets, ⟨x, hx, hgd⟩, u1, u2, u3⟩ := hons.get hjl
            have go : w.fOns[Int.toNat (j : Int)]? = some wo.t := getT ht2
            have hsw : setsWt (bb.ons.drop j) = (bb.ons[j]).sets.length + setsWt (bb.ons.drop (j + 1)) := by
              rw [List.drop_eq_getElem_cons hjl]; unfold setsWt; rw [List.map_cons, List.sum_cons]
            rw [← he] at u1
            rw [← htg] at u2
            have v1 := q50 u1
            have v2 := q50 u2
            have x3 : IntKind.wrap .i64 (left' - ((wo.fSets.length : Nat) : Int)) = left' - ((bb.ons[j]).sets.length : Int) := by rw [hsets.1]; exact w64 (by omega)
            obtain ⟨b, h171⟩ := hx.2.2.2
            have tot : IntKind.wrap .i64 (IntKind.wrap .i64 (IntKind.wrap .i64 (left' - ((wo.fSets.length : Nat) : Int)) - IntKind.wrap .i64 (Int.tdiv ((ByteArray.size wo.fEvent : Nat) : Int) 50)) - IntKind.wrap .i64 (Int.tdiv ((ByteArray.size wo.fTarget : Nat) : Int) 50)) = left' - ((bb.ons[j]).sets.length : Int) - ((wo.fEvent.size / 50 : Nat) : Int) - ((wo.fTarget.size / 50 : Nat) : Int) := by
              rw [x3, v1, v2, w64 (n := left' - ((bb.ons[j]).sets.length : Int) - ((wo.fEvent.size / 50 : Nat) : Int)) (by omega), w64 (by omega)]
            by_cases hneg : left' - ((bb.ons[j]).sets.length : Int) - ((wo.fEvent.size / 50 : Nat) : Int) - ((wo.fTarget.size / 50 : Nat) : Int) < 0
            · exact ⟨-1, l74_1 _ _ _ _ _ _ _ _ _ (cT (by rw [hons.1]; simp; omega) ⟨w, ⟨by omega, g⟩, wo, ⟨by omega, go⟩, cT (by rw [tot]; simpa using hneg) rfl⟩), .inl rfl⟩
            obtain ⟨r, h5, hg5⟩ := ihc (j + 1) (left' - ((bb.ons[j]).sets.length : Int) - ((wo.fEvent.size / 50 : Nat) : Int) - ((wo.fTarget.size / 50 : Nat) : Int)) (by omega) (by omega) (by omega)
            have start : ∀ r' : Int, cond (!b) ((i64 r', [T.dead, .dead, .dead]) = ((i64 (-1), [.dead, .dead, .dead]) : T × List T)) (L74_2 ts depth (left' - ((bb.ons[j]).sets.length : Int) - ((wo.fEvent.size / 50 : Nat) : Int) - ((wo.fTarget.size / 50 : Nat) : Int)) (k : Int) ((ts.length : Nat) : Int) (k : Int) ((w.fOns.length : Nat) : Int) (j : Int) wo.fGuard_Kind wo.fGuard_N wo.fGuard_S wo.fGuard_Parts b (!b) ((wo.fSets.length : Nat) : Int) 0 wo (i64 r', [.dead, .dead, .dead])) →
                L74_1 ts depth left' (k : Int) ((ts.length : Nat) : Int) (k : Int) ((w.fOns.length : Nat) : Int) (j : Int) (i64 r', [.dead, .dead, .dead]) := by
              intro r' hh
              refine l74_1 _ _ _ _ _ _ _ _ _ (cT (by rw [hons.1]; simp; omega) ⟨w, ⟨by omega, g⟩, wo, ⟨by omega, go⟩, cF (by rw [tot]; simpa using hneg) ⟨b, h171, ?_⟩⟩)
              rw [tot]
              exact hh
            cases b with
            | false => exact ⟨-1, start (-1) (cT rfl rfl), .inl rfl⟩
            | true =>
              -- the sets
              have sets : ∀ (e p : Nat), p + e = (bb.ons[j]).sets.length → ∃ r' : Int, (r' = -1 ∨ r' = r) ∧ L74_2 ts depth (left' - ((bb.ons[j]).sets.length : Int) - ((wo.fEvent.size / 50 : Nat) : Int) - ((wo.fTarget.size / 50 : Nat) : Int)) (k : Int) ((ts.length : Nat) : Int) (k : Int) ((w.fOns.length : Nat) : Int) (j : Int) wo.fGuard_Kind wo.fGuard_N wo.fGuard_S wo.fGuard_Parts true (!true) ((wo.fSets.length : Nat) : Int) (p : Int) wo (i64 r', [.dead, .dead, .dead]) := by
                intro e
                induction e with
                | zero =>
                  intro p hp
                  refine ⟨r, .inr rfl, l74_2 _ _ _ _ _ _ _ _ _ _ _ _ _ _ _ _ _ _ (cF (by rw [hsets.1]; simp; omega) ?_)⟩
                  rw [wS (by omega)]; exact h5
                | succ e ihe =>
                  intro p hp
                  have hpl : p < (bb.ons[j]).sets.length := by omega
                  obtain ⟨t3, ht3, wg, rfl, hnm, _, hgw⟩ := hsets.get hpl
                  obtain ⟨b3, h171'⟩ := hgw.2.2.2
                  have gg := getT ht3
                  cases b3 with
                  | false => exact ⟨-1, .inl rfl, l74_2 _ _ _ _ _ _ _ _ _ _ _ _ _ _ _ _ _ _ (cT (by rw [hsets.1]; simp; omega) ⟨wg, ⟨by omega, gg⟩, false, h171', cT rfl rfl⟩)⟩
                  | true =>
                    by_cases hbig : (1000 : Int) < ((ByteArray.size wg.fName : Nat) : Int)
                    · exact ⟨-1, .inl rfl, l74_2 _ _ _ _ _ _ _ _ _ _ _ _ _ _ _ _ _ _ (cT (by rw [hsets.1]; simp; omega) ⟨wg, ⟨by omega, gg⟩, true, h171', cF rfl ⟨wg, ⟨by omega, gg⟩, cT (by simpa using hbig) rfl⟩⟩)⟩
                    · obtain ⟨r', hr', h6⟩ := ihe (p + 1) (by omega)
                      refine ⟨r', hr', l74_2 _ _ _ _ _ _ _ _ _ _ _ _ _ _ _ _ _ _ (cT (by rw [hsets.1]; simp; omega) ⟨wg, ⟨by omega, gg⟩, true, h171', cF rfl ⟨wg, ⟨by omega, gg⟩, cF (by simpa using hbig) ?_⟩⟩)⟩
                      rw [wS (by omega)]; exact h6
              obtain ⟨r', hr', h6⟩ := sets _ 0 (Nat.zero_add _)
              refine ⟨r', start r' (cF rfl h6), ?_⟩
              rcases hr' with rfl | rfl
              · exact .inl rfl
              · rcases hg5 with rfl | ⟨q0, q1⟩
                · exact .inl rfl
                · right; rw [hsw]; exact ⟨q0, by omega⟩
        have tot : IntKind.wrap .i64 (IntKind.wrap .i64 (IntKind.wrap .i64 (IntKind.wrap .i64 (IntKind.wrap .i64 (left - 1) - ((w.fOns.length : Nat) : Int)) - IntKind.wrap .i64 (Int.tdiv ((ByteArray.size w.fName : Nat) : Int) 50)) - IntKind.wrap .i64 (Int.tdiv ((ByteArray.size w.fDo : Nat) : Int) 50)) - IntKind.wrap .i64 (Int.tdiv ((ByteArray.size w.fUndo : Nat) : Int) 50)) =
            left - 1 - (bb.ons.length : Int) - ((w.fName.size / 50 : Nat) : Int) - ((w.fDo.size / 50 : Nat) : Int) - ((w.fUndo.size / 50 : Nat) : Int) := by
          rw [x1, x2, y1, y2, y3, w64 (n := left - 1 - (bb.ons.length : Int) - ((w.fName.size / 50 : Nat) : Int)) (by omega), w64 (n := left - 1 - (bb.ons.length : Int) - ((w.fName.size / 50 : Nat) : Int) - ((w.fDo.size / 50 : Nat) : Int)) (by omega), w64 (by omega)]
        by_cases hneg : left - 1 - (bb.ons.length : Int) - ((w.fName.size / 50 : Nat) : Int) - ((w.fDo.size / 50 : Nat) : Int) - ((w.fUndo.size / 50 : Nat) : Int) < 0
        · exact ⟨-1, l74_0 _ _ _ _ _ _ (cT (by rw [hr.1]; simp; omega) ⟨w, ⟨by omega, g⟩, w, ⟨by omega, g⟩, w, ⟨by omega, g⟩, w, ⟨by omega, g⟩, cT (by rw [tot]; simpa using hneg) rfl⟩), .inl rfl⟩
        · obtain ⟨r, h5, hg5⟩ := ons bb.ons.length 0 (left - 1 - (bb.ons.length : Int) - ((w.fName.size / 50 : Nat) : Int) - ((w.fDo.size / 50 : Nat) : Int) - ((w.fUndo.size / 50 : Nat) : Int)) (by omega) (by omega) (by omega)
          refine ⟨r, l74_0 _ _ _ _ _ _ (cT (by rw [hr.1]; simp; omega) ⟨w, ⟨by omega, g⟩, w, ⟨by omega, g⟩, w, ⟨by omega, g⟩, w, ⟨by omega, g⟩, cF (by rw [tot]; simpa using hneg) ⟨w, ⟨by omega, g⟩, ?_⟩⟩), ?_⟩
          · rw [tot]; exact h5
          · rcases hg5 with rfl | ⟨q0, q1⟩
            · exact .inl rfl
            · right; rw [List.drop_zero] at q1; exact ⟨q0, by omega⟩
    obtain ⟨r, h, hg⟩ := loop l.length 0 left (by omega) hl0 hl1
    rw [List.drop_zero] at hg
    exact ⟨r, f74 _ _ _ _ (cF (by simpa using hdp) h), hg⟩
/-- A chart of a size that is looked at. -/
structure Light (c : Ch) : Prop where
  wt : (c.states.map Stt.wt).sum ≤ 400
  vars : c.vars.length ≤ 200
  name : c.name.size ≤ 1000
theorem Light.each {c : Ch} (h : Light c) : (∀ s ∈ c.states, s.wt ≤ 400) ∧ c.states.length ≤ 400 := by
  have := h.wt
  refine ⟨fun s hs => ?_, ?_⟩
  · have := sum_mem (f := Stt.wt) hs; omega
  · have := sum_len (f := Stt.wt) wt_pos c.states; omega
theorem r25 {w : W_tumbrelref06_Chart} {c : Ch} (h : RawCh w c) : ∃ b : Bool, Rn 25 [w.t] (tb b, [.dead]) ∧ (b = true → Light c) := by
  obtain ⟨e1, e2, e3, e4, e5, e6, e7, e8, e9, e10⟩ := h
  have hv : ((w.fVars.length : Nat) : Int) = (c.vars.length : Int) := by rw [e5, List.length_map]
  by_cases h1 : c.vars.length ≤ 200
  · by_cases h2 : c.name.size ≤ 1000
    · obtain ⟨r, h74, hg⟩ := r74 _ c.states w.fStates 0 400 e6 (Nat.le_refl _) e9 (by omega) (by omega) (by omega) (by omega)
      refine ⟨decide (0 ≤ r), f25 _ _ (cT (by rw [hv]; simp; omega) (cT (by rw [e1]; simp; omega) ⟨r, h74, rfl⟩)), fun hb => ⟨?_, h1, h2⟩⟩
      have hb : 0 ≤ r := by simpa using hb
      rcases hg with rfl | ⟨p0, p1⟩
      · omega
      · omega
    · exact ⟨false, f25 _ _ (cT (by rw [hv]; simp; omega) (cF (by rw [e1]; simp; omega) rfl)), fun h => by cases h⟩
  · exact ⟨false, f25 _ _ (cF (by rw [hv]; simp; omega) rfl), fun h => by cases h⟩
theorem r16 {w : W_tumbrelref06_Chart} {c : Ch} (h : RawCh w c) (hl : Light c) : Rn 16 [w.t] (c.v.t, [.dead]) := by
  obtain ⟨e1, e2, e3, e4, e5, e6, e7, e8, e9, e10⟩ := h
  have hw := hl.wt
  have hv := hl.vars
  have h59 := r59 _ c.states w.fStates e6 hl.each.1 hl.each.2 (Nat.le_refl _)
  have hlen : w.fVars.length = c.vars.length := by rw [e5, List.length_map]
  have loop : ∀ (d k : Nat), k + d = c.vars.length → L16_0 ((w.fVars.length : Nat) : Int) (k : Int) w (bs []) 0 0 0 w.fName w.fVersion w.fAt_Line w.fAt_Col ((c.vars.take k).map fun x => x.v.t) (c.states.map fun s => s.v.t) (c.v.t, [.dead]) := by
    intro d
    induction d with
    | zero =>
      intro k hk
      refine l16_0 _ _ _ _ _ _ _ _ _ _ _ _ _ _ (cF (by rw [hlen]; simp; omega) ?_)
      rw [List.take_of_length_le (by omega), e1, e2, e3, e4]
      rfl
    | succ d ih =>
      intro k hk
      have hlt : k < c.vars.length := by omega
      have g : w.fVars[Int.toNat (k : Int)]? = some (c.vars[k]).d.t := by rw [e5]; exact getm hlt
      have := ih (k + 1) (by omega)
      rw [List.take_succ_eq_append_getElem hlt, List.map_append] at this
      refine l16_0 _ _ _ _ _ _ _ _ _ _ _ _ _ _ (cT (by rw [hlen]; simp; omega) ⟨(c.vars[k]).d, ⟨by omega, g⟩, ckn (by simp; omega) ?_⟩)
      rw [wS (by omega)]
      exact this
  exact f16 _ _ ⟨_, h59, loop c.vars.length 0 (by omega)⟩
theorem r18 {w : W_tumbrelref06_Chart} {c : Ch} (h : RawCh w c) (hl : Light c) : Rn 18 [w.t] (c.d.t, [.dead]) := by
  obtain ⟨e1, e2, e3, e4, e5, e6, e7, e8, e9, e10⟩ := h
  have h63 := r63 _ c.states w.fStates e6 hl.each.1 hl.each.2 (Nat.le_refl _)
  refine f18 _ _ ⟨_, h63, ?_⟩
  rw [e1, e2, e3, e4, e5]
  rfl
end Go.Proofs.YtfknpnkdedckhaaGreatDoorT

/- The library's inner ParseUint at base 10 and 63 bits, at every text that is not empty (a walk of the guide's, turned to 63 bits). -/
namespace Go.Proofs.YtfknpnkdedckhaaGreatDoorT
open Go Go.Proofs Go.Shelf Go.RowKit
variable {P : Program} {ρ : Ren}
set_option maxHeartbeats 32000000 in
set_option maxRecDepth 100000 in
theorem parseUint63 (L : Lays.n287 P ρ) (t : ByteArray) (hne : t.size ≠ 0) (hmax : t.size ≤ 9223372036854775806) (w : World) :
    Calls P (ρ.f 287) #[.string t, .int .i64 10, .int .i64 63] w fun e w' => e = .returned (Lib.uintTupleM (ρ.t 167) 9223372036854775807 (Lib.parseUintM 9223372036854775807 0 t.data.toList)) ∧ w' = Lib.bytesWorld w (ρ.t 5) t := by
  have mixed := L.mixed
  have t9 := L.t9; have a9 := L.a9; have z9 := L.z9; have v9 := L.v9
  have t3 := L.t3; have a3 := L.a3; have z3 := L.z3; have v3 := L.v3
  have t53 := L.t53; have a53 := L.a53; have z53 := L.z53; have v53 := L.v53
  have t75 := L.t75; have a75 := L.a75; have z75 := L.z75; have v75 := L.v75
  have t4 := L.t4; have a4 := L.a4; have z4 := L.z4; have v4 := L.v4
  have t167 := L.t167; have a167 := L.a167; have z167 := L.z167; have v167 := L.v167
  have t5 := L.t5; have a5 := L.a5; have z5 := L.z5; have v5 := L.v5
  have t46 := L.t46; have a46 := L.a46; have z46 := L.z46; have v46 := L.v46
  have t37 := L.t37; have a37 := L.a37; have z37 := L.z37; have v37 := L.v37
  have t0 := L.t0; have a0 := L.a0; have z0 := L.z0; have v0 := L.v0
  have e321 : ∀ args w, (callFunc (ρ.f 321) args).run P w = .ok (.enter (ρ.f 321) args) w := enters_of L.f321 (by kernel_rfl) rfl
  have hemp : t.toList.isEmpty = false := by
    rw [← decide_eq_emptyBytes]
    exact decide_eq_false (fun h => hne (by rw [h]; rfl))
  have hcv := Lib.run_convert_string_bytes (P := P) w (ρ.t 9) (ρ.t 37) (ρ.t 5) t (u := .string) L.t9 L.t37 L.t5
  have hB : ∀ j, j < t.size → (Lib.bytesWorld w (ρ.t 5) t).cell? ⟨w.heap.size, j, none⟩ = some (.int .u8 (t.data.toList.getD j 0).toNat) := fun j hj => Lib.bytesWorld_cell w (ρ.t 5) t j hj
  obtain ⟨W1, hW1⟩ : ∃ W1, W1 = Lib.bytesWorld w (ρ.t 5) t := ⟨_, rfl⟩
  rw [← hW1] at hcv hB ⊢
  clear hW1
  obtain ⟨bs, hL⟩ : ∃ bs, bs = t.data.toList := ⟨_, rfl⟩
  have hLn : bs.length = t.size := by rw [hL, Lib.size_eq]
  rw [← hL] at hB ⊢
  clear hL
  -- 'maxVal := uint64(1)<<uint(bitSize) - 1': its value, for the walk to take
  have hmv : IntKind.u64.wrap (IntKind.u64.wrap 9223372036854775808 - 1) = 9223372036854775807 := by
    rw [IntKind.wrap_u64, IntKind.wrap_u64]
    decide
  go_enter L.f287, Body.n287_ntmps ρ
  go_wp2
  go_loop [12, 13, 101] (fun vu vn vi => ∃ (k acc : Nat) (a : Int), vu = .bool false ∧ vn = .int .u64 a ∧ vi = .int .i64 k ∧ k ≤ t.size ∧ Hid (a = (acc : Int) ∧ acc ≤ 9223372036854775807 ∧ Lib.parseUintM 9223372036854775807 0 bs = Lib.parseUintM 9223372036854775807 acc (bs.drop k)))
    (fun _ _ vi => t.size - (intOf vi).toNat)
  case atStart => exact ⟨0, 0, 0, rfl, rfl, rfl, by omega, rfl, by omega, rfl⟩
  case round =>
    obtain ⟨k, acc, a, rfl, rfl, rfl, hk, hh⟩ := hrel
    obtain ⟨ha, hacc, hdec⟩ := hh.out
    clear hh
    have a0 : 0 ≤ a := by omega
    have a1 : a ≤ 9223372036854775807 := by omega
    by_cases hkn : k < t.size
    · have hc := hB k hkn
      have hdrop : bs.drop k = bs[k]'(by omega) :: bs.drop (k + 1) := List.drop_eq_getElem_cons (by omega)
      have hget : bs.getD k 0 = bs[k]'(by omega) := by simp [List.getD, List.getElem?_eq_getElem (show k < bs.length by omega)]
      rw [hdrop] at hdec
      rw [hget] at hc
      generalize bs[k]'(by omega) = c at hc hdec
      have hc256 : c.toNat < 256 := c.toNat_lt
      clear hB hdrop hget
      by_cases hdig : 48 ≤ c.toNat ∧ c.toNat ≤ 57
      · obtain ⟨hd0, hd1⟩ := hdig
        by_cases hcut : 1844674407370955162 ≤ acc
        · have hF : Lib.parseUintM 9223372036854775807 acc (c :: bs.drop (k + 1)) = .range := by simp [Lib.parseUintM, hd0, hd1, hcut]
          rw [hF] at hdec
          have icut : 1844674407370955162 ≤ a := by omega
          clear hcut hacc hF ha
          go_wp2
          go_ret2
          exact ⟨rfl, rfl⟩
        by_cases hwr2 : 18446744073709551616 ≤ acc * 10 + (c.toNat - 48)
        · have hF : Lib.parseUintM 9223372036854775807 acc (c :: bs.drop (k + 1)) = .range := by simp [Lib.parseUintM, hd0, hd1, hcut, show 9223372036854775807 < acc * 10 + (c.toNat - 48) by omega]
          rw [hF] at hdec
          have icut : a < 1844674407370955162 := by omega
          have iov : 18446744073709551616 ≤ a * 10 + ((c.toNat : Int) - 48) := by omega
          have hwr : IntKind.u64.wrap (a * 10 + ((c.toNat : Int) - 48)) = a * 10 + ((c.toNat : Int) - 48) - 18446744073709551616 := by
            rw [IntKind.wrap_u64]
            omega
          clear hcut hacc hF hwr2 ha
          go_wp2
          go_ret2
          exact ⟨rfl, rfl⟩
        by_cases hov : 9223372036854775807 < acc * 10 + (c.toNat - 48)
        · have hF : Lib.parseUintM 9223372036854775807 acc (c :: bs.drop (k + 1)) = .range := by simp [Lib.parseUintM, hd0, hd1, hcut, hov]
          rw [hF] at hdec
          have icut : a < 1844674407370955162 := by omega
          have iov : 9223372036854775807 < a * 10 + ((c.toNat : Int) - 48) := by omega
          have iw : a * 10 + ((c.toNat : Int) - 48) < 18446744073709551616 := by omega
          clear hcut hacc hF hov hwr2 ha
          go_wp2
          go_ret2
          exact ⟨rfl, rfl⟩
        · have hF : Lib.parseUintM 9223372036854775807 acc (c :: bs.drop (k + 1)) = Lib.parseUintM 9223372036854775807 (acc * 10 + (c.toNat - 48)) (bs.drop (k + 1)) := by simp [Lib.parseUintM, hd0, hd1, hcut, hov]
          have HN : Hid (a * 10 + ((c.toNat : Int) - 48) = ((acc * 10 + (c.toNat - 48) : Nat) : Int) ∧ acc * 10 + (c.toNat - 48) ≤ 9223372036854775807 ∧ Lib.parseUintM 9223372036854775807 0 bs = Lib.parseUintM 9223372036854775807 (acc * 10 + (c.toNat - 48)) (bs.drop (k + 1))) := Lib.hid ⟨by omega, by omega, hdec.trans hF⟩
          have icut : a < 1844674407370955162 := by omega
          have iov : a * 10 + ((c.toNat : Int) - 48) ≤ 9223372036854775807 := by omega
          clear hcut hacc hF hov hwr2 hdec ha
          go_wp2
          refine ⟨⟨k + 1, acc * 10 + (c.toNat - 48), a * 10 + ((c.toNat : Int) - 48), rfl, (by first | rfl | (congr 1; omega)), (by first | rfl | (congr 1; omega)), by omega, HN⟩, by simp [intOf]; omega⟩
      · -- NO DIGIT: whatever way the text goes: (0, ErrSyntax)
        have hF : Lib.parseUintM 9223372036854775807 acc (c :: bs.drop (k + 1)) = Lib.NumEnd.syntax := by simp [Lib.parseUintM, hdig]
        rw [hF] at hdec
        clear hacc hF ha
        have hv0 := bits_lo_u8 .or (c.toNat : Int) 32
        have hv1 := bits_hi_u8 .or (c.toNat : Int) 32
        have hu0 := bits_lo_u8 .or 95 32       -- at '_' the walk writes the byte out
        have hu1 := bits_hi_u8 .or 95 32
        go_wp2_with (go_at_fn (ρ.f 321); refine (Any.internal_strconv_lower { L with } _ _).mono ?_; rintro e w' ⟨rfl, rfl⟩)
        all_goals go_ret2
        all_goals first | exact ⟨rfl, rfl⟩ | exact ⟨by rw [hdec]; rfl, rfl⟩
    · -- THE BYTES ARE AT AN END
      have hkk : k = t.size := by omega
      subst hkk
      have hF : Lib.parseUintM 9223372036854775807 acc (bs.drop t.size) = .ok acc := by rw [List.drop_eq_nil_of_le (by omega)]; rfl
      rw [hF] at hdec
      subst ha
      clear hacc hF a0 a1
      go_wp2
      go_ret2
      exact ⟨rfl, rfl⟩



end Go.Proofs.YtfknpnkdedckhaaGreatDoorT

/- The library's numerals of numbers, at base 10 (after the guide's walk of FormatInt). -/
namespace Go.Proofs
open Go.Shelf Go.RowKit Go.Sort Go.Lib
def Tryz.laysND_ren : Go.Shelf.Ren := ⟨fun | 284 => 266 | 129 => 312 | 317 => 337 | 318 => 338 | n => n, fun | 53 => 408 | 3 => 3 | 212 => 479 | 0 => 0 | 4 => 4 | 46 => 359 | 5 => 5 | 9 => 9 | n => n, fun | 17 => 0 | n => n⟩
theorem Tryz.laysND : Go.Proofs.LaysM.n284 Tryz.prog Tryz.laysND_ren where
  mixed := by kernel_rfl
  f129 := Tryz.func312.trans (congrArg some (by kernel_rfl))
  f284 := Tryz.func266.trans (congrArg some (by kernel_rfl))
  f317 := Tryz.func337.trans (congrArg some (by kernel_rfl))
  f318 := Tryz.func338.trans (congrArg some (by kernel_rfl))
  t0 := Tryz.underlying0
  a0 := Tryz.isAgg0
  z0 := Tryz.sizeOf0
  v0 := Tryz.zeroValue0
  t3 := Tryz.underlying3
  a3 := Tryz.isAgg3
  z3 := Tryz.sizeOf3
  v3 := Tryz.zeroValue3
  t4 := Tryz.underlying4
  a4 := Tryz.isAgg4
  z4 := Tryz.sizeOf4
  v4 := Tryz.zeroValue4
  t5 := Tryz.underlying5
  a5 := Tryz.isAgg5
  z5 := Tryz.sizeOf5
  v5 := Tryz.zeroValue5
  t9 := Tryz.underlying9
  a9 := Tryz.isAgg9
  z9 := Tryz.sizeOf9
  v9 := Tryz.zeroValue9
  t46 := Tryz.underlying359
  a46 := Tryz.isAgg359
  z46 := Tryz.sizeOf359
  v46 := Tryz.zeroValue359
  t53 := Tryz.underlying408
  a53 := Tryz.isAgg408
  z53 := Tryz.sizeOf408
  v53 := Tryz.zeroValue408
  t212 := Tryz.underlying479
  a212 := Tryz.isAgg479
  z212 := Tryz.sizeOf479
  v212 := Tryz.zeroValue479
  g17 := by kernel_rfl
  i0 := by kernel_rfl
  i3 := by kernel_rfl
  i4 := by kernel_rfl
  i5 := by kernel_rfl
  i9 := by kernel_rfl
  i46 := by kernel_rfl
  i53 := by kernel_rfl
  i212 := by kernel_rfl
  m17 := by kernel_rfl
def Tryz.laysFB_ren : Go.Shelf.Ren := ⟨fun | 285 => 267 | n => n, fun | 37 => 211 | 53 => 408 | 3 => 3 | 4 => 4 | 51 => 453 | 9 => 9 | 5 => 5 | 0 => 0 | n => n, fun | n => n⟩
theorem Tryz.laysFB : Go.Proofs.Lays.n285 Tryz.prog Tryz.laysFB_ren where
  mixed := by kernel_rfl
  f285 := Tryz.func267.trans (congrArg some (by kernel_rfl))
  t0 := Tryz.underlying0
  a0 := Tryz.isAgg0
  z0 := Tryz.sizeOf0
  v0 := Tryz.zeroValue0
  t3 := Tryz.underlying3
  a3 := Tryz.isAgg3
  z3 := Tryz.sizeOf3
  v3 := Tryz.zeroValue3
  t4 := Tryz.underlying4
  a4 := Tryz.isAgg4
  z4 := Tryz.sizeOf4
  v4 := Tryz.zeroValue4
  t5 := Tryz.underlying5
  a5 := Tryz.isAgg5
  z5 := Tryz.sizeOf5
  v5 := Tryz.zeroValue5
  t9 := Tryz.underlying9
  a9 := Tryz.isAgg9
  z9 := Tryz.sizeOf9
  v9 := Tryz.zeroValue9
  t37 := Tryz.underlying211
  a37 := Tryz.isAgg211
  z37 := Tryz.sizeOf211
  v37 := Tryz.zeroValue211
  t51 := Tryz.underlying453
  a51 := Tryz.isAgg453
  z51 := Tryz.sizeOf453
  v51 := Tryz.zeroValue453
  t53 := Tryz.underlying408
  a53 := Tryz.isAgg408
  z53 := Tryz.sizeOf408
  v53 := Tryz.zeroValue408
def Tryz.laysSmall_ren : Go.Shelf.Ren := ⟨fun | 283 => 265 | n => n, fun | 3 => 3 | 9 => 9 | 4 => 4 | n => n, fun | n => n⟩
theorem Tryz.laysSmall : Go.Proofs.Lays.n283 Tryz.prog Tryz.laysSmall_ren where
  mixed := by kernel_rfl
  f283 := Tryz.func265.trans (congrArg some (by kernel_rfl))
  t3 := Tryz.underlying3
  a3 := Tryz.isAgg3
  z3 := Tryz.sizeOf3
  v3 := Tryz.zeroValue3
  t4 := Tryz.underlying4
  a4 := Tryz.isAgg4
  z4 := Tryz.sizeOf4
  v4 := Tryz.zeroValue4
  t9 := Tryz.underlying9
  a9 := Tryz.isAgg9
  z9 := Tryz.sizeOf9
  v9 := Tryz.zeroValue9
namespace YtfknpnkdedckhaaGreatDoorT
set_option linter.unusedVariables false
set_option maxHeartbeats 4000000 in
set_option maxRecDepth 100000 in
theorem fmtU (u : Nat) (hu64 : u < 18446744073709551616) (w : World) (htab : Lib.TabIs Tryz.prog w "internal/strconv.uint64pow10" .u64 Lib.pow10Tab) :
    Calls Tryz.prog 403 #[.int .u64 u, .int .i64 10] w fun e w' => e = .returned (.string ⟨(Lib.decDigits u).toArray⟩) ∧ Below w.heap.size w w' := by
  by_cases hi : u < 100
  · have c : ∀ W, Calls Tryz.prog 265 #[.int .i64 u] W fun e w' => e = .returned (.string ⟨(Lib.decDigits u).toArray⟩) ∧ w' = W := fun W => Any.internal_strconv_small Tryz.laysSmall u hi W
    have hcv : IntKind.i64.wrap (u : Int) = (u : Int) := by rw [IntKind.wrap_i64]; omega
    go_enter Tryz.func403, Tryz.ntmps403
    go_wp2_with (go_at_call 265; refine (c _).mono ?_; rintro e w' ⟨rfl, rfl⟩)
    go_ret
    exact ⟨rfl, Below.refl _ _⟩
  · have hu1 : 1 ≤ u := by omega
    have hnd20 : Lib.nDigits u ≤ 20 := by have := Lib.numDigits_eq u hu1 hu64; split at this <;> omega
    have hal : Tryz.prog.arrayLen 407 = 24 := by kernel_rfl
    have hsl1 : ∀ W, (Instr.sliceAt 407 (.pointer (some ⟨w.heap.size, 0, none⟩)) none (some (.int .i64 (Lib.nDigits u : Int))) none).run Tryz.prog W = .ok (.slice (some ⟨w.heap.size, 0, none⟩) (Lib.nDigits u) 24) W := fun W => by
      rw [run_sliceAt_array_h W 407 ⟨w.heap.size, 0, none⟩ (by kernel_rfl) .i64 (Lib.nDigits u : Int) (by omega) (by rw [hal]; omega)]
      go_simp
    have hH0 := Lib.holds_zero0 w 407 (Lib.nDigits u) (by omega)
    have hfmt := Any.internal_strconv_formatBase10 Tryz.laysFB w.heap.size 0 24 u (Array.replicate (Lib.nDigits u) 0) (w.alloc (.cells Lib.zeros24 407)) hH0 (by rw [Array.size_replicate]; exact Lib.lt_pow_nDigits u) hu64 (by rw [Array.size_replicate]; omega)
    rw [Array.size_replicate] at hfmt
    have hnd : Calls Tryz.prog 266 #[.int .u64 u] (w.alloc (.cells Lib.zeros24 407)) fun e w' => e = .returned (.int .i64 (Lib.nDigits u)) ∧ w' = w.alloc (.cells Lib.zeros24 407) := Any.internal_strconv_numDigits Tryz.laysND u hu1 hu64 _ (Lib.tabIs_alloc htab _)
    have HH0 := Lib.hid hH0
    clear hH0 hal
    go_enter Tryz.func403, Tryz.ntmps403
    go_wp2_with (go_at_call 266; refine hnd.mono ?_; rintro e w' ⟨rfl, rfl⟩)
    go_at_call 267
    refine hfmt.mono ?_
    rintro e w' ⟨rfl, k, v', dk, rfl, hF⟩
    have hcv : (convert 211 9 (.slice (some ⟨w.heap.size, 0, none⟩) (Lib.nDigits u) 24)).run Tryz.prog ((putRow (fun (b : UInt8) => Value.int .u8 (b.toNat : Int)) (w.alloc (.cells Lib.zeros24 407)) w.heap.size 0 dk).drewN k) = .ok (.string ⟨(Lib.decDigits u).toArray⟩) ((putRow (fun (b : UInt8) => Value.int .u8 (b.toNat : Int)) (w.alloc (.cells Lib.zeros24 407)) w.heap.size 0 dk).drewN k) := by
      have h := run_convert_bytes_back (P := Tryz.prog) ((putRow (fun (b : UInt8) => Value.int .u8 (b.toNat : Int)) (w.alloc (.cells Lib.zeros24 407)) w.heap.size 0 dk).drewN k) 211 9 5 ⟨w.heap.size, 0, none⟩ 24 (Lib.decDigits u) Tryz.underlying211 Tryz.underlying5 Tryz.underlying9 (fun j hj => by
        rw [Lib.row_is_numeral hF j hj, Lib.add_plain, World.cell?_drewN]
        exact cell?_putRow (fun (b : UInt8) => Value.int .u8 (b.toNat : Int)) _ w.heap.size 0 _ dk HH0.out (by rw [hF.size, Array.size_replicate]) j (by rw [hF.size]; rw [Lib.decDigits_length] at hj; exact hj))
      rw [Lib.decDigits_length] at h
      exact h
    go_wp2
    go_ret
    refine ⟨rfl, ?_⟩
    obtain ⟨os, eo⟩ : ∃ os, (putRow (fun (b : UInt8) => Value.int .u8 (b.toNat : Int)) (w.alloc (.cells Lib.zeros24 407)) w.heap.size 0 dk).drewN k = grow (w.drewN k) os := by
      rw [alloc_eq_grow]
      obtain ⟨os', _, e⟩ := putRow_grow_new (fun (b : UInt8) => Value.int .u8 (b.toNat : Int)) w #[.cells Lib.zeros24 407] w.heap.size 0 dk (Nat.le_refl _)
      exact ⟨os', by rw [e]; rfl⟩
    rw [eo]
    exact Lib.below_grow _ _ (Nat.le_refl _) _ _
theorem glob_pow {w : World} {ok : Nat → Prop} (h : Glob w ok) : Lib.TabIs Tryz.prog w "internal/strconv.uint64pow10" .u64 Lib.pow10Tab := by
  obtain ⟨cs, t, z, h1, h2⟩ := glob_at h mem_pow
  show w.var? Tryz.prog _ = _
  unfold World.var?
  rw [show Tryz.prog.globalNamed "internal/strconv.uint64pow10" = some 0 by kernel_rfl]
  simp only [Option.bind_some, h1]
  rw [h2]
theorem runs403 (u : Nat) (hu64 : u < 18446744073709551616) : Runs Tryz.prog 403 [.s (.int .u64 u), i64 10] (st ⟨(Lib.decDigits u).toArray⟩, [.dead, .dead]) :=
  runs_of_calls (us := [.int .u64 u, .int .i64 10]) ⟨Tryz.f403, Tryz.func403, by decide, by kernel_rfl⟩ (by simp [plainV]) fun w hG =>
    (fmtU u hu64 w (glob_pow hG)).mono fun e w' ⟨he, hb⟩ => ⟨hb, _, he, fun ok => X_s rfl⟩
end YtfknpnkdedckhaaGreatDoorT
end Go.Proofs

/- Numbers. -/
namespace Go.Proofs.YtfknpnkdedckhaaGreatDoorT
open Go Go.Proofs
set_option linter.unusedVariables false
/-- The number that digits are, behind a. -/
def dgt : Nat → List UInt8 → Option Nat
  | a, [] => some a
  | a, c :: r => if 48 ≤ c.toNat ∧ c.toNat ≤ 57 then dgt (10 * a + (c.toNat - 48)) r else none
theorem dgt_snoc (c : UInt8) : ∀ (l : List UInt8) (a : Nat), dgt a (l ++ [c]) = (dgt a l).bind fun v => if 48 ≤ c.toNat ∧ c.toNat ≤ 57 then some (10 * v + (c.toNat - 48)) else none
  | [], a => by simp [dgt]
  | x :: l, a => by
    simp only [List.cons_append, dgt]
    split
    · exact dgt_snoc c l _
    · rfl
theorem dgt_ge : ∀ (l : List UInt8) (a v : Nat), dgt a l = some v → a ≤ v
  | [], a, v, h => by simp [dgt] at h; omega
  | x :: l, a, v, h => by
    rw [dgt] at h
    split at h
    · have := dgt_ge l _ v h
      omega
    · cases h
theorem dgt_dec (v : Nat) : dgt 0 (Lib.decDigits v) = some v := by
  induction v using Nat.strongRecOn with
  | _ v ih =>
    rw [Lib.decDigits]
    split
    · rename_i h
      have : (UInt8.ofNat (48 + v)).toNat = 48 + v := by simp; omega
      simp only [dgt, this]
      rw [if_pos (by omega)]
      congr 1; omega
    · rename_i h
      rw [dgt_snoc, ih (v / 10) (by omega)]
      have : (UInt8.ofNat (48 + v % 10)).toNat = 48 + v % 10 := by simp; omega
      simp only [Option.bind_some, this]
      rw [if_pos (by omega)]
      congr 1; omega
theorem dec_dgt : ∀ (n : Nat) (l : List UInt8) (v : Nat), l.length = n → l ≠ [] → (l.getD 0 0 ≠ 48 ∨ l.length = 1) → dgt 0 l = some v → Lib.decDigits v = l := by
  intro n
  induction n with
  | zero => intro l v h0 hne; exact absurd (List.eq_nil_of_length_eq_zero h0) hne
  | succ n ih =>
    intro l v hl hne hh hv
    obtain ⟨l', c, rfl⟩ : ∃ l' c, l = l' ++ [c] := ⟨l.dropLast, l.getLast hne, (List.dropLast_concat_getLast hne).symm⟩
    rw [dgt_snoc] at hv
    cases hv' : dgt 0 l' with
    | none => rw [hv'] at hv; cases hv
    | some v' =>
      rw [hv'] at hv
      simp only [Option.bind_some] at hv
      split at hv
      · rename_i hc
        simp only [Option.some.injEq] at hv
        have hcc : UInt8.ofNat (48 + (c.toNat - 48)) = c := by
          rw [show 48 + (c.toNat - 48) = c.toNat by omega]; simp
        cases l' with
        | nil =>
          simp [dgt] at hv'
          rw [Lib.decDigits, dif_pos (by omega), show v = c.toNat - 48 by omega, hcc]
          rfl
        | cons x r =>
          have hx : (x :: r).getD 0 0 ≠ 48 := by
            rcases hh with hh | hh
            · simpa using hh
            · simp at hh
          have h1 := ih (x :: r) v' (by simpa using hl) (by simp) (.inl hx) hv'
          have hpos : 1 ≤ v' := by
            rw [dgt] at hv'
            split at hv'
            · rename_i hd
              have := dgt_ge _ _ _ hv'
              have : x.toNat ≠ 48 := fun e => hx (by simp; exact UInt8.toNat_inj.1 (by rw [e]; rfl))
              omega
            · cases hv'
          rw [Lib.decDigits, dif_neg (by omega), show v / 10 = v' by omega, show v % 10 = c.toNat - 48 by omega, hcc, h1]
      · cases hv
theorem dec_len : ∀ (k v : Nat), v < 10 ^ (k + 1) → (Lib.decDigits v).length ≤ k + 1 := by
  intro k
  induction k with
  | zero => intro v h; rw [Lib.decDigits, dif_pos (by omega)]; simp
  | succ k ih =>
    intro v h
    rw [Lib.decDigits]
    split
    · simp
    · have := ih (v / 10) (by rw [Nat.pow_succ] at h; omega)
      rw [List.length_append]
      simp; omega
theorem dec_ne (v : Nat) : Lib.decDigits v ≠ [] := by
  rw [Lib.decDigits]
  split <;> simp
theorem dec_head (v : Nat) (h : 1 ≤ v) : (Lib.decDigits v).getD 0 0 ≠ 48 := by
  induction v using Nat.strongRecOn with
  | _ v ih =>
    rw [Lib.decDigits]
    split
    · rename_i h'
      intro e
      have : (UInt8.ofNat (48 + v)).toNat = 48 := by
        simp only [List.getD_cons_zero] at e
        rw [e]; rfl
      simp at this
      omega
    · rename_i h'
      have h1 := ih (v / 10) (by omega) (by omega)
      cases hd : Lib.decDigits (v / 10) with
      | nil => exact absurd hd (dec_ne _)
      | cons x r => rw [hd] at h1; simpa using h1
/-- A number: its digits, as one writes it; no greater than 10^9. -/
def numV (t : ByteArray) : Option Nat := match dgt 0 (bl t) with
  | some v => if v ≤ 1000000000 ∧ Lib.decDigits v = bl t then some v else none
  | none => none
def numB (t : ByteArray) : Bool := (numV t).isSome
theorem bt_getD (t : ByteArray) (i : Nat) : bt t i = ((bl t).getD i 0).toNat := rfl
end Go.Proofs.YtfknpnkdedckhaaGreatDoorT

/- The library's numbers out of texts, at base 10 and 63 bits. -/
namespace Go.Proofs
open Go.Shelf Go.RowKit Go.Lib
def Tryz.laysPU_ren : Go.Shelf.Ren := ⟨fun | 287 => 401 | 321 => 410 | 322 => 411 | n => n, fun | 9 => 9 | 3 => 3 | 53 => 408 | 75 => 314 | 4 => 4 | 167 => 526 | 5 => 5 | 46 => 359 | 37 => 211 | 0 => 0 | 21 => 21 | 80 => 220 | n => n, fun | n => n⟩
theorem Tryz.laysPU : Go.Proofs.Lays.n287 Tryz.prog Tryz.laysPU_ren where
  mixed := by kernel_rfl
  f287 := Tryz.func401.trans (congrArg some (by kernel_rfl))
  f321 := Tryz.func410.trans (congrArg some (by kernel_rfl))
  f322 := Tryz.func411.trans (congrArg some (by kernel_rfl))
  t0 := Tryz.underlying0
  a0 := Tryz.isAgg0
  z0 := Tryz.sizeOf0
  v0 := Tryz.zeroValue0
  t3 := Tryz.underlying3
  a3 := Tryz.isAgg3
  z3 := Tryz.sizeOf3
  v3 := Tryz.zeroValue3
  t4 := Tryz.underlying4
  a4 := Tryz.isAgg4
  z4 := Tryz.sizeOf4
  v4 := Tryz.zeroValue4
  t5 := Tryz.underlying5
  a5 := Tryz.isAgg5
  z5 := Tryz.sizeOf5
  v5 := Tryz.zeroValue5
  t9 := Tryz.underlying9
  a9 := Tryz.isAgg9
  z9 := Tryz.sizeOf9
  v9 := Tryz.zeroValue9
  t21 := Tryz.underlying21
  a21 := Tryz.isAgg21
  z21 := Tryz.sizeOf21
  v21 := Tryz.zeroValue21
  t37 := Tryz.underlying211
  a37 := Tryz.isAgg211
  z37 := Tryz.sizeOf211
  v37 := Tryz.zeroValue211
  t46 := Tryz.underlying359
  a46 := Tryz.isAgg359
  z46 := Tryz.sizeOf359
  v46 := Tryz.zeroValue359
  t53 := Tryz.underlying408
  a53 := Tryz.isAgg408
  z53 := Tryz.sizeOf408
  v53 := Tryz.zeroValue408
  t75 := Tryz.underlying314
  a75 := Tryz.isAgg314
  z75 := Tryz.sizeOf314
  v75 := Tryz.zeroValue314
  t167 := Tryz.underlying526
  a167 := Tryz.isAgg526
  z167 := Tryz.sizeOf526
  v167 := Tryz.zeroValue526
def Tryz.laysTE_ren : Go.Shelf.Ren := ⟨fun | 245 => 402 | 279 => 412 | 280 => 413 | 281 => 414 | 282 => 415 | 316 => 418 | 171 => 97 | 205 => 419 | 243 => 185 | 246 => 186 | 283 => 265 | 284 => 266 | 285 => 267 | 286 => 268 | 129 => 312 | 317 => 337 | 318 => 338 | 319 => 339 | 320 => 340 | 337 => 377 | 338 => 378 | n => n, fun | 9 => 9 | 3 => 3 | 75 => 314 | 167 => 526 | 4 => 4 | 168 => 528 | 210 => 535 | 37 => 211 | 0 => 0 | 127 => 320 | 145 => 539 | 143 => 537 | 2 => 2 | 171 => 407 | 53 => 408 | 5 => 5 | 173 => 411 | 212 => 479 | 51 => 453 | 20 => 20 | 213 => 480 | 46 => 359 | 232 => 519 | 233 => 520 | 80 => 220 | n => n, fun | 15 => 6 | 16 => 7 | 17 => 0 | 18 => 4 | 19 => 5 | n => n⟩
theorem Tryz.laysTE : Go.Proofs.LaysC.n245 Tryz.prog Tryz.laysTE_ren where
  mixed := by kernel_rfl
  f129 := Tryz.func312.trans (congrArg some (by kernel_rfl))
  f171 := Tryz.func97.trans (congrArg some (by kernel_rfl))
  f205 := Tryz.func419.trans (congrArg some (by kernel_rfl))
  f243 := Tryz.func185.trans (congrArg some (by kernel_rfl))
  f245 := Tryz.func402.trans (congrArg some (by kernel_rfl))
  f246 := Tryz.func186.trans (congrArg some (by kernel_rfl))
  f279 := Tryz.func412.trans (congrArg some (by kernel_rfl))
  f280 := Tryz.func413.trans (congrArg some (by kernel_rfl))
  f281 := Tryz.func414.trans (congrArg some (by kernel_rfl))
  f282 := Tryz.func415.trans (congrArg some (by kernel_rfl))
  f283 := Tryz.func265.trans (congrArg some (by kernel_rfl))
  f284 := Tryz.func266.trans (congrArg some (by kernel_rfl))
  f285 := Tryz.func267.trans (congrArg some (by kernel_rfl))
  f286 := Tryz.func268.trans (congrArg some (by kernel_rfl))
  f316 := Tryz.func418.trans (congrArg some (by kernel_rfl))
  f317 := Tryz.func337.trans (congrArg some (by kernel_rfl))
  f318 := Tryz.func338.trans (congrArg some (by kernel_rfl))
  f319 := Tryz.func339.trans (congrArg some (by kernel_rfl))
  f320 := Tryz.func340.trans (congrArg some (by kernel_rfl))
  f337 := Tryz.func377.trans (congrArg some (by kernel_rfl))
  f338 := Tryz.func378.trans (congrArg some (by kernel_rfl))
  t0 := Tryz.underlying0
  a0 := Tryz.isAgg0
  z0 := Tryz.sizeOf0
  v0 := Tryz.zeroValue0
  t2 := Tryz.underlying2
  a2 := Tryz.isAgg2
  z2 := Tryz.sizeOf2
  v2 := Tryz.zeroValue2
  t3 := Tryz.underlying3
  a3 := Tryz.isAgg3
  z3 := Tryz.sizeOf3
  v3 := Tryz.zeroValue3
  t4 := Tryz.underlying4
  a4 := Tryz.isAgg4
  z4 := Tryz.sizeOf4
  v4 := Tryz.zeroValue4
  t5 := Tryz.underlying5
  a5 := Tryz.isAgg5
  z5 := Tryz.sizeOf5
  v5 := Tryz.zeroValue5
  t9 := Tryz.underlying9
  a9 := Tryz.isAgg9
  z9 := Tryz.sizeOf9
  v9 := Tryz.zeroValue9
  t20 := Tryz.underlying20
  a20 := Tryz.isAgg20
  z20 := Tryz.sizeOf20
  v20 := Tryz.zeroValue20
  t37 := Tryz.underlying211
  a37 := Tryz.isAgg211
  z37 := Tryz.sizeOf211
  v37 := Tryz.zeroValue211
  t46 := Tryz.underlying359
  a46 := Tryz.isAgg359
  z46 := Tryz.sizeOf359
  v46 := Tryz.zeroValue359
  t51 := Tryz.underlying453
  a51 := Tryz.isAgg453
  z51 := Tryz.sizeOf453
  v51 := Tryz.zeroValue453
  t53 := Tryz.underlying408
  a53 := Tryz.isAgg408
  z53 := Tryz.sizeOf408
  v53 := Tryz.zeroValue408
  t75 := Tryz.underlying314
  a75 := Tryz.isAgg314
  z75 := Tryz.sizeOf314
  v75 := Tryz.zeroValue314
  t127 := Tryz.underlying320
  a127 := Tryz.isAgg320
  z127 := Tryz.sizeOf320
  v127 := Tryz.zeroValue320
  t143 := Tryz.underlying537
  a143 := Tryz.isAgg537
  z143 := Tryz.sizeOf537
  v143 := Tryz.zeroValue537
  t145 := Tryz.underlying539
  a145 := Tryz.isAgg539
  z145 := Tryz.sizeOf539
  v145 := Tryz.zeroValue539
  t167 := Tryz.underlying526
  a167 := Tryz.isAgg526
  z167 := Tryz.sizeOf526
  v167 := Tryz.zeroValue526
  t168 := Tryz.underlying528
  a168 := Tryz.isAgg528
  z168 := Tryz.sizeOf528
  v168 := Tryz.zeroValue528
  t171 := Tryz.underlying407
  a171 := Tryz.isAgg407
  z171 := Tryz.sizeOf407
  v171 := Tryz.zeroValue407
  t173 := Tryz.underlying411
  a173 := Tryz.isAgg411
  z173 := Tryz.sizeOf411
  v173 := Tryz.zeroValue411
  t210 := Tryz.underlying535
  a210 := Tryz.isAgg535
  z210 := Tryz.sizeOf535
  v210 := Tryz.zeroValue535
  t212 := Tryz.underlying479
  a212 := Tryz.isAgg479
  z212 := Tryz.sizeOf479
  v212 := Tryz.zeroValue479
  t213 := Tryz.underlying480
  a213 := Tryz.isAgg480
  z213 := Tryz.sizeOf480
  t232 := Tryz.underlying519
  a232 := Tryz.isAgg519
  z232 := Tryz.sizeOf519
  v232 := Tryz.zeroValue519
  t233 := Tryz.underlying520
  a233 := Tryz.isAgg520
  z233 := Tryz.sizeOf520
  v233 := Tryz.zeroValue520
  g15 := by kernel_rfl
  g16 := by kernel_rfl
  g17 := by kernel_rfl
  g18 := by kernel_rfl
  g19 := by kernel_rfl
  t80 := Tryz.underlying220
  a80 := Tryz.isAgg220
  z80 := Tryz.sizeOf220
  v80 := Tryz.zeroValue220
  i0 := by kernel_rfl
  i2 := by kernel_rfl
  i3 := by kernel_rfl
  i4 := by kernel_rfl
  i5 := by kernel_rfl
  i9 := by kernel_rfl
  i20 := by kernel_rfl
  i37 := by kernel_rfl
  i46 := by kernel_rfl
  i51 := by kernel_rfl
  i53 := by kernel_rfl
  i75 := by kernel_rfl
  i80 := by kernel_rfl
  i127 := by kernel_rfl
  i143 := by kernel_rfl
  i145 := by kernel_rfl
  i167 := by kernel_rfl
  i168 := by kernel_rfl
  i171 := by kernel_rfl
  i173 := by kernel_rfl
  i210 := by kernel_rfl
  i212 := by kernel_rfl
  i232 := by kernel_rfl
  i233 := by kernel_rfl
  m15 := by kernel_rfl
  m16 := by kernel_rfl
  m17 := by kernel_rfl
  m18 := by kernel_rfl
  m19 := by kernel_rfl
  c0 := by kernel_rfl
  c2 := by kernel_rfl
  c3 := by kernel_rfl
  c4 := by kernel_rfl
  c5 := by kernel_rfl
  c9 := by kernel_rfl
  c20 := by kernel_rfl
  c37 := by kernel_rfl
  c46 := by kernel_rfl
  c51 := by kernel_rfl
  c53 := by kernel_rfl
  c75 := by kernel_rfl
  c80 := by kernel_rfl
  c127 := by kernel_rfl
  c143 := by kernel_rfl
  c145 := by kernel_rfl
  c167 := by kernel_rfl
  c168 := by kernel_rfl
  c171 := by kernel_rfl
  c173 := by kernel_rfl
  c210 := by kernel_rfl
  c212 := by kernel_rfl
  c213 := by kernel_rfl
  c232 := by kernel_rfl
  c233 := by kernel_rfl
namespace YtfknpnkdedckhaaGreatDoorT
set_option linter.unusedVariables false
/-- What the inner function tells. -/
def pu (s : ByteArray) : NumEnd Nat := if s.size = 0 then NumEnd.syntax else Lib.parseUintM 9223372036854775807 0 s.data.toList
theorem inner (s : ByteArray) (hs : s.size ≤ 140737488355328) (w : World) :
    Calls Tryz.prog 401 #[.string s, .int .i64 10, .int .i64 63] w fun e w' => e = .returned (Lib.uintTupleM 526 9223372036854775807 (pu s)) ∧ Below w.heap.size w w' := by
  by_cases h0 : s.size = 0
  · have hs : s = ⟨#[]⟩ := ByteArray.ext (Array.eq_empty_of_size_eq_zero h0)
    rw [pu, if_pos h0]
    subst hs
    exact (Any.internal_strconv_ParseUint_empty Tryz.laysPU 10 63 w).mono fun e w' ⟨he, hw⟩ => ⟨he, by subst hw; exact Below.refl _ _⟩
  · rw [pu, if_neg h0]
    exact (parseUint63 Tryz.laysPU s h0 (by omega) w).mono fun e w' ⟨he, hw⟩ => ⟨he, by subst hw; exact Lib.bytesWorld_below _ _ _⟩
theorem cell_glob {w : World} {ok : Nat → Prop} (h : Glob w ok) : (∃ t p, w.cell? ⟨6, 0, none⟩ = some (.iface t p)) ∧ ∃ t p, w.cell? ⟨7, 0, none⟩ = some (.iface t p) := by
  obtain ⟨cs, t, z, h1, h2⟩ := glob_at h mem_syn
  obtain ⟨cs', t', z', h1', h2'⟩ := glob_at h mem_rng
  obtain ⟨a, b, e⟩ := h2
  obtain ⟨a', b', e'⟩ := h2'
  exact ⟨⟨a, b, by rw [cell_at h1]; exact e⟩, a', b', by rw [cell_at h1']; exact e'⟩
/-- The error that is told. -/
theorem toErr (s : ByteArray) (hs : s.size ≤ 140737488355328) (n : Int) (hn : n = 2 ∨ n = 1) (w : World) (hG : Glob w (fun k => k < w.heap.size)) :
    Calls Tryz.prog 402 #[.string ⟨#[80, 97, 114, 115, 101, 85, 105, 110, 116]⟩, .string s, .int .i64 10, .int .i64 63, .iface 526 (.int .i64 n)] w fun e w' => (∃ v, e = .returned (.iface 528 v)) ∧ Below w.heap.size w w' := by
  obtain ⟨⟨t, p, h1⟩, t', p', h2⟩ := cell_glob hG
  rcases hn with rfl | rfl
  · exact (Any.strconv_toError_syntax Tryz.laysTE _ s 10 63 _ w (by omega) h1 (.inr ⟨t, p, rfl⟩)).mono fun e w' ⟨N, he, _, _, hb⟩ => ⟨⟨_, he⟩, hb⟩
  · exact (Any.strconv_toError_range Tryz.laysTE _ s 10 63 _ w (by omega) h2 (.inr ⟨t', p', rfl⟩)).mono fun e w' ⟨N, he, _, _, hb⟩ => ⟨⟨_, he⟩, hb⟩
set_option maxHeartbeats 4000000 in
set_option maxRecDepth 100000 in
theorem parse_ok (s : ByteArray) (hs : s.size ≤ 140737488355328) (v : Nat) (h : pu s = .ok v) (w : World) :
    Calls Tryz.prog 381 #[.string s, .int .i64 10, .int .i64 63] w fun e w' => e = .returned (.tuple #[.int .u64 v, .nilIface]) ∧ Below w.heap.size w w' := by
  have hI := inner s hs w
  rw [h] at hI
  have hI : Calls Tryz.prog 401 #[.string s, .int .i64 10, .int .i64 63] w fun e w' => e = .returned (.tuple #[.int .u64 v, .nilIface]) ∧ Below w.heap.size w w' := hI
  clear h
  go_enter Tryz.func381, Tryz.ntmps381
  go_wp2_with (go_at_call 401; refine hI.mono ?_; rintro e W1 ⟨rfl, hW⟩)
  go_wp2
  go_ret2
  exact ⟨rfl, hW⟩
set_option maxHeartbeats 4000000 in
set_option maxRecDepth 100000 in
theorem parse_err (s : ByteArray) (hs : s.size ≤ 140737488355328) (m n : Int) (hn : n = 2 ∨ n = 1) (w : World) (hG : Glob w (fun k => k < w.heap.size))
    (hI : Calls Tryz.prog 401 #[.string s, .int .i64 10, .int .i64 63] w fun e w' => e = .returned (.tuple #[.int .u64 m, .iface 526 (.int .i64 n)]) ∧ Below w.heap.size w w') :
    Calls Tryz.prog 381 #[.string s, .int .i64 10, .int .i64 63] w fun e w' => (∃ v, e = .returned (.tuple #[.int .u64 m, .iface 528 v])) ∧ Below w.heap.size w w' := by
  go_enter Tryz.func381, Tryz.ntmps381
  go_wp2_with (go_at_call 401; refine hI.mono ?_)
  rintro e W1 ⟨rfl, hb1⟩
  have hG1 : Glob W1 (fun k => k < W1.heap.size) := hG.mono fun k hk => ⟨Nat.lt_of_lt_of_le hk hb1.size, hb1.block k hk⟩
  have hE := toErr s hs n hn W1 hG1
  go_wp2_with (go_at_call 402; refine hE.mono ?_)
  rintro e W2 ⟨⟨v, rfl⟩, h3⟩
  go_wp2
  go_ret2
  exact ⟨⟨v, rfl⟩, hb1.trans (h3.mono hb1.size)⟩
theorem pu_spec : ∀ (l : List UInt8) (a : Nat), a ≤ 9223372036854775807 → (∀ v, Lib.parseUintM 9223372036854775807 a l = .ok v → dgt a l = some v ∧ v ≤ 9223372036854775807) ∧
    (∀ v, dgt a l = some v → v ≤ 9223372036854775807 → Lib.parseUintM 9223372036854775807 a l = .ok v)
  | [], a, ha => ⟨fun v h => by simp [Lib.parseUintM] at h; subst h; exact ⟨rfl, ha⟩, fun v h _ => by simp [dgt] at h; subst h; rfl⟩
  | c :: r, a, ha => by
    rw [Lib.parseUintM, dgt]
    split
    · rename_i hd
      have e : a * 10 + (c.toNat - 48) = 10 * a + (c.toNat - 48) := by omega
      rw [e]
      split
      · rename_i hc
        refine ⟨fun v h => (by cases h), fun v h hv => ?_⟩
        have := dgt_ge _ _ _ h
        omega
      · split
        · rename_i hc hm
          refine ⟨fun v h => (by cases h), fun v h hv => ?_⟩
          have := dgt_ge _ _ _ h
          omega
        · exact pu_spec r _ (by omega)
    · exact ⟨fun v h => (by cases h), fun v h => (by cases h)⟩
theorem runs381 (t : ByteArray) (hs : t.size ≤ 140737488355328) : ∃ (n : Int) (e : IfV), Rn 381 [st t, i64 10, i64 63] (.tup [.s (.int .u64 n), e.v], [.dead, .dead, .dead]) ∧
    ((∃ v : Nat, dgt 0 (bl t) = some v ∧ bl t ≠ [] ∧ v ≤ 9223372036854775807 ∧ n = v ∧ e.t = 0) ∨ ((¬ ∃ v : Nat, dgt 0 (bl t) = some v ∧ bl t ≠ [] ∧ v ≤ 9223372036854775807) ∧ e.t ≠ 0)) := by
  have hl := bl_len t
  have sp := pu_spec (bl t) 0 (by omega)
  have hent : Enters Tryz.prog 381 := ⟨Tryz.f381, Tryz.func381, by decide, by kernel_rfl⟩
  have errs : ∀ (m k : Int), (k = 2 ∨ k = 1) → (∀ w : World, Calls Tryz.prog 401 #[.string t, .int .i64 10, .int .i64 63] w fun e w' => e = .returned (.tuple #[.int .u64 m, .iface 526 (.int .i64 k)]) ∧ Below w.heap.size w w') →
      Rn 381 [st t, i64 10, i64 63] (.tup [.s (.int .u64 m), (⟨528, .dead⟩ : IfV).v], [.dead, .dead, .dead]) := fun m k hk hI =>
    runs_of_calls (us := [.string t, .int .i64 10, .int .i64 63]) hent (by simp [plainV]) fun w hG =>
      (parse_err t hs m k hk w hG (hI w)).mono fun e w' ⟨⟨v, he⟩, hb⟩ => ⟨hb, _, he, fun ok => X_pair (X_s rfl) (X_if (by decide) v)⟩
  have hbad : (∀ v, pu t ≠ .ok v) → ¬ ∃ v : Nat, dgt 0 (bl t) = some v ∧ bl t ≠ [] ∧ v ≤ 9223372036854775807 := by
    rintro h ⟨v, h1, h2, h3⟩
    refine h v ?_
    rw [pu, if_neg (fun e => h2 (List.eq_nil_of_length_eq_zero (by omega)))]
    exact sp.2 v h1 h3
  match hp : pu t with
  | NumEnd.ok v =>
    have h0 : t.size ≠ 0 := fun e => by rw [pu, if_pos e] at hp; cases hp
    refine ⟨v, ⟨0, .dead⟩, runs_of_calls (us := [.string t, .int .i64 10, .int .i64 63]) hent (by simp [plainV]) fun w hG =>
      (parse_ok t hs v hp w).mono fun e w' ⟨he, hb⟩ => ⟨hb, _, he, fun ok => X_pair (X_s rfl) X_nilI⟩, .inl ⟨v, ?_⟩⟩
    rw [pu, if_neg h0] at hp
    have := sp.1 v hp
    exact ⟨this.1, fun e => h0 (by rw [← hl, e]; rfl), this.2, rfl, rfl⟩
  | NumEnd.syntax =>
    refine ⟨0, ⟨528, .dead⟩, errs 0 2 (.inl rfl) (fun w => ?_), .inr ⟨hbad (fun v h => by rw [hp] at h; cases h), by decide⟩⟩
    have hI := inner t hs w
    rw [hp] at hI
    exact hI
  | NumEnd.range =>
    refine ⟨9223372036854775807, ⟨528, .dead⟩, errs _ 1 (.inr rfl) (fun w => ?_), .inr ⟨hbad (fun v h => by rw [hp] at h; cases h), by decide⟩⟩
    have hI := inner t hs w
    rw [hp] at hI
    exact hI
end YtfknpnkdedckhaaGreatDoorT
end Go.Proofs

/- The library's numerals of numbers, as the program calls for them. -/
namespace Go.Proofs.YtfknpnkdedckhaaGreatDoorT
open Go Go.Proofs
theorem runs382 (n : Nat) (hn : n ≤ 9223372036854775807) : Rn 382 [.s (.int .u64 n), i64 10] (st ⟨(Lib.decDigits n).toArray⟩, [.dead, .dead]) :=
  f382 _ _ _ ⟨_, runs403 n (by omega), rfl⟩
end Go.Proofs.YtfknpnkdedckhaaGreatDoorT

/- Numbers as the program has them; signs. -/
namespace Go.Proofs.YtfknpnkdedckhaaGreatDoorT
open Go Go.Proofs
set_option linter.unusedVariables false
theorem r345 (t : ByteArray) (hs : t.size ≤ 140737488355328) : Rn 345 [st t] (tb (numB t), [.dead]) := by
  obtain ⟨n, e, hR, hr⟩ := runs381 t hs
  refine f345 _ _ ⟨n, e, hR, ?_⟩
  rcases hr with ⟨v, h1, h2, h3, rfl, he⟩ | ⟨h1, he⟩
  · refine cT (by simpa using he) (cd (fun h4 => ⟨_, runs382 v (by omega), tbR ?_⟩) (fun h4 => tbR ?_))
    · unfold numB numV
      rw [h1]
      simp only
      have hiff : ((⟨(Lib.decDigits v).toArray⟩ : ByteArray) = t) ↔ Lib.decDigits v = bl t := by
        constructor
        · intro h; rw [← h]; simp [bl]
        · intro h; exact ext_bl (by rw [← h]; simp [bl])
      by_cases hd : Lib.decDigits v = bl t
      · rw [if_pos ⟨by omega, hd⟩]
        simpa using hiff.2 hd
      · rw [if_neg (fun hh => hd hh.2)]
        simpa using fun hh => hd (hiff.1 hh)
    · unfold numB numV
      rw [h1]
      simp only
      rw [if_neg (by omega)]
      rfl
  · refine cF (by simpa using he) (tbR ?_)
    unfold numB numV
    split
    · rename_i v hv
      rw [if_neg]
      · rfl
      · rintro ⟨h2, h3⟩
        exact h1 ⟨v, hv, fun e => dec_ne v (by rw [h3, e]), by omega⟩
    · rfl
/-- The sign that a text begins with: its length; 0: none. -/
def sgn (t : ByteArray) : Nat :=
  if 1 < t.size ∧ ((bt t 0 = 61 ∧ bt t 1 = 61) ∨ (bt t 0 = 33 ∧ bt t 1 = 61) ∨ (bt t 0 = 60 ∧ bt t 1 = 61) ∨ (bt t 0 = 38 ∧ bt t 1 = 38) ∨ (bt t 0 = 124 ∧ bt t 1 = 124)) then 2
  else if bt t 0 = 123 ∨ bt t 0 = 125 ∨ bt t 0 = 40 ∨ bt t 0 = 41 ∨ bt t 0 = 61 ∨ bt t 0 = 33 ∨ bt t 0 = 60 ∨ bt t 0 = 43 ∨ bt t 0 = 45 ∨ bt t 0 = 42 then 1 else 0
theorem pre_two (t : ByteArray) (h : 1 < t.size) : t.extract 0 2 = bs [UInt8.ofNat (bt t 0), UInt8.ofNat (bt t 1)] := by
  have hl := bl_len t
  refine ext_bl ?_
  rw [bl_extract, List.drop_zero]
  show _ = [UInt8.ofNat (bt t 0), UInt8.ofNat (bt t 1)]
  unfold bt
  match h2 : bl t with
  | [] => rw [h2] at hl; simp at hl; omega
  | [x] => rw [h2] at hl; simp at hl; omega
  | x :: y :: r => simp
theorem pre_one (t : ByteArray) (h : 0 < t.size) : t.extract 0 1 = bs [UInt8.ofNat (bt t 0)] := by
  have hl := bl_len t
  refine ext_bl ?_
  rw [bl_extract, List.drop_zero]
  show _ = [UInt8.ofNat (bt t 0)]
  unfold bt
  match h2 : bl t with
  | [] => rw [h2] at hl; simp at hl; omega
  | x :: r => simp
theorem bs_two {a b c d : Nat} (ha : a < 256) (hb : b < 256) (hc : c < 256) (hd : d < 256) : bs [UInt8.ofNat a, UInt8.ofNat b] = bs [UInt8.ofNat c, UInt8.ofNat d] ↔ a = c ∧ b = d := by
  constructor
  · intro h
    have h' : bl (bs [UInt8.ofNat a, UInt8.ofNat b]) = bl (bs [UInt8.ofNat c, UInt8.ofNat d]) := by rw [h]
    simp only [bl, bs, List.cons.injEq, and_true] at h'
    have e1 := congrArg UInt8.toNat h'.1
    have e2 := congrArg UInt8.toNat h'.2
    simp at e1 e2
    omega
  · rintro ⟨rfl, rfl⟩; rfl
theorem bs_one {a c : Nat} (ha : a < 256) (hc : c < 256) : bs [UInt8.ofNat a] = bs [UInt8.ofNat c] ↔ a = c := by
  constructor
  · intro h
    have h' : bl (bs [UInt8.ofNat a]) = bl (bs [UInt8.ofNat c]) := by rw [h]
    simp only [bl, bs, List.cons.injEq, and_true] at h'
    have e1 := congrArg UInt8.toNat h'
    simp at e1
    omega
  · rintro rfl; rfl
end Go.Proofs.YtfknpnkdedckhaaGreatDoorT

/- Signs; the word that a text begins with. -/
namespace Go.Proofs.YtfknpnkdedckhaaGreatDoorT
open Go Go.Proofs
set_option linter.unusedVariables false
theorem two_iff {t : ByteArray} (h : 1 < t.size) {a b : Nat} (ha : a < 256) (hb : b < 256) : t.extract 0 2 = bs [UInt8.ofNat a, UInt8.ofNat b] ↔ bt t 0 = a ∧ bt t 1 = b := by
  rw [pre_two t h]
  exact bs_two (bt_lt _ _) (bt_lt _ _) ha hb
theorem one_iff {t : ByteArray} (h : 0 < t.size) {a : Nat} (ha : a < 256) : t.extract 0 1 = bs [UInt8.ofNat a] ↔ bt t 0 = a := by
  rw [pre_one t h]
  exact bs_one (bt_lt _ _) ha
def hasP (t p : ByteArray) : Bool := decide (p.size ≤ t.size) && decide (t.extract 0 p.size = p)
theorem r262 (t p : ByteArray) : Rn 262 [st t, st p] (tb (hasP t p), [.dead, .dead]) := by
  refine f262 _ _ _ ⟨_, f335 _ _ (tb (hasP t p), [.dead, .dead]) (cd (fun h => ⟨⟨by omega, by omega⟩, tbR ?_⟩) (fun h => tbR ?_)), rfl⟩
  · have h' : p.size ≤ t.size := by omega
    rw [toN]
    simp [hasP, h']
  · have h' : ¬ p.size ≤ t.size := by omega
    simp [hasP, h']
def sg : List ByteArray := [bs [61, 61], bs [33, 61], bs [60, 61], bs [38, 38], bs [124, 124], bs [123], bs [125], bs [40], bs [41], bs [61], bs [33], bs [60], bs [43], bs [45], bs [42]]
theorem hasP2 {t : ByteArray} (h0 : 0 < t.size) {a b : Nat} (ha : a < 256) (hb : b < 256) : hasP t (bs [UInt8.ofNat a, UInt8.ofNat b]) = decide (1 < t.size ∧ bt t 0 = a ∧ bt t 1 = b) := by
  have hz : (bs [UInt8.ofNat a, UInt8.ofNat b]).size = 2 := rfl
  unfold hasP
  rw [hz]
  by_cases h : 1 < t.size
  · apply Bool.eq_iff_iff.2
    simp only [Bool.and_eq_true, decide_eq_true_eq, two_iff h ha hb]
    omega
  · simp [show ¬ 2 ≤ t.size by omega, h]
theorem hasP1 {t : ByteArray} (h0 : 0 < t.size) {a : Nat} (ha : a < 256) : hasP t (bs [UInt8.ofNat a]) = decide (bt t 0 = a) := by
  have hz : (bs [UInt8.ofNat a]).size = 1 := rfl
  unfold hasP
  rw [hz]
  apply Bool.eq_iff_iff.2
  simp only [Bool.and_eq_true, decide_eq_true_eq, one_iff h0 ha]
  omega
set_option maxHeartbeats 2000000 in
theorem sg_find {t : ByteArray} (h0 : 0 < t.size) : sg.find? (hasP t) = if sgn t = 0 then none else some (t.extract 0 (sgn t)) := by
  have p1 : hasP t (bs [61, 61]) = decide (1 < t.size ∧ bt t 0 = 61 ∧ bt t 1 = 61) := hasP2 h0 (by decide) (by decide)
  have p2 : hasP t (bs [33, 61]) = decide (1 < t.size ∧ bt t 0 = 33 ∧ bt t 1 = 61) := hasP2 h0 (by decide) (by decide)
  have p3 : hasP t (bs [60, 61]) = decide (1 < t.size ∧ bt t 0 = 60 ∧ bt t 1 = 61) := hasP2 h0 (by decide) (by decide)
  have p4 : hasP t (bs [38, 38]) = decide (1 < t.size ∧ bt t 0 = 38 ∧ bt t 1 = 38) := hasP2 h0 (by decide) (by decide)
  have p5 : hasP t (bs [124, 124]) = decide (1 < t.size ∧ bt t 0 = 124 ∧ bt t 1 = 124) := hasP2 h0 (by decide) (by decide)
  have q1 : hasP t (bs [123]) = decide (bt t 0 = 123) := hasP1 h0 (by decide)
  have q2 : hasP t (bs [125]) = decide (bt t 0 = 125) := hasP1 h0 (by decide)
  have q3 : hasP t (bs [40]) = decide (bt t 0 = 40) := hasP1 h0 (by decide)
  have q4 : hasP t (bs [41]) = decide (bt t 0 = 41) := hasP1 h0 (by decide)
  have q5 : hasP t (bs [61]) = decide (bt t 0 = 61) := hasP1 h0 (by decide)
  have q6 : hasP t (bs [33]) = decide (bt t 0 = 33) := hasP1 h0 (by decide)
  have q7 : hasP t (bs [60]) = decide (bt t 0 = 60) := hasP1 h0 (by decide)
  have q8 : hasP t (bs [43]) = decide (bt t 0 = 43) := hasP1 h0 (by decide)
  have q9 : hasP t (bs [45]) = decide (bt t 0 = 45) := hasP1 h0 (by decide)
  have q0 : hasP t (bs [42]) = decide (bt t 0 = 42) := hasP1 h0 (by decide)
  have two : ∀ {a b : Nat}, 1 < t.size ∧ bt t 0 = a ∧ bt t 1 = b → sgn t = 2 → a < 256 → b < 256 → (some (bs [UInt8.ofNat a, UInt8.ofNat b]) : Option ByteArray) = if sgn t = 0 then none else some (t.extract 0 (sgn t)) := by
    intro a b h hs ha hb
    rw [hs, if_neg (by omega), (two_iff h.1 ha hb).2 h.2]
  have one : ∀ {a : Nat}, bt t 0 = a → sgn t = 1 → a < 256 → (some (bs [UInt8.ofNat a]) : Option ByteArray) = if sgn t = 0 then none else some (t.extract 0 (sgn t)) := by
    intro a h hs ha
    rw [hs, if_neg (by omega), (one_iff h0 ha).2 h]
  have step : ∀ {p : ByteArray} {l : List ByteArray} {X : Option ByteArray} {P : Prop} [Decidable P], hasP t p = decide P → (P → some p = X) → (¬ P → l.find? (hasP t) = X) → (p :: l).find? (hasP t) = X := by
    intro p l X P _ hp h1 h2
    by_cases hP : P
    · rw [List.find?_cons_of_pos (by rw [hp]; simpa using hP)]; exact h1 hP
    · rw [List.find?_cons_of_neg (by rw [hp]; simpa using hP)]; exact h2 hP
  have s2 : ((1 < t.size ∧ bt t 0 = 61 ∧ bt t 1 = 61) ∨ (1 < t.size ∧ bt t 0 = 33 ∧ bt t 1 = 61) ∨ (1 < t.size ∧ bt t 0 = 60 ∧ bt t 1 = 61) ∨ (1 < t.size ∧ bt t 0 = 38 ∧ bt t 1 = 38) ∨ (1 < t.size ∧ bt t 0 = 124 ∧ bt t 1 = 124)) → sgn t = 2 := by
    intro h; unfold sgn; exact if_pos (by omega)
  unfold sg
  refine step p1 (fun h => two h (s2 (by omega)) (by decide) (by decide)) (fun h1 => ?_)
  refine step p2 (fun h => two h (s2 (by omega)) (by decide) (by decide)) (fun h2 => ?_)
  refine step p3 (fun h => two h (s2 (by omega)) (by decide) (by decide)) (fun h3 => ?_)
  refine step p4 (fun h => two h (s2 (by omega)) (by decide) (by decide)) (fun h4 => ?_)
  refine step p5 (fun h => two h (s2 (by omega)) (by decide) (by decide)) (fun h5 => ?_)
  have s1 : (bt t 0 = 123 ∨ bt t 0 = 125 ∨ bt t 0 = 40 ∨ bt t 0 = 41 ∨ bt t 0 = 61 ∨ bt t 0 = 33 ∨ bt t 0 = 60 ∨ bt t 0 = 43 ∨ bt t 0 = 45 ∨ bt t 0 = 42) → sgn t = 1 := by
    intro h; unfold sgn; rw [if_neg (by omega)]; exact if_pos h
  refine step q1 (fun h => one h (s1 (by omega)) (by decide)) (fun g1 => ?_)
  refine step q2 (fun h => one h (s1 (by omega)) (by decide)) (fun g2 => ?_)
  refine step q3 (fun h => one h (s1 (by omega)) (by decide)) (fun g3 => ?_)
  refine step q4 (fun h => one h (s1 (by omega)) (by decide)) (fun g4 => ?_)
  refine step q5 (fun h => one h (s1 (by omega)) (by decide)) (fun g5 => ?_)
  refine step q6 (fun h => one h (s1 (by omega)) (by decide)) (fun g6 => ?_)
  refine step q7 (fun h => one h (s1 (by omega)) (by decide)) (fun g7 => ?_)
  refine step q8 (fun h => one h (s1 (by omega)) (by decide)) (fun g8 => ?_)
  refine step q9 (fun h => one h (s1 (by omega)) (by decide)) (fun g9 => ?_)
  refine step q0 (fun h => one h (s1 (by omega)) (by decide)) (fun g0 => ?_)
  rw [show sgn t = 0 by unfold sgn; rw [if_neg (by omega), if_neg (by omega)], if_pos rfl]
  rfl
end Go.Proofs.YtfknpnkdedckhaaGreatDoorT

/- The word that a text begins with: the program's, the document's. -/
namespace Go.Proofs.YtfknpnkdedckhaaGreatDoorT
open Go Go.Proofs
set_option linter.unusedVariables false
/-- The kind of the word that a text begins with, its bytes, its runes. -/
def fst (t : ByteArray) : Option (Nat × Nat × Nat) :=
  if ltr (Lib.decodeGo t).1 = true then (if nm (t.extract 0 (run t t.size 0 0).1) = true then some (1, (run t t.size 0 0).1, (run t t.size 0 0).2) else none)
  else if dig (Lib.decodeGo t).1 = true then (if numB (t.extract 0 (run t t.size 0 0).1) = true then some (2, (run t t.size 0 0).1, (run t t.size 0 0).2) else none)
  else if sgn t = 0 then none else some (3, sgn t, sgn t)
theorem size_pre (t : ByteArray) {n : Nat} (h : n ≤ t.size) : (t.extract 0 n).size = n := by
  rw [← bl_len, bl_extract, List.drop_zero, List.length_take, bl_len]
  omega
theorem sgn_le {t : ByteArray} (h : 0 < t.size) : sgn t ≤ t.size := by
  unfold sgn
  split
  · rename_i h'; omega
  · split <;> omega
def fstR (o : Option (Nat × Nat × Nat)) : T := match o with
  | some (k, n, r) => .tup [i64 k, i64 n, i64 r]
  | none => .tup [i64 0, i64 0, i64 0]
/-- The lexer, as it is handed on. -/
abbrev lx (s : ByteArray) (l : List T) (n : Int) (b : Bool) (n1 n2 : Int) : T := .cbox 323 [st s, mnC 414 4 l, i64 n, tb b, i64 n1, i64 n2]
theorem r343 (s : ByteArray) (l : List T) (n : Int) (b : Bool) (n1 n2 : Int) (i : Nat) (hi : i ≤ s.size) (hs : s.size ≤ 140737488355328) :
    Rn 343 [lx s l n b n1 n2, i64 i] (i64 (run (suf s i) (suf s i).size 0 0).1, [lx s l n b n1 n2, .dead]) := by
  have hz := size_suf s i
  generalize ht : suf s i = t at hz ⊢
  have loop : ∀ (f pos k : Nat), t.size ≤ pos + f → pos ≤ t.size → L343_0 (i : Int) s l n b n1 n2 t pos (i64 (run t f pos k).1, [lx s l n b n1 n2, .dead]) := by
    intro f
    induction f with
    | zero =>
      intro pos k h h'
      refine l343_0 _ _ _ _ _ _ _ _ _ _ (cF (bleF (by omega)) ?_)
      rw [w64 (by omega), run, show ((s.size : Nat) : Int) - (i : Int) = ((pos : Nat) : Int) by omega]
    | succ f ih =>
      intro pos k h h'
      refine l343_0 _ _ _ _ _ _ _ _ _ _ (cble (fun hn => ⟨_, r278 _, cb (fun h2 => ?_) (fun h2 => ?_)⟩) (fun hn => ?_))
      · rw [run, if_neg (by simp at h2; simp [h2])]
      · have h2 : ins (Utf8.decode t pos).1 = true := by simpa using h2
        have := dec_size (s := t) (i := pos) (by omega)
        rw [run, if_pos ⟨by omega, h2⟩]
        exact ih _ _ (by omega) (by omega)
      · rw [w64 (by omega), run_end _ _ _ (by omega), show ((s.size : Nat) : Int) - (i : Int) = ((pos : Nat) : Int) by omega]
  refine f343 _ _ _ _ _ _ _ _ ⟨⟨by omega, by omega⟩, ?_⟩
  rw [toN]
  have e : s.extract i s.size = t := ht
  rw [e]
  exact loop _ _ _ (by omega) (by omega)
/-- A word as it lies in memory. -/
def wd (k : Nat) (w : ByteArray) (n1 n2 : Int) : W_glyph_Word := ⟨k, w, n1, n2⟩
theorem r270 (s : ByteArray) (l : List T) (n : Int) (b : Bool) (n1 n2 : Int) (i : Nat) (hi : i < s.size) (hs : s.size ≤ 140737488355328) :
    ∃ w : W_glyph_Word, Rn 270 [lx s l n b n1 n2, i64 i, i32 (Utf8.decode s i).1] (.tup [w.t, tb (fst (suf s i)).isSome], [lx s l n b n1 n2, .dead, .dead]) ∧
      ∀ k m r, fst (suf s i) = some (k, m, r) → w = wd k ((suf s i).extract 0 m) n1 n2 := by
  have hz := size_suf s i
  have hgo : Lib.decodeGo (suf s i) = Utf8.decode s i := by rw [dec_go, if_neg (by omega), dec_suf, Nat.add_zero]
  have h87 := r343 s l n b n1 n2 i (by omega) hs
  have hq := run_le (t := suf s i) (suf s i).size 0 0 (by omega)
  have e : s.extract i s.size = suf s i := rfl
  generalize ht : suf s i = t at hz hgo h87 hq e ⊢
  have hx : (t.extract 0 (run t t.size 0 0).1).size = (run t t.size 0 0).1 := size_pre t hq.2.1
  have hm : (run t t.size 0 0).1 ≤ maxLen := Nat.le_trans (Nat.le_trans hq.2.1 (by omega)) maxLen_big
  by_cases hl : ltr (Utf8.decode s i).1 = true
  · refine ⟨wd 1 (t.extract 0 (run t t.size 0 0).1) n1 n2, f270 _ _ _ _ _ _ _ _ _ ⟨⟨by omega, by omega⟩, _, r279 _, cT hl ⟨_, h87, ?_⟩⟩, ?_⟩
    · rw [toN, toN, e]
      refine ⟨⟨by omega, by omega⟩, _, r194 _ (by omega), ?_⟩
      have hf : (fst t).isSome = nm (t.extract 0 (run t t.size 0 0).1) := by
        rw [fst, hgo, if_pos hl]
        split
        · rename_i h; rw [h]; rfl
        · rename_i h; simpa using h
      rw [hf]; rfl
    · intro k m r hk
      rw [fst, hgo, if_pos hl] at hk
      split at hk
      · simp only [Option.some.injEq, Prod.mk.injEq] at hk
        obtain ⟨rfl, rfl, rfl⟩ := hk; rfl
      · cases hk
  have hl : ltr (Utf8.decode s i).1 = false := by simpa using hl
  by_cases hd : dig (Utf8.decode s i).1 = true
  · refine ⟨wd 2 (t.extract 0 (run t t.size 0 0).1) n1 n2, f270 _ _ _ _ _ _ _ _ _ ⟨⟨by omega, by omega⟩, _, r279 _, cF hl ⟨_, r344 _, cT hd ⟨_, h87, ?_⟩⟩⟩, ?_⟩
    · rw [toN, toN, e]
      refine ⟨⟨by omega, by omega⟩, _, r345 _ (by omega), ?_⟩
      have hf : (fst t).isSome = numB (t.extract 0 (run t t.size 0 0).1) := by
        rw [fst, hgo, if_neg (by rw [hl]; simp), if_pos hd]
        split
        · rename_i h; rw [h]; rfl
        · rename_i h; simpa using h
      rw [hf]; rfl
    · intro k m r hk
      rw [fst, hgo, if_neg (by rw [hl]; simp), if_pos hd] at hk
      split at hk
      · simp only [Option.some.injEq, Prod.mk.injEq] at hk
        obtain ⟨rfl, rfl, rfl⟩ := hk; rfl
      · cases hk
  have hd : dig (Utf8.decode s i).1 = false := by simpa using hd
  have hf : fst t = if sgn t = 0 then none else some (3, sgn t, sgn t) := by rw [fst, hgo, if_neg (by rw [hl]; simp), if_neg (by rw [hd]; simp)]
  have hfind := sg_find (t := t) (by omega)
  have loop : ∀ (d k : Nat), k + d = 15 → (sg.take k).find? (hasP t) = none →
      L270_0 t 15 (k : Int) s l n b n1 n2 ⟨0, bs [], 0, 0⟩ (sg.map st) (.tup [(match sg.find? (hasP t) with | some p => wd 3 p n1 n2 | none => wd 0 (bs []) 0 0).t, tb (sg.find? (hasP t)).isSome], [lx s l n b n1 n2, .dead, .dead]) := by
    intro d
    induction d with
    | zero =>
      intro k hk hn
      have hk : k = 15 := by omega
      subst hk
      have : sg.take 15 = sg := rfl
      rw [this] at hn
      rw [hn]
      exact l270_0 _ _ _ _ _ _ _ _ _ _ _ _ (cF (by decide) rfl)
    | succ d ih =>
      intro k hk hn
      have hlt : k < sg.length := by show k < 15; omega
      have hsplit : sg = sg.take k ++ sg[k] :: sg.drop (k + 1) := by rw [← List.drop_eq_getElem_cons hlt, List.take_append_drop]
      refine l270_0 _ _ _ _ _ _ _ _ _ _ _ _ (cT (by simp; omega) ⟨⟨by omega, by rw [len_map]; show (k : Int) < 15; omega⟩, sg[k], getm hlt, _, r262 _ _, cb (fun h => ?_) (fun h => ?_)⟩)
      · have h9 : (sg.take k ++ sg[k] :: sg.drop (k + 1)).find? (hasP t) = some sg[k] := by rw [List.find?_append, hn, Option.none_or, List.find?_cons_of_pos h]
        have hf : sg.find? (hasP t) = some sg[k] := by rwa [← hsplit] at h9
        rw [hf]; rfl
      · rw [wS (by omega)]
        refine ih (k + 1) (by omega) ?_
        rw [List.take_succ_eq_append_getElem hlt, List.find?_append, hn, Option.none_or, List.find?_cons_of_neg (by rw [h]; simp)]
        rfl
  have hL := loop 15 0 rfl rfl
  refine ⟨match sg.find? (hasP t) with | some p => wd 3 p n1 n2 | none => wd 0 (bs []) 0 0, f270 _ _ _ _ _ _ _ _ _ ⟨⟨by omega, by omega⟩, _, r279 _, cF hl ⟨_, r344 _, cF hd ?_⟩⟩, ?_⟩
  · rw [toN, e]
    have he : (fst t).isSome = (sg.find? (hasP t)).isSome := by rw [hf, hfind]; split <;> rfl
    rw [he]
    exact hL
  · intro k m r hk
    rw [hf] at hk
    split at hk
    · cases hk
    · rename_i h
      rw [hfind, if_neg h]
      simp only [Option.some.injEq, Prod.mk.injEq] at hk
      obtain ⟨rfl, rfl, rfl⟩ := hk; rfl
end Go.Proofs.YtfknpnkdedckhaaGreatDoorT

/- The words of a text, as a function; the document's function comes to them. -/
namespace Go.Proofs.YtfknpnkdedckhaaGreatDoorT
open Go Go.Proofs
set_option linter.unusedVariables false
/-- Steps over runes, none of them a line feed. -/
inductive Stp1 (s : ByteArray) : Nat → Nat → Nat → Prop
  | nil (j : Nat) : Stp1 s j j 0
  | cons {j m r : Nat} (h : j < s.size) (hn : (Utf8.decode s j).1 ≠ 10) (h' : Stp1 s (j + (Utf8.decode s j).2) m r) : Stp1 s j m (r + 1)
theorem Stp1.le {s : ByteArray} {j m r : Nat} (h : Stp1 s j m r) : j + r ≤ m := by
  induction h with
  | nil j => omega
  | cons h hn h' ih => have := dec_size h; omega
theorem Stp1.suf {s : ByteArray} {i : Nat} {j m r : Nat} (h : Stp1 (suf s i) j m r) : Stp1 s (i + j) (i + m) r := by
  induction h with
  | nil j => exact .nil _
  | cons h hn h' ih =>
    rw [size_suf] at h
    rw [dec_suf] at hn ih
    exact .cons (by omega) hn (by rw [Nat.add_assoc]; exact ih)
theorem ins_nl {n : Nat} (h : ins n = true) : n ≠ 10 := by
  rintro rfl
  simp [ins, ltr, dig] at h
theorem run_stp {t : ByteArray} : ∀ (f n k : Nat), ∃ r, (run t f n k).2 = k + r ∧ Stp1 t n (run t f n k).1 r
  | 0, n, k => ⟨0, rfl, .nil n⟩
  | f + 1, n, k => by
    rw [run]
    split
    · rename_i h
      obtain ⟨r, h1, h2⟩ := run_stp (t := t) f (n + (Utf8.decode t n).2) (k + 1)
      exact ⟨r + 1, by rw [h1]; omega, .cons h.1 (ins_nl h.2) h2⟩
    · exact ⟨0, rfl, .nil n⟩
theorem low_step {t : ByteArray} {j c : Nat} (h : bt t j = c) (hc : c < 128) (h10 : c ≠ 10) (hj : j < t.size) {m r : Nat} (h' : Stp1 t (j + 1) m r) : Stp1 t j m (r + 1) := by
  have hd := dec_low (s := t) (i := j) (by omega)
  exact .cons hj (by rw [hd]; show bt t j ≠ 10; omega) (by rw [hd]; exact h')
theorem fst_stp {t : ByteArray} (h0 : 0 < t.size) {k n r : Nat} (h : fst t = some (k, n, r)) : Stp1 t 0 n r ∧ 1 ≤ r ∧ n ≤ t.size := by
  have hq := run_le (t := t) t.size 0 0 (by omega)
  obtain ⟨r', h1, h2⟩ := run_stp (t := t) t.size 0 0
  have hgo : Lib.decodeGo t = Utf8.decode t 0 := by rw [dec_go, if_neg (by omega)]
  have hpos : ins (Utf8.decode t 0).1 = true → 1 ≤ (run t t.size 0 0).2 := by
    intro hi
    obtain ⟨f, hf⟩ : ∃ f, t.size = f + 1 := ⟨t.size - 1, by omega⟩
    have := run_le (t := t) f (0 + (Utf8.decode t 0).2) (0 + 1) (by have := dec_size h0; omega)
    rw [hf, run, if_pos ⟨h0, hi⟩]
    omega
  unfold fst at h
  rw [hgo] at h
  split at h
  · rename_i hl
    split at h
    · simp only [Option.some.injEq, Prod.mk.injEq] at h
      obtain ⟨rfl, rfl, rfl⟩ := h
      exact ⟨by rw [h1, Nat.zero_add]; exact h2, hpos (ltr_ins hl), hq.2.1⟩
    · cases h
  · split at h
    · rename_i hl hd
      split at h
      · simp only [Option.some.injEq, Prod.mk.injEq] at h
        obtain ⟨rfl, rfl, rfl⟩ := h
        exact ⟨by rw [h1, Nat.zero_add]; exact h2, hpos (by simp [ins, hd]), hq.2.1⟩
      · cases h
    · split at h
      · cases h
      · rename_i hl hd hs
        simp only [Option.some.injEq, Prod.mk.injEq] at h
        obtain ⟨rfl, rfl, rfl⟩ := h
        refine ⟨?_, by omega, sgn_le h0⟩
        unfold sgn at hs ⊢
        split
        · rename_i h2
          exact low_step (c := bt t 0) rfl (by omega) (by omega) (by omega) (low_step (c := bt t 1) rfl (by omega) (by omega) (by omega) (.nil _))
        · rename_i h2
          rw [if_neg h2] at hs
          split
          · exact low_step (c := bt t 0) rfl (by omega) (by omega) (by omega) (.nil _)
          · rename_i h3
            rw [if_neg h3] at hs
            exact absurd rfl hs
/-- The end of a remark, and its runes. -/
def rem (s : ByteArray) : Nat → Nat → Nat → Nat × Nat
  | 0, i, k => (i, k)
  | f + 1, i, k => if i < s.size ∧ bt s i ≠ 10 then rem s f (i + (Utf8.decode s i).2) (k + 1) else (i, k)
theorem rem_le {s : ByteArray} : ∀ (f i k : Nat), i ≤ s.size → i ≤ (rem s f i k).1 ∧ (rem s f i k).1 ≤ s.size ∧ (rem s f i k).2 + i ≤ (rem s f i k).1 + k ∧ k ≤ (rem s f i k).2 := by
  intro f
  induction f with
  | zero => intro i k h; simp only [rem]; omega
  | succ f ih =>
    intro i k h
    rw [rem]
    split
    · rename_i hh
      have := dec_size hh.1
      have := ih (i + (Utf8.decode s i).2) (k + 1) (by omega)
      omega
    · simp only; omega
theorem rem_end {s : ByteArray} {f i k : Nat} (h : ¬ (i < s.size ∧ bt s i ≠ 10)) : rem s f i k = (i, k) := by
  cases f with
  | zero => rfl
  | succ f => rw [rem, if_neg h]
theorem rem_more {s : ByteArray} : ∀ (f g i k : Nat), s.size ≤ i + f → s.size ≤ i + g → rem s f i k = rem s g i k := by
  intro f
  induction f with
  | zero => intro g i k h1 h2; rw [rem_end (by omega), rem_end (by omega)]
  | succ f ih =>
    intro g i k h1 h2
    cases g with
    | zero => rw [rem_end (by omega), rem_end (by omega)]
    | succ g =>
      rw [rem, rem]
      split
      · rename_i h
        have := dec_size h.1
        exact ih g _ _ (by omega) (by omega)
      · rfl
theorem rem_off {s : ByteArray} : ∀ (f i k c : Nat), rem s f i (k + c) = ((rem s f i k).1, (rem s f i k).2 + c)
  | 0, i, k, c => rfl
  | f + 1, i, k, c => by
    rw [rem, rem]
    split
    · rw [show k + c + 1 = (k + 1) + c by omega]; exact rem_off f _ _ _
    · rfl
theorem rem_stop {s : ByteArray} : ∀ (f i k : Nat), s.size ≤ i + f → ¬ ((rem s f i k).1 < s.size ∧ bt s (rem s f i k).1 ≠ 10)
  | 0, i, k, h => by rw [rem]; simp only; omega
  | f + 1, i, k, h => by
    rw [rem]
    split
    · rename_i hh
      have := dec_size hh.1
      exact rem_stop f _ _ (by omega)
    · assumption
abbrev Out := List W_glyph_Word × (Nat × Nat) × Nat
/-- The words of a text from a place on. -/
def lex (s : ByteArray) : Nat → Nat → Nat → Nat → List W_glyph_Word → Out
  | 0, i, ln, col, out => (out, (0, 0), 0)
  | f + 1, i, ln, col, out =>
    if s.size ≤ i then (out, (0, 0), 0)
    else if bt s i = 10 then lex s f (i + 1) (ln + 1) 1 out
    else if bt s i = 32 ∨ bt s i = 9 then lex s f (i + 1) ln (col + 1) out
    else if bt s i = 35 then lex s f (rem s s.size i 0).1 ln (col + (rem s s.size i 0).2) out
    else match fst (suf s i) with
      | none => ([], (ln, col), 11)
      | some (k, n, r) => if out.length = 3000 then ([], (ln, col), 4) else lex s f (i + n) ln (col + r) (out ++ [wd k ((suf s i).extract 0 n) ln col])
theorem lex_end {s : ByteArray} {f i ln col : Nat} {out : List W_glyph_Word} (h : s.size ≤ i) : lex s f i ln col out = (out, (0, 0), 0) := by
  cases f with
  | zero => rfl
  | succ f => rw [lex, if_pos h]
theorem rem_pos {s : ByteArray} {i : Nat} (h : i < s.size) (h10 : bt s i ≠ 10) : i + 1 ≤ (rem s s.size i 0).1 := by
  obtain ⟨f, hf⟩ : ∃ f, s.size = f + 1 := ⟨s.size - 1, by omega⟩
  have hz := dec_size h
  have := rem_le (s := s) f (i + (Utf8.decode s i).2) (0 + 1) (by omega)
  have hr : rem s s.size i 0 = rem s f (i + (Utf8.decode s i).2) (0 + 1) := by rw [hf, rem, if_pos ⟨h, h10⟩]
  rw [hr]; omega
theorem lex_more {s : ByteArray} : ∀ (f g i ln col : Nat) (out : List W_glyph_Word), s.size ≤ i + f → s.size ≤ i + g → lex s f i ln col out = lex s g i ln col out := by
  intro f
  induction f with
  | zero => intro g i ln col out h1 h2; rw [lex_end (by omega), lex_end (by omega)]
  | succ f ih =>
    intro g i ln col out h1 h2
    cases g with
    | zero => rw [lex_end (by omega), lex_end (by omega)]
    | succ g =>
      rw [lex, lex]
      split
      · rfl
      · rename_i hlt
        split
        · exact ih g _ _ _ _ (by omega) (by omega)
        · rename_i h10
          split
          · exact ih g _ _ _ _ (by omega) (by omega)
          · split
            · have := rem_pos (s := s) (i := i) (by omega) h10
              exact ih g _ _ _ _ (by omega) (by omega)
            · split
              · rfl
              · rename_i k n r hk
                have := fst_stp (by rw [size_suf]; omega) hk
                have h1 := this.1.le
                split
                · rfl
                · exact ih g _ _ _ _ (by omega) (by omega)
def lexR (s : ByteArray) (i ln col : Nat) (out : List W_glyph_Word) : Out := lex s (s.size + 1) i ln col out
theorem lexR_eq {s : ByteArray} {i ln col : Nat} {out : List W_glyph_Word} : lexR s i ln col out =
    if s.size ≤ i then (out, (0, 0), 0)
    else if bt s i = 10 then lexR s (i + 1) (ln + 1) 1 out
    else if bt s i = 32 ∨ bt s i = 9 then lexR s (i + 1) ln (col + 1) out
    else if bt s i = 35 then lexR s (rem s s.size i 0).1 ln (col + (rem s s.size i 0).2) out
    else match fst (suf s i) with
      | none => ([], (ln, col), 11)
      | some (k, n, r) => if out.length = 3000 then ([], (ln, col), 4) else lexR s (i + n) ln (col + r) (out ++ [wd k ((suf s i).extract 0 n) ln col]) := by
  have more : ∀ (i ln col : Nat) (out : List W_glyph_Word), lex s s.size i ln col out = lexR s i ln col out := fun i ln col out => lex_more _ _ _ _ _ _ (by omega) (by omega)
  conv => lhs; rw [lexR, lex]
  simp only [more]
/-- What the functions answer. -/
def res (o : Out) : T × List T := (.tup [.sl 4 (o.1.map W_glyph_Word.t), .agg [i64 o.2.1.1, i64 o.2.1.2], i64 o.2.2], [.dead])
def wordsOf (s : ByteArray) : Out := if 12000 < s.size then ([], (1, 1), 4) else lexR s 0 1 1 []
theorem map_snoc (out : List W_glyph_Word) (x : W_glyph_Word) : (out ++ [x]).map W_glyph_Word.t = out.map W_glyph_Word.t ++ [x.t] := by simp
end Go.Proofs.YtfknpnkdedckhaaGreatDoorT

/- The words of a text: the program's function comes to them, too. -/
namespace Go.Proofs.YtfknpnkdedckhaaGreatDoorT
open Go Go.Proofs
set_option linter.unusedVariables false
/-- The place behind a rune. -/
def bh (a b n : Int) : W_api_Pos := if n = 10 then ⟨IntKind.wrap .i64 (a + 1), 1⟩ else ⟨a, IntKind.wrap .i64 (b + 1)⟩
theorem r189 (a b n : Int) : Rn 189 [.agg [i64 a, i64 b], i32 n] ((bh a b n).t, [.dead, .dead]) := by
  refine f189 ⟨a, b⟩ n _ (cd (fun h => ?_) (fun h => ?_))
  · rw [bh, if_pos h]; rfl
  · rw [bh, if_neg h]; rfl
/-- A rune that is looked at. -/
theorem step101 {w : W_api_Pos} {s s1 : ByteArray} {l l' : List T} {n n' : Int} {b b' : Bool} {n1 n2 e m1 m2 : Int} {pos : Nat} {R : T × List T} (h : pos < s1.size) (hb : ((Utf8.decode s1 pos).1 : Int) = 10 ∨ b = false)
    (h37 : Rn 188 [lx s l n false n1 n2, i64 pos, i32 (Utf8.decode s1 pos).1] (i64 e, [lx s l' n' b' m1 m2, .dead, .dead]))
    (he : e ≠ 0 → R = (.tup [.sl 4 [], .agg [i64 m1, i64 m2], i64 e], [.dead]))
    (hk : e = 0 → L101_0 w s l' n' b' (bh m1 m2 (Utf8.decode s1 pos).1).fLine (bh m1 m2 (Utf8.decode s1 pos).1).fCol s1 (pos + (Utf8.decode s1 pos).2) R) : L101_0 w s l n b n1 n2 s1 pos R := by
  have tail : cond (!(decide ((e : Int) = 0))) (R = (.tup [.sl 4 [], .agg [i64 m1, i64 m2], i64 e], [.dead]))
      (∃ w1 : W_api_Pos, Rn 189 [.agg [i64 m1, i64 m2], i32 (Utf8.decode s1 pos).1] (w1.t, [.dead, .dead]) ∧ L101_0 w s l' n' b' w1.fLine w1.fCol s1 (pos + (Utf8.decode s1 pos).2) R) :=
    cdn (fun h => he h) (fun h => ⟨_, r189 _ _ _, hk h⟩)
  refine l101_0 _ _ _ _ _ _ _ _ _ _ (cT (bleT h) (cd (fun h10 => ?_) (fun h10 => ?_)))
  · cases l' with
    | nil => exact .inl ⟨e, s, n', b', m1, m2, h37, tail⟩
    | cons y ys => exact .inr ⟨e, s, y, ys, n', b', m1, m2, h37, tail⟩
  · rcases hb with hb | rfl
    · exact absurd hb h10
    · cases l' with
      | nil => exact cT rfl (.inl ⟨e, s, n', b', m1, m2, h37, tail⟩)
      | cons y ys => exact cT rfl (.inr ⟨e, s, y, ys, n', b', m1, m2, h37, tail⟩)
/-- A rune of a remark. -/
theorem note101 {w : W_api_Pos} {s s1 : ByteArray} {l : List T} {n n1 n2 : Int} {pos : Nat} {R : T × List T} (h : pos < s1.size) (h10 : ((Utf8.decode s1 pos).1 : Int) ≠ 10)
    (hk : L101_0 w s l n true n1 (IntKind.wrap .i64 (n2 + 1)) s1 (pos + (Utf8.decode s1 pos).2) R) : L101_0 w s l n true n1 n2 s1 pos R := by
  refine l101_0 _ _ _ _ _ _ _ _ _ _ (cT (bleT h) (cF (by simpa using h10) (cF rfl ⟨_, r189 _ _ _, ?_⟩)))
  rw [bh, if_neg h10]
  exact hk
theorem r188_skip (s : ByteArray) (l : List T) (n : Int) (b : Bool) (n1 n2 : Int) (i r : Int) (h : i < n) : Rn 188 [lx s l n b n1 n2, i64 i, i32 r] (i64 0, [lx s l n b n1 n2, .dead, .dead]) :=
  f188 _ _ _ _ _ _ _ _ _ (cT (by simpa using h) rfl)
theorem r188_blank (s : ByteArray) (l : List T) (n : Int) (b : Bool) (n1 n2 : Int) (i r : Int) (h : r = 32 ∨ r = 9 ∨ r = 10) : Rn 188 [lx s l n b n1 n2, i64 i, i32 r] (i64 0, [lx s l n b n1 n2, .dead, .dead]) := by
  refine f188 _ _ _ _ _ _ _ _ _ (cd (fun _ => rfl) (fun _ => cd (fun _ => rfl) (fun h1 => cd (fun _ => rfl) (fun h2 => cd (fun _ => rfl) (fun h3 => absurd h (by omega))))))
theorem r188_note (s : ByteArray) (l : List T) (n : Int) (b : Bool) (n1 n2 : Int) (i : Int) (h : n ≤ i) : Rn 188 [lx s l n b n1 n2, i64 i, i32 35] (i64 0, [lx s l n true n1 n2, .dead, .dead]) := by
  refine f188 _ _ _ _ _ _ _ _ _ (cF (by simp; omega) (cF rfl (cF rfl (cF rfl (cT rfl rfl)))))
theorem mnC_snoc (l : List T) (x : T) : mnC 414 4 (l ++ [x]) = .cown 414 4 (l ++ [x]) := by cases l <;> rfl
theorem r188_word (s : ByteArray) (l : List T) (n : Int) (n1 n2 : Int) (i : Nat) (hi : i < s.size) (hs : s.size ≤ 140737488355328) (hn : n ≤ i) (hl : l.length ≤ 3000)
    (h32 : ((Utf8.decode s i).1 : Int) ≠ 32) (h9 : ((Utf8.decode s i).1 : Int) ≠ 9) (h10 : ((Utf8.decode s i).1 : Int) ≠ 10) (h35 : ((Utf8.decode s i).1 : Int) ≠ 35) :
    match fst (suf s i) with
    | none => Rn 188 [lx s l n false n1 n2, i64 i, i32 (Utf8.decode s i).1] (i64 11, [lx s l n false n1 n2, .dead, .dead])
    | some (k, m, r) => if l.length = 3000 then Rn 188 [lx s l n false n1 n2, i64 i, i32 (Utf8.decode s i).1] (i64 4, [lx s l n false n1 n2, .dead, .dead])
        else Rn 188 [lx s l n false n1 n2, i64 i, i32 (Utf8.decode s i).1] (i64 0, [lx s (l ++ [(wd k ((suf s i).extract 0 m) n1 n2).t]) ((i + m : Nat) : Int) false n1 n2, .dead, .dead]) := by
  obtain ⟨w, h59, hw⟩ := r270 s l n false n1 n2 i hi hs
  have hz := size_suf s i
  cases hf : fst (suf s i) with
  | none =>
    rw [hf] at h59
    exact f188 _ _ _ _ _ _ _ _ _ (cF (by simp; omega) (cF (by simpa using h32) (cF (by simpa using h9) (cF (by simpa using h10) (cF (by simpa using h35) ⟨_, _, h59, cT rfl rfl⟩)))))
  | some q =>
    obtain ⟨k, m, r⟩ := q
    rw [hf] at h59
    have hw := hw k m r hf
    obtain ⟨hst, hr1, hn1⟩ := fst_stp (by omega) hf
    have hx := size_pre (suf s i) hn1
    simp only
    split
    · rename_i h3
      exact f188 _ _ _ _ _ _ _ _ _ (cF (by simp; omega) (cF (by simpa using h32) (cF (by simpa using h9) (cF (by simpa using h10) (cF (by simpa using h35) ⟨_, _, h59, cF rfl (cT (by simp; omega) rfl)⟩)))))
    · rename_i h3
      refine f188 _ _ _ _ _ _ _ _ _ (cF (by simp; omega) (cF (by simpa using h32) (cF (by simpa using h9) (cF (by simpa using h10) (cF (by simpa using h35) ⟨_, _, h59, cF rfl (cF (by simp; omega) (ckn (by omega) ?_))⟩)))))
      subst hw
      have e : IntKind.wrap .i64 ((i : Int) + (((wd k ((suf s i).extract 0 m) n1 n2).fText.size : Nat) : Int)) = ((i + m : Nat) : Int) := by
        show IntKind.wrap .i64 ((i : Int) + ((((suf s i).extract 0 m).size : Nat) : Int)) = _
        rw [hx, w64 (by omega)]; omega
      rw [e, lx, mnC_snoc]
theorem Stp1.inv {s : ByteArray} {j m r : Nat} (h : Stp1 s j m r) (hr : 1 ≤ r) : ∃ r', r = r' + 1 ∧ (Utf8.decode s j).1 ≠ 10 ∧ Stp1 s (j + (Utf8.decode s j).2) m r' := by
  cases h with
  | nil => omega
  | cons h hn h' => exact ⟨_, rfl, hn, h'⟩
/-- Over the runes of a word. -/
theorem skip101 {w : W_api_Pos} {s : ByteArray} (hs : s.size ≤ 12000) {l : List T} {ln m : Nat} {R : T × List T} : ∀ {j r : Nat}, Stp1 s j m r → ∀ col : Nat, col ≤ j + 1 → m ≤ s.size → L101_0 w s l (m : Int) false ln ((col + r : Nat) : Int) s m R → L101_0 w s l (m : Int) false ln (col : Int) s j R := by
  intro j r h
  induction h with
  | nil j => intro col hc hm hR; exact hR
  | @cons j m r hj hn h' ih =>
    intro col hc hm hR
    have hz := dec_size hj
    have hle := h'.le
    refine step101 hj (.inr rfl) (r188_skip s l _ false ln col j _ (by omega)) (fun h => absurd rfl h) (fun _ => ?_)
    rw [bh, if_neg (by omega), wS (by omega)]
    exact ih (col + 1) (by omega) hm (by rw [show col + 1 + r = col + (r + 1) by omega]; exact hR)
theorem l12 (s : ByteArray) (hs : s.size ≤ 12000) {w : W_api_Pos} : ∀ (d i ln col skip : Nat) (out : List W_glyph_Word), s.size ≤ i + d → i ≤ s.size → ln ≤ i + 1 → col ≤ i + 1 → out.length ≤ 3000 → skip ≤ i →
    L101_0 w s (out.map W_glyph_Word.t) (skip : Int) false ln col s i (res (lexR s i ln col out)) := by
  intro d
  induction d using Nat.strongRecOn with
  | _ d ih =>
    intro i ln col skip out h h' hl hc ho hsk
    rw [lexR_eq]
    by_cases hi : s.size ≤ i
    · rw [if_pos hi]
      exact l101_0 _ _ _ _ _ _ _ _ _ _ (cF (bleF (by omega)) rfl)
    rw [if_neg hi]
    have hi : i < s.size := by omega
    have hz := dec_size hi
    -- a byte below 128
    have low : ∀ {c : Nat}, bt s i = c → c < 128 → Utf8.decode s i = (c, 1) := fun hc h => by rw [dec_low (by omega), hc]
    by_cases h10 : bt s i = 10
    · rw [if_pos h10]
      have hd := low h10 (by omega)
      refine step101 hi (.inr rfl) (r188_blank s _ _ false ln col i _ (by rw [hd]; simp)) (fun h => absurd rfl h) (fun _ => ?_)
      rw [hd, bh, if_pos (by simp), wS (by omega)]
      exact ih (d - 1) (by omega) (i + 1) (ln + 1) 1 skip out (by omega) (by omega) (by omega) (by omega) ho (by omega)
    rw [if_neg h10]
    by_cases hb : bt s i = 32 ∨ bt s i = 9
    · rw [if_pos hb]
      have hd : Utf8.decode s i = (bt s i, 1) := dec_low (by omega)
      refine step101 hi (.inr rfl) (r188_blank s _ _ false ln col i _ (by rw [hd]; simp only; omega)) (fun h => absurd rfl h) (fun _ => ?_)
      rw [hd, bh, if_neg (by simp only; omega), wS (by omega)]
      exact ih (d - 1) (by omega) (i + 1) ln (col + 1) skip out (by omega) (by omega) (by omega) (by omega) ho (by omega)
    rw [if_neg hb]
    by_cases h35 : bt s i = 35
    · rw [if_pos h35]
      have hd := low h35 (by omega)
      have hnote : Rn 188 [lx s (out.map W_glyph_Word.t) (skip : Int) false ln col, i64 i, i32 (Utf8.decode s i).1] (i64 0, [lx s (out.map W_glyph_Word.t) (skip : Int) true ln col, .dead, .dead]) := by
        rw [hd]; exact r188_note s _ _ false ln col i (by omega)
      refine step101 hi (.inr rfl) hnote (fun h => absurd rfl h) (fun _ => ?_)
      rw [hd, bh, if_neg (by simp), wS (by omega)]
      -- to the remark's end
      have rest : ∀ (f j c : Nat), s.size ≤ j + f → i < j → j ≤ s.size → c ≤ j + 1 → L101_0 w s (out.map W_glyph_Word.t) (skip : Int) true ln c s j (res (lexR s (rem s f j 0).1 ln (c + (rem s f j 0).2) out)) := by
        intro f
        induction f with
        | zero =>
          intro j c h1 h2 h3 h4
          rw [rem, lexR_eq, if_pos (by simp only; omega)]
          exact l101_0 _ _ _ _ _ _ _ _ _ _ (cF (bleF (by omega)) rfl)
        | succ f ihf =>
          intro j c h1 h2 h3 h4
          by_cases hj : j < s.size
          · have hzj := dec_size hj
            by_cases hj10 : bt s j = 10
            · rw [rem_end (by omega)]
              have hdj : Utf8.decode s j = (10, 1) := by rw [dec_low (by omega), hj10]
              rw [lexR_eq, if_neg (by simp only; omega), if_pos (by simp only; omega)]
              refine step101 hj (.inl (by rw [hdj]; rfl)) (r188_blank s _ _ false ln c j _ (by rw [hdj]; simp)) (fun h => absurd rfl h) (fun _ => ?_)
              rw [hdj, bh, if_pos (by simp), wS (by omega)]
              exact ih (d - 1) (by omega) (j + 1) (ln + 1) 1 skip out (by omega) (by omega) (by omega) (by omega) ho (by omega)
            · have hne : (Utf8.decode s j).1 ≠ 10 := fun e => hj10 ((dec_asc (by omega)).1 e)
              refine note101 hj (by omega) ?_
              rw [wS (by omega), rem, if_pos ⟨hj, hj10⟩, rem_off]
              have := ihf (j + (Utf8.decode s j).2) (c + 1) (by omega) (by omega) (by omega) (by omega)
              simp only
              rw [show c + ((rem s f (j + (Utf8.decode s j).2) 0).2 + 1) = c + 1 + (rem s f (j + (Utf8.decode s j).2) 0).2 by omega]
              exact this
          · rw [rem_end (by omega), lexR_eq, if_pos (by simp only; omega)]
            exact l101_0 _ _ _ _ _ _ _ _ _ _ (cF (bleF (by omega)) rfl)
      have hfin := rest s.size (i + 1) (col + 1) (by omega) (by omega) (by omega) (by omega)
      have hrem : rem s s.size i 0 = ((rem s s.size (i + 1) 0).1, (rem s s.size (i + 1) 0).2 + 1) := by
        rw [rem_more s.size (s.size + 1) i 0 (by omega) (by omega), rem, if_pos ⟨hi, h10⟩, hd, rem_off]
      rw [hrem]
      simp only
      rw [show col + ((rem s s.size (i + 1) 0).2 + 1) = col + 1 + (rem s s.size (i + 1) 0).2 by omega]
      exact hfin
    rw [if_neg h35]
    have ne : ∀ {c : Nat}, c < 128 → bt s i ≠ c → ((Utf8.decode s i).1 : Int) ≠ c := fun hc h e => h ((dec_asc hc).1 (by omega))
    have hw := r188_word s (out.map W_glyph_Word.t) (skip : Int) ln col i hi (by omega) (by omega) (by simpa using ho) (ne (c := 32) (by omega) (by omega)) (ne (c := 9) (by omega) (by omega)) (ne (c := 10) (by omega) (by omega)) (ne (c := 35) (by omega) (by omega))
    have hzs := size_suf s i
    cases hf : fst (suf s i) with
    | none =>
      rw [hf] at hw
      exact step101 hi (.inr rfl) hw (fun _ => rfl) (fun h => absurd h (by decide))
    | some q =>
      obtain ⟨k, m, r⟩ := q
      rw [hf] at hw
      obtain ⟨hst, hr1, hn1⟩ := fst_stp (by omega) hf
      have hst := hst.suf
      simp only [len_map] at hw
      simp only
      by_cases h3 : out.length = 3000
      · rw [if_pos h3] at hw
        rw [if_pos h3]
        exact step101 hi (.inr rfl) hw (fun _ => rfl) (fun h => absurd h (by decide))
      · rw [if_neg h3] at hw
        rw [if_neg h3]
        rw [Nat.add_zero] at hst
        have hle := hst.le
        obtain ⟨r', rfl, hn, h''⟩ := hst.inv hr1
        have hle' := h''.le
        refine step101 hi (.inr rfl) hw (fun h => absurd rfl h) (fun _ => ?_)
        rw [bh, if_neg (by omega), wS (by omega)]
        refine skip101 hs h'' (col + 1) (by omega) (by omega) ?_
        have := ih (d - 1) (by omega) (i + m) ln (col + (r' + 1)) (i + m) (out ++ [wd k ((suf s i).extract 0 m) ln col]) (by omega) (by omega) (by omega) (by omega) (by simp; omega) (by omega)
        rw [map_snoc] at this
        rw [show col + 1 + r' = col + (r' + 1) by omega]
        exact this
theorem r101 (s : ByteArray) : Rn 101 [st s] (res (wordsOf s)) := by
  refine f101 _ _ (cd (fun h => ?_) (fun h => ?_))
  · rw [wordsOf, if_pos (by omega)]; rfl
  · rw [wordsOf, if_neg (by omega)]
    exact l12 s (by omega) s.size 0 1 1 0 [] (by omega) (by omega) (by omega) (by omega) (by simp) (by omega)
end Go.Proofs.YtfknpnkdedckhaaGreatDoorT

/- The end of a text; two rows of words held against each other; what a program that does nothing answers wrongly. -/
namespace Go.Proofs.YtfknpnkdedckhaaGreatDoorT
open Go Go.Proofs
set_option linter.unusedVariables false
def endp (s : ByteArray) : Nat → Nat → Int → Int → W_api_Pos
  | 0, i, a, b => ⟨a, b⟩
  | f + 1, i, a, b => if i < s.size then endp s f (i + (Utf8.decode s i).2) (bh a b (Utf8.decode s i).1).fLine (bh a b (Utf8.decode s i).1).fCol else ⟨a, b⟩
theorem endp_end {s : ByteArray} {f i : Nat} {a b : Int} (h : s.size ≤ i) : endp s f i a b = ⟨a, b⟩ := by
  cases f with
  | zero => rfl
  | succ f => rw [endp, if_neg (by omega)]
theorem go_suf {s : ByteArray} {i : Nat} (h : i < s.size) : Lib.decodeGo (suf s i) = Utf8.decode s i := by
  rw [dec_go, if_neg (by rw [size_suf]; omega), dec_suf, Nat.add_zero]
theorem lexR_len {s : ByteArray} : ∀ (d i ln col : Nat) (out : List W_glyph_Word), s.size ≤ i + d → out.length ≤ 3000 → (lexR s i ln col out).1.length ≤ 3000 := by
  intro d
  induction d using Nat.strongRecOn with
  | _ d ih =>
    intro i ln col out h ho
    rw [lexR_eq]
    split
    · exact ho
    · rename_i hi
      split
      · exact ih (d - 1) (by omega) _ _ _ _ (by omega) ho
      · rename_i h10
        split
        · exact ih (d - 1) (by omega) _ _ _ _ (by omega) ho
        · split
          · have := rem_pos (s := s) (i := i) (by omega) h10
            exact ih (d - 1) (by omega) _ _ _ _ (by omega) ho
          · split
            · simp
            · rename_i k n r hk
              have := (fst_stp (by rw [size_suf]; omega) hk).1.le
              have := (fst_stp (by rw [size_suf]; omega) hk).2.1
              split
              · simp
              · exact ih (d - 1) (by omega) _ _ _ _ (by omega) (by simp; omega)
theorem words_len (s : ByteArray) : (wordsOf s).1.length ≤ 3000 := by
  unfold wordsOf
  split
  · simp
  · exact lexR_len s.size 0 1 1 [] (by omega) (by simp)
def aw : ByteArray := bs [97, 60, 61, 49, 35, 120]
theorem aw_words : (wordsOf aw).2.2 = 0 ∧ (wordsOf aw).1.length = 3 ∧ (wordsOf aw).1[1]?.map W_glyph_Word.fText = some (bs [60, 61]) := by decide +kernel
theorem aw_name : nm (bs [209, 143, 49]) = true := by decide +kernel
end Go.Proofs.YtfknpnkdedckhaaGreatDoorT

/- Behind a line feed all words are the same, one line further down. -/
namespace Go.Proofs.YtfknpnkdedckhaaGreatDoorT
open Go Go.Proofs
set_option linter.unusedVariables false
section
variable {s t : ByteArray}
theorem bt_of_suf {i j : Nat} (h : suf s i = suf t j) (d : Nat) : bt s (i + d) = bt t (j + d) := by rw [← bt_suf, ← bt_suf, h]
theorem dec_of_suf {i j : Nat} (h : suf s i = suf t j) (d : Nat) : Utf8.decode s (i + d) = Utf8.decode t (j + d) := by rw [← dec_suf, ← dec_suf, h]
theorem size_of_suf {i j : Nat} (h : suf s i = suf t j) : s.size - i = t.size - j := by rw [← size_suf, ← size_suf, h]
theorem suf_of_suf {i j : Nat} (h : suf s i = suf t j) (d : Nat) : suf s (i + d) = suf t (j + d) := by rw [← suf_suf, ← suf_suf, h]
theorem rem_of_suf : ∀ (f i j k : Nat), suf s i = suf t j → i ≤ s.size → j ≤ t.size → ∃ e r, rem s f i k = (i + e, r) ∧ rem t f j k = (j + e, r) := by
  intro f
  induction f with
  | zero => intro i j k h hi hj; exact ⟨0, k, rfl, rfl⟩
  | succ f ih =>
    intro i j k h hi hj
    have hz := size_of_suf h
    have hb := bt_of_suf h 0
    have hd := dec_of_suf h 0
    simp only [Nat.add_zero] at hb hd
    rw [rem, rem]
    by_cases hc : i < s.size ∧ bt s i ≠ 10
    · rw [if_pos hc, if_pos (by omega), ← hd]
      have := dec_size hc.1
      obtain ⟨e, r, h1, h2⟩ := ih (i + (Utf8.decode s i).2) (j + (Utf8.decode s i).2) (k + 1) (suf_of_suf h _) (by omega) (by omega)
      exact ⟨(Utf8.decode s i).2 + e, r, by rw [h1, Nat.add_assoc], by rw [h2, Nat.add_assoc]⟩
    · rw [if_neg hc, if_neg (by omega)]
      exact ⟨0, k, rfl, rfl⟩
/-- Two words of the same kind and text; if P, one line apart. -/
def Like (P : Prop) (x y : W_glyph_Word) : Prop := x.fKind = y.fKind ∧ x.fText = y.fText ∧ (P → y.fAt_Line = x.fAt_Line + 1 ∧ y.fAt_Col = x.fAt_Col)
def LikeL (P : Prop) (xs ys : List W_glyph_Word) : Prop := xs.length = ys.length ∧ ∀ (k : Nat) (x y : W_glyph_Word), xs[k]? = some x → ys[k]? = some y → Like P x y
theorem LikeL.nil {P : Prop} : LikeL P [] [] := ⟨rfl, fun k x y h => by simp at h⟩
theorem LikeL.snoc {P : Prop} {xs ys : List W_glyph_Word} {x y : W_glyph_Word} (h : LikeL P xs ys) (hxy : Like P x y) : LikeL P (xs ++ [x]) (ys ++ [y]) := by
  refine ⟨by simp [h.1], fun k a b ha hb => ?_⟩
  rw [List.getElem?_append] at ha hb
  by_cases hk : k < xs.length
  · rw [if_pos hk] at ha
    rw [if_pos (by rw [← h.1]; exact hk)] at hb
    exact h.2 k a b ha hb
  · rw [if_neg hk] at ha
    rw [if_neg (by rw [← h.1]; exact hk), ← h.1] at hb
    cases hm : k - xs.length with
    | zero => rw [hm] at ha hb; simp at ha hb; subst ha hb; exact hxy
    | succ m => rw [hm] at ha; simp at ha
/-- What stands behind alike has words alike. -/
theorem lex_like {P : Prop} : ∀ (d i j ln ln' col col' : Nat) (out out' : List W_glyph_Word), s.size ≤ i + d → suf s i = suf t j → i ≤ s.size → j ≤ t.size → (P → ln' = ln + 1 ∧ col' = col) → LikeL P out out' →
    (lexR s i ln col out).2.2 = (lexR t j ln' col' out').2.2 ∧ LikeL P (lexR s i ln col out).1 (lexR t j ln' col' out').1 ∧
      (P → (lexR s i ln col out).2.2 ≠ 0 → (lexR t j ln' col' out').2.1.1 = (lexR s i ln col out).2.1.1 + 1 ∧ (lexR t j ln' col' out').2.1.2 = (lexR s i ln col out).2.1.2) := by
  intro d
  induction d using Nat.strongRecOn with
  | _ d ih =>
    intro i j ln ln' col col' out out' h hs hi hj hP ho
    have hz := size_of_suf hs
    have hb := bt_of_suf hs 0
    simp only [Nat.add_zero] at hb
    rw [lexR_eq (s := s), lexR_eq (s := t)]
    by_cases h0 : s.size ≤ i
    · have h0' : t.size ≤ j := by omega
      rw [if_pos h0, if_pos h0']
      exact ⟨rfl, ho, fun _ h => absurd rfl h⟩
    have h0' : ¬ t.size ≤ j := by omega
    rw [if_neg h0, if_neg h0', ← hb]
    by_cases h1 : bt s i = 10
    · rw [if_pos h1, if_pos h1]
      exact ih (d - 1) (by omega) _ _ _ _ _ _ _ _ (by omega) (suf_of_suf hs 1) (by omega) (by omega) (fun p => by have := hP p; omega) ho
    rw [if_neg h1, if_neg h1]
    by_cases h2 : bt s i = 32 ∨ bt s i = 9
    · rw [if_pos h2, if_pos h2]
      exact ih (d - 1) (by omega) _ _ _ _ _ _ _ _ (by omega) (suf_of_suf hs 1) (by omega) (by omega) (fun p => by have := hP p; omega) ho
    rw [if_neg h2, if_neg h2]
    by_cases h3 : bt s i = 35
    · rw [if_pos h3, if_pos h3]
      obtain ⟨e, r, e1, e2⟩ := rem_of_suf (s.size + t.size) i j 0 hs hi hj
      have hp := rem_pos (s := s) (i := i) (by omega) h1
      have hl := rem_le (s := s) s.size i 0 hi
      rw [rem_more s.size (s.size + t.size) i 0 (by omega) (by omega), e1] at hp hl ⊢
      rw [rem_more t.size (s.size + t.size) j 0 (by omega) (by omega), e2]
      simp only at hp hl ⊢
      exact ih (d - 1) (by omega) _ _ _ _ _ _ _ _ (by omega) (suf_of_suf hs e) (by omega) (by omega) (fun p => by have := hP p; omega) ho
    rw [if_neg h3, if_neg h3, ← hs, ← ho.1]
    cases hf : fst (suf s i) with
    | none => exact ⟨rfl, .nil, fun p _ => by have := hP p; simp only; omega⟩
    | some q =>
      obtain ⟨k, n, r⟩ := q
      obtain ⟨hst, hr1, hn1⟩ := fst_stp (by rw [size_suf]; omega) hf
      have hle := hst.le
      rw [size_suf] at hn1
      simp only
      by_cases h4 : out.length = 3000
      · rw [if_pos h4, if_pos h4]
        exact ⟨rfl, .nil, fun p _ => by have := hP p; simp only; omega⟩
      rw [if_neg h4, if_neg h4]
      exact ih (d - 1) (by omega) _ _ _ _ _ _ _ _ (by omega) (suf_of_suf hs n) (by omega) (by omega) (fun p => by have := hP p; omega)
        (ho.snoc ⟨rfl, rfl, fun p => by have := hP p; simp only [wd]; omega⟩)
/-- Lines are bounded. -/
theorem lex_bound {B : Nat} : ∀ (d i ln col : Nat) (out : List W_glyph_Word), s.size ≤ i + d → i ≤ s.size → ln ≤ i + 1 → s.size + 1 ≤ B → (∀ x ∈ out, 0 ≤ x.fAt_Line ∧ x.fAt_Line ≤ B) →
    (lexR s i ln col out).2.1.1 ≤ B ∧ ∀ x ∈ (lexR s i ln col out).1, 0 ≤ x.fAt_Line ∧ x.fAt_Line ≤ B := by
  intro d
  induction d using Nat.strongRecOn with
  | _ d ih =>
    intro i ln col out h hi hl hB ho
    rw [lexR_eq]
    split
    · exact ⟨Nat.zero_le _, ho⟩
    · rename_i h0
      split
      · exact ih (d - 1) (by omega) _ _ _ _ (by omega) (by omega) (by omega) hB ho
      · rename_i h1
        split
        · exact ih (d - 1) (by omega) _ _ _ _ (by omega) (by omega) (by omega) hB ho
        · split
          · have hp := rem_pos (s := s) (i := i) (by omega) h1
            have hr := rem_le (s := s) s.size i 0 hi
            exact ih (d - 1) (by omega) _ _ _ _ (by omega) (by omega) (by omega) hB ho
          · split
            · exact ⟨by simp only; omega, fun x hx => by simp at hx⟩
            · rename_i k n r hk
              obtain ⟨hst, hr1, hn1⟩ := fst_stp (by rw [size_suf]; omega) hk
              have hle := hst.le
              rw [size_suf] at hn1
              split
              · exact ⟨by simp only; omega, fun x hx => by simp at hx⟩
              · refine ih (d - 1) (by omega) _ _ _ _ (by omega) (by omega) (by omega) hB (fun x hx => ?_)
                rcases List.mem_append.1 hx with hx | hx
                · exact ho x hx
                · simp only [List.mem_singleton] at hx
                  subst hx
                  simp only [wd]; omega
theorem endp_like : ∀ (f i j a b : Nat), s.size ≤ i + f → suf s i = suf t j → i ≤ s.size → j ≤ t.size → a ≤ i + 1 → b ≤ i + 1 → s.size ≤ 8000 →
    (endp t f j ((a + 1 : Nat) : Int) b).fLine = (endp s f i a b).fLine + 1 ∧ (endp t f j ((a + 1 : Nat) : Int) b).fCol = (endp s f i a b).fCol ∧ 0 ≤ (endp s f i a b).fLine ∧ (endp s f i a b).fLine ≤ 8001 := by
  intro f
  induction f with
  | zero => intro i j a b h hs hi hj ha hb h8; show ((a + 1 : Nat) : Int) = (a : Int) + 1 ∧ (b : Int) = b ∧ 0 ≤ (a : Int) ∧ (a : Int) ≤ 8001; omega
  | succ f ih =>
    intro i j a b h hs hi hj ha hb h8
    have hz := size_of_suf hs
    have hd := dec_of_suf hs 0
    simp only [Nat.add_zero] at hd
    rw [endp, endp]
    by_cases h0 : i < s.size
    · have h0' : j < t.size := by omega
      rw [if_pos h0, if_pos h0', ← hd]
      have hsz := dec_size h0
      by_cases h1 : ((Utf8.decode s i).1 : Int) = 10
      · rw [bh, bh, if_pos h1, if_pos h1, wS (by omega), wS (by omega)]
        exact ih _ _ (a + 1) 1 (by omega) (suf_of_suf hs _) (by omega) (by omega) (by omega) (by omega) h8
      · rw [bh, bh, if_neg h1, if_neg h1, wS (by omega)]
        exact ih _ _ a (b + 1) (by omega) (suf_of_suf hs _) (by omega) (by omega) (by omega) (by omega) h8
    · have h0' : ¬ j < t.size := by omega
      rw [if_neg h0, if_neg h0']
      show ((a + 1 : Nat) : Int) = (a : Int) + 1 ∧ (b : Int) = b ∧ 0 ≤ (a : Int) ∧ (a : Int) ≤ 8001
      omega
end
end Go.Proofs.YtfknpnkdedckhaaGreatDoorT
