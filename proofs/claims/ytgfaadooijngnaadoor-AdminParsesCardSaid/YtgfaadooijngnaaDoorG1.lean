/- Texts: bytes, first runes, what stands behind. -/
import Derived.Test.YtgfaadooijngnaaDoorT26
import Derived.Shelf.Unicode.DecodeSlow
namespace Go.Proofs.YtgfaadooijngnaaDoorT
open Go Go.Proofs
set_option linter.unusedVariables false

/-- A text's bytes. -/
def bl (s : ByteArray) : List UInt8 := s.data.toList
def bt (s : ByteArray) (i : Nat) : Nat := ((bl s).getD i 0).toNat
theorem bl_len (s : ByteArray) : (bl s).length = s.size := by simp [bl]
theorem bt_lt (s : ByteArray) (i : Nat) : bt s i < 256 := by unfold bt; exact UInt8.toNat_lt _
theorem byteAt_bt (s : ByteArray) (i : Nat) : byteAt s i = (bt s i : Int) := rfl
theorem get_bt (s : ByteArray) (i : Nat) : (s.get! i).toNat = bt s i := by
  unfold bt bl
  show (s.data.get!Internal i).toNat = _
  congr 1
  show s.data[i]! = _
  rw [Array.getElem!_eq_getD, Array.getD_eq_getD_getElem?, List.getD_eq_getElem?_getD, Array.getElem?_toList]
  rfl
theorem ext_bl {s t : ByteArray} (h : bl s = bl t) : s = t := by
  cases s; cases t
  simp only [bl] at h
  rw [Array.toList_inj.1 h]
theorem bl_extract (s : ByteArray) (a b : Nat) : bl (s.extract a b) = ((bl s).take b).drop a := by
  unfold bl
  rw [ByteArray.data_extract, Array.toList_extract, List.extract_eq_take_drop]
  rw [List.drop_take]
theorem bl_append (s t : ByteArray) : bl (s ++ t) = bl s ++ bl t := by
  unfold bl
  rw [ByteArray.data_append, Array.toList_append]
/-- What stands behind a place. -/
def suf (s : ByteArray) (i : Nat) : ByteArray := s.extract i s.size
theorem bl_suf (s : ByteArray) (i : Nat) : bl (suf s i) = (bl s).drop i := by
  rw [suf, bl_extract, List.take_of_length_le (by rw [bl_len]; omega)]
theorem size_suf (s : ByteArray) (i : Nat) : (suf s i).size = s.size - i := by rw [← bl_len, bl_suf, List.length_drop, bl_len]
theorem suf_suf (s : ByteArray) (i j : Nat) : suf (suf s i) j = suf s (i + j) := ext_bl (by rw [bl_suf, bl_suf, bl_suf, List.drop_drop])
theorem suf_zero (s : ByteArray) : suf s 0 = s := ext_bl (by rw [bl_suf, List.drop_zero])
theorem bt_suf (s : ByteArray) (i j : Nat) : bt (suf s i) j = bt s (i + j) := by
  unfold bt
  rw [bl_suf, List.getD_eq_getElem?_getD, List.getElem?_drop, List.getD_eq_getElem?_getD]
theorem dec_eq (s : ByteArray) (i : Nat) : Utf8.decode s i = Lib.decodeN (s.size - i) (bt s i) (bt s (i + 1)) (bt s (i + 2)) (bt s (i + 3)) := by
  rw [Lib.decode_at, get_bt, get_bt, get_bt, get_bt]
theorem dec_suf (s : ByteArray) (i j : Nat) : Utf8.decode (suf s i) j = Utf8.decode s (i + j) := by
  rw [dec_eq, dec_eq, size_suf, bt_suf, bt_suf, bt_suf, bt_suf, Nat.sub_sub]
  rfl
theorem dec_go (s : ByteArray) : Lib.decodeGo s = if s.size = 0 then (65533, 0) else Utf8.decode s 0 := rfl
theorem dec_low {s : ByteArray} {i : Nat} (h : bt s i < 128) : Utf8.decode s i = (bt s i, 1) := by
  rw [dec_eq, Lib.decodeN, if_pos h]
theorem decN_size (n b0 b1 b2 b3 : Nat) (h : 0 < n) : 1 ≤ (Lib.decodeN n b0 b1 b2 b3).2 ∧ (Lib.decodeN n b0 b1 b2 b3).2 ≤ n := by
  unfold Lib.decodeN
  repeat' split
  all_goals (simp only; omega)
theorem decN_high (n b0 b1 b2 b3 : Nat) (h : 128 ≤ b0) : 128 ≤ (Lib.decodeN n b0 b1 b2 b3).1 := by
  unfold Lib.decodeN
  repeat' split
  all_goals (simp only; omega)
theorem decN_max (n b0 b1 b2 b3 : Nat) (h : b0 < 256) : (Lib.decodeN n b0 b1 b2 b3).1 ≤ 1114111 := by
  unfold Lib.decodeN
  repeat' split
  all_goals (simp only; omega)
theorem dec_size {s : ByteArray} {i : Nat} (h : i < s.size) : 1 ≤ (Utf8.decode s i).2 ∧ i + (Utf8.decode s i).2 ≤ s.size := by
  rw [dec_eq]
  have := decN_size (s.size - i) (bt s i) (bt s (i + 1)) (bt s (i + 2)) (bt s (i + 3)) (by omega)
  omega
theorem dec_high {s : ByteArray} {i : Nat} (h : 128 ≤ bt s i) : 128 ≤ (Utf8.decode s i).1 := by
  rw [dec_eq]; exact decN_high _ _ _ _ _ h
theorem dec_max (s : ByteArray) (i : Nat) : (Utf8.decode s i).1 ≤ 1114111 := by
  rw [dec_eq]; exact decN_max _ _ _ _ _ (bt_lt _ _)
/-- A rune below 128 is its byte. -/
theorem dec_asc {s : ByteArray} {i c : Nat} (hc : c < 128) : (Utf8.decode s i).1 = c ↔ bt s i = c := by
  by_cases h : bt s i < 128
  · rw [dec_low h]
  · have := dec_high (s := s) (i := i) (by omega)
    omega
end Go.Proofs.YtgfaadooijngnaaDoorT
