/- ShowPrints: the law. -/
import Derived.Test.YtfknpnkdedckhaaGreatDoorM3
import Derived.Test.YtfknpnkdedckhaaGreatDoorD
namespace Go.Proofs.YtfknpnkdedckhaaGreatDoorT
open Go Go.Proofs
set_option linter.unusedVariables false
/-- awake's chart. -/
def ch0 : Ch := ⟨bs [97], 1, 0, 0, [], [.mk ⟨bs [98], 0, 0, false, true, bs [], bs [], 0, 0, []⟩ []]⟩
theorem ch0_light : Light ch0 := ⟨of_decide_eq_true (by kernel_rfl), of_decide_eq_true (by kernel_rfl), of_decide_eq_true (by kernel_rfl)⟩
theorem ch0_sz : ch0.sz := by
  refine ⟨of_decide_eq_true (by kernel_rfl), by simp [ch0], fun s hs => ?_⟩
  simp only [ch0, List.mem_singleton] at hs
  subst hs
  rw [Stt.sz]
  exact ⟨⟨of_decide_eq_true (by kernel_rfl), of_decide_eq_true (by kernel_rfl), of_decide_eq_true (by kernel_rfl), by simp⟩, by rw [szl_iff]; simp⟩
theorem ch0_fm : ch0.fm = true := by kernel_rfl
theorem ch0_tx : bs ch0.tx = bs [99, 104, 97, 114, 116, 32, 97, 32, 49, 32, 123, 10, 9, 115, 116, 97, 116, 101, 32, 98, 32, 123, 10, 9, 9, 101, 110, 100, 10, 9, 125, 10, 125, 10] := by kernel_rfl
theorem ch0_words : (wordsOf (bs [99, 104, 97, 114, 116, 32, 97, 32, 49, 32, 123, 10, 9, 115, 116, 97, 116, 101, 32, 98, 32, 123, 10, 9, 9, 101, 110, 100, 10, 9, 125, 10, 125, 10])).2.2 = 0 := by kernel_rfl
theorem r34 : Rn 34 [] (tb true, []) := by
  have h := r35 ch0 ch0_sz ch0_light
  have e : prC ch0 = (bs [99, 104, 97, 114, 116, 32, 97, 32, 49, 32, 123, 10, 9, 115, 116, 97, 116, 101, 32, 98, 32, 123, 10, 9, 9, 101, 110, 100, 10, 9, 125, 10, 125, 10], 0) := by
    unfold prC; rw [if_pos ch0_fm, ch0_tx, if_pos ch0_words]
  rw [e] at h
  refine f34 _ ⟨_, _, h, ?_⟩
  exact cT rfl (by rw [decide_eq_true rfl])
theorem showPrints_row {w : W_tumbrelref06_Chart} {c : Ch} (h : RawCh w c) : Rn 7 [w.t] (tb true, [.dead]) := by
  refine f7 _ _ ⟨true, r34, cF rfl ?_⟩
  obtain ⟨b, h25, hb⟩ := r25 h
  refine ⟨b, h25, ?_⟩
  cases b with
  | false => exact cT rfl ⟨_, r34, rfl⟩
  | true =>
    have hl := hb rfl
    have hs := rawCh_sz h
    refine cF rfl ⟨c.v, r16 h hl, _, _, r35 c hs hl, c.d, r18 h hl, _, _, r36 c hs hl, ?_⟩
    refine cT (by simp) (cT (by simp) ⟨c.v, r16 h hl, _, r37 c hs hl, c.d, r18 h hl, _, r38 c hs hl, ?_⟩)
    simp
theorem showPrints_pure {n : Nat} {t : List T} (h : Ty Tryz.prog n 27 t) : Rn 7 [valT Tryz.prog 27 t] (tb true, [.dead]) := by
  obtain ⟨w, c, h1, h2⟩ := rawCh_of h
  rw [h1]
  exact showPrints_row h2
end Go.Proofs.YtfknpnkdedckhaaGreatDoorT
