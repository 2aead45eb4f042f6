/- Closed facts of the law ShowPrints (first part). -/
import Derived.Test.YtfknpnkdedckhaaGreatDoorCards
import Derived.Test.YtfknpnkdedckhaaGreatDoorTie
import Derived.WalkKit
import Derived.ProofKit
import Derived.OpenShut
import Derived.ShutString
import Derived.ChangeOld
import Derived.Below
import Derived.SizedLaws
import Derived.Carry
import Derived.Lay
import Derived.LaidOnce
import Derived.SevenTiedAt
import Derived.KernelRfl
namespace Go.Proofs.YtfknpnkdedckhaaGreatDoor.showPrints
set_option linter.unusedVariables false
theorem j0 : (Rows.showPrintsRow.wf (OpenSpec.ofChange Rows.showPrintsSpec)) = true := by kernel_rfl
theorem j1 : (laidOutB Tryz.pinned.checked.prog) = true := by kernel_rfl
theorem j2 : (mapsRowed Tryz.pinned.checked.prog) = true := by kernel_rfl
theorem j3 : (Tryz.f7.params.all (Tryz.pinned.checked.prog.readableRec ·)) = true := by kernel_rfl
theorem j4 : (namedTie Tryz.pinned.checked.prog Rows.showPrintsRow.named Rows.showPrintsSpec.vars) = true := by kernel_rfl
theorem j5 : ((Rows.showPrintsRow.stops == [])) = true := by kernel_rfl
theorem j6 : ((Tryz.pinned.checked.prog.stops == [])) = true := by kernel_rfl
theorem j7 : ((Rows.showPrintsRow.knobs == [])) = true := by kernel_rfl
theorem j8 : ((Tryz.pinned.checked.prog.stopKnobs == [])) = true := by kernel_rfl
theorem j9 : ((Rows.showPrintsRow.inPlace == Tryz.pinned.checked.prog.inPlace 7)) = true := by kernel_rfl
theorem j10 : ((Rows.showPrintsRow.unfollowed == Tryz.pinned.checked.prog.unfollowed 7)) = true := by kernel_rfl
theorem j11 : ((Rows.showPrintsRow.recurses == Tryz.pinned.checked.prog.recurses 7)) = true := by kernel_rfl
theorem k1 : Tryz.pinned.checked.prog.funcNamed Rows.showPrintsRow.func = some 7 := by kernel_rfl
theorem k2 : Func.isInstance Tryz.pinned.checked.prog Tryz.f7 Rows.showPrintsRow.origin Rows.showPrintsRow.targs := of_decide_eq_true (by kernel_rfl)
theorem k3 : Func.isWrapper Tryz.pinned.checked.prog Tryz.f7 Rows.showPrintsRow.wrapper Rows.showPrintsRow.mainSum := by unfold Func.isWrapper; first | (rw [if_pos (by decide +kernel)]; kernel_rfl) | (rw [if_neg (by decide +kernel)]; exact ⟨rfl, rfl⟩)
end Go.Proofs.YtfknpnkdedckhaaGreatDoor.showPrints
