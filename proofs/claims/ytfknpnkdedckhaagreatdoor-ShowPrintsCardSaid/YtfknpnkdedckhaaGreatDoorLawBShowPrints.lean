/- Closed facts of the law ShowPrints (second part). -/
import Derived.Test.YtfknpnkdedckhaaGreatDoorCards
import Derived.Test.YtfknpnkdedckhaaGreatDoorTie
import Derived.WalkKit
import Derived.ProofKit
import Derived.OpenShut
import Derived.ShutString
import Derived.ChangeOld
import Derived.Below
import Derived.SizedLaws
import Derived.Carry
import Derived.Lay
import Derived.LaidOnce
import Derived.SevenTiedAt
import Derived.KernelRfl
namespace Go.Proofs.YtfknpnkdedckhaaGreatDoor.showPrints
set_option linter.unusedVariables false
theorem j12 : ((Rows.showPrintsRow.named == Tryz.pinned.checked.prog.varsNamed 7)) = true := by kernel_rfl
theorem j13 : ((Rows.showPrintsRow.maps == (Tryz.f7.params.toList ++ Rows.showPrintsSpec.plain.varTypes Tryz.pinned.checked.prog).any (Tryz.pinned.checked.prog.mapsRec ·))) = true := by kernel_rfl
theorem j14 : ((Rows.showPrintsRow.ifaces == (Tryz.f7.params.toList ++ Rows.showPrintsSpec.plain.varTypes Tryz.pinned.checked.prog).any (Tryz.pinned.checked.prog.ifacesRec ·))) = true := by kernel_rfl
theorem j15 : ((Rows.showPrintsRow.mapsOut == Tryz.pinned.checked.prog.mapsAmong Tryz.f7.resultTypes.toList)) = true := by kernel_rfl
theorem j16 : ((Rows.showPrintsRow.loops == (Tryz.f7.params.toList ++ Rows.showPrintsSpec.plain.varTypes Tryz.pinned.checked.prog).any (Tryz.pinned.checked.prog.loopsFrom ·))) = true := by kernel_rfl
theorem j17 : ((Rows.showPrintsRow.wideKeys == (Tryz.f7.params.toList ++ Rows.showPrintsSpec.plain.varTypes Tryz.pinned.checked.prog ++ Tryz.f7.resultTypes.toList).any (Tryz.pinned.checked.prog.wideKeysFrom ·))) = true := by kernel_rfl
theorem j18 : (Rows.showPrintsSpec.vars.all (Tryz.pinned.checked.prog.varReadable ·)) = true := by kernel_rfl
theorem j19 : (Tryz.f7.resultTypes.all (fun t => Tryz.pinned.checked.prog.readableRec t && decide (t < Tryz.pinned.checked.prog.types.size))) = true := by kernel_rfl
theorem j20 : ((Rows.showPrintsRow.ifacesOut == Tryz.f7.resultTypes.toList.any (Tryz.pinned.checked.prog.ifacesRec ·))) = true := by kernel_rfl
theorem j21 : ((Rows.showPrintsRow.loopsOut == Tryz.f7.resultTypes.toList.any (Tryz.pinned.checked.prog.loopsFrom ·))) = true := by kernel_rfl
theorem j22 : ((Rows.showPrintsRow.plainKeys == Tryz.pinned.checked.prog.plainKeys)) = true := by kernel_rfl
theorem j23 : (Rows.showPrintsRow.shortTexts.isNone) = true := by kernel_rfl
theorem j24 : (Tryz.pinned.checked.prog.stopsHeard) = true := by kernel_rfl
theorem j25 : (Tryz.pinned.checked.prog.mayEnter) = true := by kernel_rfl
theorem j26 : ((Rows.showPrintsRow.lifted == Tryz.pinned.checked.prog.liftsFinal)) = true := by kernel_rfl
theorem j27 : ((Tryz.pinned.checked.prog.make == some Rows.showPrintsRow.make)) = true := by kernel_rfl
theorem j28 : ((Rows.showPrintsRow.kinds == (if Rows.showPrintsRow.domain.isEmpty then [] else Tryz.f7.params.toList.map fun t => match Tryz.pinned.checked.prog.underlying t with | some (.int k) => some k | _ => none))) = true := by kernel_rfl
theorem j29 : ((Rows.showPrintsRow.pinned == Rows.showPrintsRow.pinnedBy)) = true := by kernel_rfl
theorem j30 : ((Rows.showPrintsRow.veiled == (Tryz.f7.params.toList ++ Rows.showPrintsSpec.plain.varTypes Tryz.pinned.checked.prog ++ Tryz.f7.resultTypes.toList).any (Tryz.pinned.checked.prog.veiledRec ·))) = true := by kernel_rfl
theorem j31 : (Rows.showPrintsRow.veiledFits Tryz.pinned.checked.prog Tryz.f7.params.toList (Tryz.f7.params.toList ++ Rows.showPrintsSpec.plain.varTypes Tryz.pinned.checked.prog ++ Tryz.f7.resultTypes.toList)) = true := by kernel_rfl
theorem k4 : Rows.showPrintsRow.wfByText (OpenSpec.ofChange Rows.showPrintsSpec) = true := by kernel_rfl
theorem k5 : Tryz.pinned.checked.prog.mainIs = some (true, ("cf8681e3ebd6a9356f5abc332886b7654c14603ff7b109931657916136fc0184" : String).toList) := by kernel_rfl
theorem k6 : true = Tryz.pinned.checked.prog.looks [] := by kernel_rfl
theorem k7 : false = Rows.showPrintsRow.goesBy Tryz.pinned.checked.prog := by kernel_rfl
end Go.Proofs.YtfknpnkdedckhaaGreatDoor.showPrints
