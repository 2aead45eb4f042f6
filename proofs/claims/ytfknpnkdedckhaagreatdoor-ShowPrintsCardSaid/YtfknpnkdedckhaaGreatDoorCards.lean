/-
  DERIVED. GIVEN WITH THE SEED: THE CARDS: each row of YtfknpnkdedckhaaGreatDoorRows.lean that lists a variable, with what it lists TIED to the program's text (the seventh form; the later family's looks); each row that meets fmt, with fmt's text TOLD by the authors' own Lean function (tested against real Go, not proved from fmt's source: count such statements apart). THE CARD IS WHAT COUNTS. Prove the row's statement (the work); the ties are given (YtfknpnkdedckhaaGreatDoorTie.lean); close each card by the builder's one call (the guide's Derived/Test/ToyasCard.lean, 'card_holds'). Laid BY PROGRAM, IN A SANDBOX (cutbox-door.mjs). By AI agents, Wed Nov 11 2026. No macro, syntax, notation, axiom, sorry.
-/
import Derived.Test.YtfknpnkdedckhaaGreatDoorRows
import GoSem.ClaimSeven
namespace Go.Proofs.YtfknpnkdedckhaaGreatDoor
namespace Rows

/-- THE TIED CARD OF 'tumbrellaw11.ReactForms'. -/
def reactFormsCard : Claim7 := { stood := { row := reactFormsRow, standIns := [], harness := (true, "cf8681e3ebd6a9356f5abc332886b7654c14603ff7b109931657916136fc0184"), looks := true }, kinds := [], alts := [], laidByText := true, laidKinds := [.data, .data, .data, .data, .pinned], laidTests := true, laidLooks := .later }
def ReactFormsCardSaid : Prop := Claim7.holds Tryz.pinned (.plain (OpenSpec.ofChange reactFormsSpec)) reactFormsCard

/-- THE TIED CARD OF 'tumbrellaw12.TableRows'. -/
def tableRowsCard : Claim7 := { stood := { row := tableRowsRow, standIns := [], harness := (true, "cf8681e3ebd6a9356f5abc332886b7654c14603ff7b109931657916136fc0184"), looks := true }, kinds := [], alts := [], laidByText := true, laidKinds := [.data, .data, .data], laidTests := true, laidLooks := .later }
def TableRowsCardSaid : Prop := Claim7.holds Tryz.pinned (.plain (OpenSpec.ofChange tableRowsSpec)) tableRowsCard

/-- THE TIED CARD OF 'tumbrellaw12.TableMakes'. -/
def tableMakesCard : Claim7 := { stood := { row := tableMakesRow, standIns := [], harness := (true, "cf8681e3ebd6a9356f5abc332886b7654c14603ff7b109931657916136fc0184"), looks := true }, kinds := [], alts := [], laidByText := true, laidKinds := [.data, .data, .data, .data, .pinned], laidTests := true, laidLooks := .later }
def TableMakesCardSaid : Prop := Claim7.holds Tryz.pinned (.plain (OpenSpec.ofChange tableMakesSpec)) tableMakesCard

/-- THE TIED CARD OF 'tumbrellaw12.TableSame'. -/
def tableSameCard : Claim7 := { stood := { row := tableSameRow, standIns := [], harness := (true, "cf8681e3ebd6a9356f5abc332886b7654c14603ff7b109931657916136fc0184"), looks := true }, kinds := [], alts := [], laidByText := true, laidKinds := [.data, .data, .data, .data, .pinned], laidTests := true, laidLooks := .later }
def TableSameCardSaid : Prop := Claim7.holds Tryz.pinned (.plain (OpenSpec.ofChange tableSameSpec)) tableSameCard

/-- THE TIED CARD OF 'tumbrellaw07.ShowPrints'. -/
def showPrintsCard : Claim7 := { stood := { row := showPrintsRow, standIns := [], harness := (true, "cf8681e3ebd6a9356f5abc332886b7654c14603ff7b109931657916136fc0184"), looks := true }, kinds := [], alts := [], laidByText := true, laidKinds := [.data, .data, .data, .data, .sentinel, .sentinel, .pinned], laidTests := true, laidLooks := .later }
def ShowPrintsCardSaid : Prop := Claim7.holds Tryz.pinned (.plain (OpenSpec.ofChange showPrintsSpec)) showPrintsCard

/-- THE TIED CARD OF 'tumbrellaw11.ReactTakes'. -/
def reactTakesCard : Claim7 := { stood := { row := reactTakesRow, standIns := [], harness := (true, "cf8681e3ebd6a9356f5abc332886b7654c14603ff7b109931657916136fc0184"), looks := true }, kinds := [], alts := [], laidByText := true, laidKinds := [.data, .data, .data, .data, .pinned], laidTests := true, laidLooks := .later }
def ReactTakesCardSaid : Prop := Claim7.holds Tryz.pinned (.plain (OpenSpec.ofChange reactTakesSpec)) reactTakesCard

/-- THE TIED CARD OF 'tumbrellaw11.ReactRuns'. -/
def reactRunsCard : Claim7 := { stood := { row := reactRunsRow, standIns := [], harness := (true, "cf8681e3ebd6a9356f5abc332886b7654c14603ff7b109931657916136fc0184"), looks := true }, kinds := [], alts := [], laidByText := true, laidKinds := [.data, .data, .data, .data, .pinned], laidTests := true, laidLooks := .later }
def ReactRunsCardSaid : Prop := Claim7.holds Tryz.pinned (.plain (OpenSpec.ofChange reactRunsSpec)) reactRunsCard

/-- THE TIED CARD OF 'tumbrellaw21.MigrateTwice'. -/
def migrateTwiceCard : Claim7 := { stood := { row := migrateTwiceRow, standIns := [], harness := (true, "cf8681e3ebd6a9356f5abc332886b7654c14603ff7b109931657916136fc0184"), looks := true }, kinds := [], alts := [], laidByText := true, laidKinds := [.data, .data, .data, .data, .pinned], laidTests := true, laidLooks := .later }
def MigrateTwiceCardSaid : Prop := Claim7.holds Tryz.pinned (.plain (OpenSpec.ofChange migrateTwiceSpec)) migrateTwiceCard

/-- THE TIED CARD OF 'tumbrellaw13.InterpTakes'. -/
def interpTakesCard : Claim7 := { stood := { row := interpTakesRow, standIns := [], harness := (true, "cf8681e3ebd6a9356f5abc332886b7654c14603ff7b109931657916136fc0184"), looks := true }, kinds := [], alts := [], laidByText := true, laidKinds := [.data, .data, .data, .data, .pinned], laidTests := true, laidLooks := .later }
def InterpTakesCardSaid : Prop := Claim7.holds Tryz.pinned (.plain (OpenSpec.ofChange interpTakesSpec)) interpTakesCard

/-- THE TIED CARD OF 'tumbrellaw13.InterpFollows'. -/
def interpFollowsCard : Claim7 := { stood := { row := interpFollowsRow, standIns := [], harness := (true, "cf8681e3ebd6a9356f5abc332886b7654c14603ff7b109931657916136fc0184"), looks := true }, kinds := [], alts := [], laidByText := true, laidKinds := [.data, .data, .data], laidTests := true, laidLooks := .later }
def InterpFollowsCardSaid : Prop := Claim7.holds Tryz.pinned (.plain (OpenSpec.ofChange interpFollowsSpec)) interpFollowsCard

/-- THE SECOND FORM's CARD OF 'tumbrellaw11.ReactForms'. -/
def reactFormsUptoCard : Claim7 := { stood := { row := reactFormsUptoRow, standIns := [], harness := (true, "cf8681e3ebd6a9356f5abc332886b7654c14603ff7b109931657916136fc0184"), looks := true }, kinds := [], alts := [], laidByText := true, laidKinds := [.data, .data, .data, .data, .pinned], laidTests := true, laidLooks := .later }
def ReactFormsUptoCardSaid : Prop := Claim7.holds Tryz.pinned (.plain (OpenSpec.upto reactFormsSpec)) reactFormsUptoCard

/-- THE SECOND FORM's CARD OF 'tumbrellaw12.TableRows'. -/
def tableRowsUptoCard : Claim7 := { stood := { row := tableRowsUptoRow, standIns := [], harness := (true, "cf8681e3ebd6a9356f5abc332886b7654c14603ff7b109931657916136fc0184"), looks := true }, kinds := [], alts := [], laidByText := true, laidKinds := [.data, .data, .data], laidTests := true, laidLooks := .later }
def TableRowsUptoCardSaid : Prop := Claim7.holds Tryz.pinned (.plain (OpenSpec.upto tableRowsSpec)) tableRowsUptoCard

/-- THE SECOND FORM's CARD OF 'tumbrellaw12.TableMakes'. -/
def tableMakesUptoCard : Claim7 := { stood := { row := tableMakesUptoRow, standIns := [], harness := (true, "cf8681e3ebd6a9356f5abc332886b7654c14603ff7b109931657916136fc0184"), looks := true }, kinds := [], alts := [], laidByText := true, laidKinds := [.data, .data, .data, .data, .pinned], laidTests := true, laidLooks := .later }
def TableMakesUptoCardSaid : Prop := Claim7.holds Tryz.pinned (.plain (OpenSpec.upto tableMakesSpec)) tableMakesUptoCard

/-- THE SECOND FORM's CARD OF 'tumbrellaw12.TableSame'. -/
def tableSameUptoCard : Claim7 := { stood := { row := tableSameUptoRow, standIns := [], harness := (true, "cf8681e3ebd6a9356f5abc332886b7654c14603ff7b109931657916136fc0184"), looks := true }, kinds := [], alts := [], laidByText := true, laidKinds := [.data, .data, .data, .data, .pinned], laidTests := true, laidLooks := .later }
def TableSameUptoCardSaid : Prop := Claim7.holds Tryz.pinned (.plain (OpenSpec.upto tableSameSpec)) tableSameUptoCard

/-- THE SECOND FORM's CARD OF 'tumbrellaw07.ShowPrints'. -/
def showPrintsUptoCard : Claim7 := { stood := { row := showPrintsUptoRow, standIns := [], harness := (true, "cf8681e3ebd6a9356f5abc332886b7654c14603ff7b109931657916136fc0184"), looks := true }, kinds := [], alts := [], laidByText := true, laidKinds := [.data, .data, .data, .data, .sentinel, .sentinel, .pinned], laidTests := true, laidLooks := .later }
def ShowPrintsUptoCardSaid : Prop := Claim7.holds Tryz.pinned (.plain (OpenSpec.upto showPrintsSpec)) showPrintsUptoCard

/-- THE SECOND FORM's CARD OF 'tumbrellaw11.ReactTakes'. -/
def reactTakesUptoCard : Claim7 := { stood := { row := reactTakesUptoRow, standIns := [], harness := (true, "cf8681e3ebd6a9356f5abc332886b7654c14603ff7b109931657916136fc0184"), looks := true }, kinds := [], alts := [], laidByText := true, laidKinds := [.data, .data, .data, .data, .pinned], laidTests := true, laidLooks := .later }
def ReactTakesUptoCardSaid : Prop := Claim7.holds Tryz.pinned (.plain (OpenSpec.upto reactTakesSpec)) reactTakesUptoCard

/-- THE SECOND FORM's CARD OF 'tumbrellaw11.ReactRuns'. -/
def reactRunsUptoCard : Claim7 := { stood := { row := reactRunsUptoRow, standIns := [], harness := (true, "cf8681e3ebd6a9356f5abc332886b7654c14603ff7b109931657916136fc0184"), looks := true }, kinds := [], alts := [], laidByText := true, laidKinds := [.data, .data, .data, .data, .pinned], laidTests := true, laidLooks := .later }
def ReactRunsUptoCardSaid : Prop := Claim7.holds Tryz.pinned (.plain (OpenSpec.upto reactRunsSpec)) reactRunsUptoCard

/-- THE SECOND FORM's CARD OF 'tumbrellaw21.MigrateTwice'. -/
def migrateTwiceUptoCard : Claim7 := { stood := { row := migrateTwiceUptoRow, standIns := [], harness := (true, "cf8681e3ebd6a9356f5abc332886b7654c14603ff7b109931657916136fc0184"), looks := true }, kinds := [], alts := [], laidByText := true, laidKinds := [.data, .data, .data, .data, .pinned], laidTests := true, laidLooks := .later }
def MigrateTwiceUptoCardSaid : Prop := Claim7.holds Tryz.pinned (.plain (OpenSpec.upto migrateTwiceSpec)) migrateTwiceUptoCard

/-- THE SECOND FORM's CARD OF 'tumbrellaw13.InterpTakes'. -/
def interpTakesUptoCard : Claim7 := { stood := { row := interpTakesUptoRow, standIns := [], harness := (true, "cf8681e3ebd6a9356f5abc332886b7654c14603ff7b109931657916136fc0184"), looks := true }, kinds := [], alts := [], laidByText := true, laidKinds := [.data, .data, .data, .data, .pinned], laidTests := true, laidLooks := .later }
def InterpTakesUptoCardSaid : Prop := Claim7.holds Tryz.pinned (.plain (OpenSpec.upto interpTakesSpec)) interpTakesUptoCard

/-- THE SECOND FORM's CARD OF 'tumbrellaw13.InterpFollows'. -/
def interpFollowsUptoCard : Claim7 := { stood := { row := interpFollowsUptoRow, standIns := [], harness := (true, "cf8681e3ebd6a9356f5abc332886b7654c14603ff7b109931657916136fc0184"), looks := true }, kinds := [], alts := [], laidByText := true, laidKinds := [.data, .data, .data], laidTests := true, laidLooks := .later }
def InterpFollowsUptoCardSaid : Prop := Claim7.holds Tryz.pinned (.plain (OpenSpec.upto interpFollowsSpec)) interpFollowsUptoCard
end Rows
end Go.Proofs.YtfknpnkdedckhaaGreatDoor
