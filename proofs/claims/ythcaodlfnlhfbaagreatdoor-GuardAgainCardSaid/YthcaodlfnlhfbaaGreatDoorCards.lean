/-
  DERIVED. GIVEN WITH THE SEED: THE CARDS: each row of YthcaodlfnlhfbaaGreatDoorRows.lean that lists a variable, with what it lists TIED to the program's text (the seventh form; the later family's looks); each row that meets fmt, with fmt's text TOLD by the authors' own Lean function (tested against real Go, not proved from fmt's source: count such statements apart). THE CARD IS WHAT COUNTS. Prove the row's statement (the work); the ties are given (YthcaodlfnlhfbaaGreatDoorTie.lean); close each card by the builder's one call (the guide's Derived/Test/ToyasCard.lean, 'card_holds'). Laid BY PROGRAM, IN A SANDBOX (cutbox-door.mjs). By AI agents, Wed Nov 11 2026. No macro, syntax, notation, axiom, sorry.
-/
import Derived.Test.YthcaodlfnlhfbaaGreatDoorRows
import GoSem.ClaimSeven
namespace Go.Proofs.YthcaodlfnlhfbaaGreatDoor
namespace Rows

/-- THE TIED CARD OF 'tumbrellaw05.GuardBack'. -/
def guardBackCard : Claim7 := { stood := { row := guardBackRow, standIns := [], harness := (true, "f578e8efe899e55096e493540b5d26e729986eb7543ea2bb69542d723e395ac3"), looks := true }, kinds := [], alts := [], laidByText := true, laidKinds := [.data, .data, .data, .sentinel, .sentinel], laidTests := true, laidLooks := .later }
def GuardBackCardSaid : Prop := Claim7.holds Tryz.pinned (.plain (OpenSpec.ofChange guardBackSpec)) guardBackCard

/-- THE TIED CARD OF 'tumbrellaw05.GuardAgain'. -/
def guardAgainCard : Claim7 := { stood := { row := guardAgainRow, standIns := [], harness := (true, "f578e8efe899e55096e493540b5d26e729986eb7543ea2bb69542d723e395ac3"), looks := true }, kinds := [], alts := [], laidByText := true, laidKinds := [.data, .data, .data, .sentinel, .sentinel], laidTests := true, laidLooks := .later }
def GuardAgainCardSaid : Prop := Claim7.holds Tryz.pinned (.plain (OpenSpec.ofChange guardAgainSpec)) guardAgainCard

/-- THE TIED CARD OF 'tumbrellaw05.GuardPrints'. -/
def guardPrintsCard : Claim7 := { stood := { row := guardPrintsRow, standIns := [], harness := (true, "f578e8efe899e55096e493540b5d26e729986eb7543ea2bb69542d723e395ac3"), looks := true }, kinds := [], alts := [], laidByText := true, laidKinds := [.data, .data, .data, .data, .sentinel, .sentinel, .pinned], laidTests := true, laidLooks := .later }
def GuardPrintsCardSaid : Prop := Claim7.holds Tryz.pinned (.plain (OpenSpec.ofChange guardPrintsSpec)) guardPrintsCard

/-- THE SECOND FORM's CARD OF 'tumbrellaw05.GuardBack'. -/
def guardBackUptoCard : Claim7 := { stood := { row := guardBackUptoRow, standIns := [], harness := (true, "f578e8efe899e55096e493540b5d26e729986eb7543ea2bb69542d723e395ac3"), looks := true }, kinds := [], alts := [], laidByText := true, laidKinds := [.data, .data, .data, .sentinel, .sentinel], laidTests := true, laidLooks := .later }
def GuardBackUptoCardSaid : Prop := Claim7.holds Tryz.pinned (.plain (OpenSpec.upto guardBackSpec)) guardBackUptoCard

/-- THE SECOND FORM's CARD OF 'tumbrellaw05.GuardAgain'. -/
def guardAgainUptoCard : Claim7 := { stood := { row := guardAgainUptoRow, standIns := [], harness := (true, "f578e8efe899e55096e493540b5d26e729986eb7543ea2bb69542d723e395ac3"), looks := true }, kinds := [], alts := [], laidByText := true, laidKinds := [.data, .data, .data, .sentinel, .sentinel], laidTests := true, laidLooks := .later }
def GuardAgainUptoCardSaid : Prop := Claim7.holds Tryz.pinned (.plain (OpenSpec.upto guardAgainSpec)) guardAgainUptoCard

/-- THE SECOND FORM's CARD OF 'tumbrellaw05.GuardPrints'. -/
def guardPrintsUptoCard : Claim7 := { stood := { row := guardPrintsUptoRow, standIns := [], harness := (true, "f578e8efe899e55096e493540b5d26e729986eb7543ea2bb69542d723e395ac3"), looks := true }, kinds := [], alts := [], laidByText := true, laidKinds := [.data, .data, .data, .data, .sentinel, .sentinel, .pinned], laidTests := true, laidLooks := .later }
def GuardPrintsUptoCardSaid : Prop := Claim7.holds Tryz.pinned (.plain (OpenSpec.upto guardPrintsSpec)) guardPrintsUptoCard
end Rows
end Go.Proofs.YthcaodlfnlhfbaaGreatDoor
