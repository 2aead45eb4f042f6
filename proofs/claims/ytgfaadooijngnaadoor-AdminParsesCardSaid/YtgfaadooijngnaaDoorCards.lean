/-
  DERIVED. GIVEN WITH THE SEED: THE CARDS: each row of YtgfaadooijngnaaDoorRows.lean that lists a variable, with what it lists TIED to the program's text (the seventh form; the later family's looks); each row that meets fmt, with fmt's text TOLD by the authors' own Lean function (tested against real Go, not proved from fmt's source: count such statements apart). THE CARD IS WHAT COUNTS. Prove the row's statement (the work); the ties are given (YtgfaadooijngnaaDoorTie.lean); close each card by the builder's one call (the guide's Derived/Test/ToyasCard.lean, 'card_holds'). Laid BY PROGRAM, IN A SANDBOX (cutbox-door.mjs). By AI agents, Wed Nov 11 2026. No macro, syntax, notation, axiom, sorry.
-/
import Derived.Test.YtgfaadooijngnaaDoorRows
import GoSem.ClaimSeven
namespace Go.Proofs.YtgfaadooijngnaaDoor
namespace Rows

/-- THE TIED CARD OF 'tumbrellaw23.AdminParses'. -/
def adminParsesCard : Claim7 := { stood := { row := adminParsesRow, standIns := [], harness := (true, "18a0e388f01270b9aeb7860e1d08b922d97bbb2819c49c3cd83d5b317e9dbce3"), looks := true }, kinds := [], alts := [], laidByText := true, laidKinds := [.data, .data, .data, .data, .sentinel, .sentinel, .pinned], laidTests := true, laidLooks := .later }
def AdminParsesCardSaid : Prop := Claim7.holds Tryd.pinned (.plain (OpenSpec.ofChange adminParsesSpec)) adminParsesCard

/-- THE SECOND FORM's CARD OF 'tumbrellaw23.AdminParses'. -/
def adminParsesUptoCard : Claim7 := { stood := { row := adminParsesUptoRow, standIns := [], harness := (true, "18a0e388f01270b9aeb7860e1d08b922d97bbb2819c49c3cd83d5b317e9dbce3"), looks := true }, kinds := [], alts := [], laidByText := true, laidKinds := [.data, .data, .data, .data, .sentinel, .sentinel, .pinned], laidTests := true, laidLooks := .later }
def AdminParsesUptoCardSaid : Prop := Claim7.holds Tryd.pinned (.plain (OpenSpec.upto adminParsesSpec)) adminParsesUptoCard
end Rows
end Go.Proofs.YtgfaadooijngnaaDoor
