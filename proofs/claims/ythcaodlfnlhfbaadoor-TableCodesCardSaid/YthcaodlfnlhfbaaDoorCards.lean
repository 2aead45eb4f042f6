/-
  DERIVED. GIVEN WITH THE SEED: THE CARDS: each row of YthcaodlfnlhfbaaDoorRows.lean that lists a variable, with what it lists TIED to the program's text (the seventh form; the later family's looks); each row that meets fmt, with fmt's text TOLD by the authors' own Lean function (tested against real Go, not proved from fmt's source: count such statements apart). THE CARD IS WHAT COUNTS. Prove the row's statement (the work); the ties are given (YthcaodlfnlhfbaaDoorTie.lean); close each card by the builder's one call (the guide's Derived/Test/ToyasCard.lean, 'card_holds'). Laid BY PROGRAM, IN A SANDBOX (cutbox-door.mjs). By AI agents, Wed Nov 11 2026. No macro, syntax, notation, axiom, sorry.
-/
import Derived.Test.YthcaodlfnlhfbaaDoorRows
import GoSem.ClaimSeven
namespace Go.Proofs.YthcaodlfnlhfbaaDoor
namespace Rows

/-- THE TIED CARD OF 'tumbrellaw03.GlyphAgain'. -/
def glyphAgainCard : Claim7 := { stood := { row := glyphAgainRow, standIns := [], harness := (true, "47a81c2ca1dac4c19d7bf74b359d29b21512a8e170be8fefb8c8866afeb583a8"), looks := true }, kinds := [], alts := [], laidByText := true, laidKinds := [.data, .data, .data, .sentinel, .sentinel], laidTests := true, laidLooks := .later }
def GlyphAgainCardSaid : Prop := Claim7.holds Tryd.pinned (.plain (OpenSpec.ofChange glyphAgainSpec)) glyphAgainCard

/-- THE TIED CARD OF 'tumbrellaw03.GlyphRemarks'. -/
def glyphRemarksCard : Claim7 := { stood := { row := glyphRemarksRow, standIns := [], harness := (true, "47a81c2ca1dac4c19d7bf74b359d29b21512a8e170be8fefb8c8866afeb583a8"), looks := true }, kinds := [], alts := [], laidByText := true, laidKinds := [.data, .data, .data, .sentinel, .sentinel], laidTests := true, laidLooks := .later }
def GlyphRemarksCardSaid : Prop := Claim7.holds Tryd.pinned (.plain (OpenSpec.ofChange glyphRemarksSpec)) glyphRemarksCard

/-- THE TIED CARD OF 'tumbrellaw03.GlyphNames'. -/
def glyphNamesCard : Claim7 := { stood := { row := glyphNamesRow, standIns := [], harness := (true, "47a81c2ca1dac4c19d7bf74b359d29b21512a8e170be8fefb8c8866afeb583a8"), looks := true }, kinds := [], alts := [], laidByText := true, laidKinds := [.data, .data, .data, .data, .sentinel, .sentinel, .pinned], laidTests := true, laidLooks := .later }
def GlyphNamesCardSaid : Prop := Claim7.holds Tryd.pinned (.plain (OpenSpec.ofChange glyphNamesSpec)) glyphNamesCard

/-- THE TIED CARD OF 'tumbrellaw12.TableCodes'. -/
def tableCodesCard : Claim7 := { stood := { row := tableCodesRow, standIns := [], harness := (true, "47a81c2ca1dac4c19d7bf74b359d29b21512a8e170be8fefb8c8866afeb583a8"), looks := true }, kinds := [], alts := [], laidByText := true, laidKinds := [.data, .pinned], laidTests := true, laidLooks := .later }
def TableCodesCardSaid : Prop := Claim7.holds Tryd.pinned (.plain (OpenSpec.ofChange tableCodesSpec)) tableCodesCard

/-- THE TIED CARD OF 'tumbrellaw03.GlyphWords'. -/
def glyphWordsCard : Claim7 := { stood := { row := glyphWordsRow, standIns := [], harness := (true, "47a81c2ca1dac4c19d7bf74b359d29b21512a8e170be8fefb8c8866afeb583a8"), looks := true }, kinds := [], alts := [], laidByText := true, laidKinds := [.data, .data, .data, .data, .sentinel, .sentinel, .pinned], laidTests := true, laidLooks := .later }
def GlyphWordsCardSaid : Prop := Claim7.holds Tryd.pinned (.plain (OpenSpec.ofChange glyphWordsSpec)) glyphWordsCard

/-- THE TIED CARD OF 'tumbrellaw03.GlyphLines'. -/
def glyphLinesCard : Claim7 := { stood := { row := glyphLinesRow, standIns := [], harness := (true, "47a81c2ca1dac4c19d7bf74b359d29b21512a8e170be8fefb8c8866afeb583a8"), looks := true }, kinds := [], alts := [], laidByText := true, laidKinds := [.data, .data, .data, .data, .sentinel, .sentinel, .pinned], laidTests := true, laidLooks := .later }
def GlyphLinesCardSaid : Prop := Claim7.holds Tryd.pinned (.plain (OpenSpec.ofChange glyphLinesSpec)) glyphLinesCard

/-- THE TIED CARD OF 'tumbrellaw05.GuardParses'. -/
def guardParsesCard : Claim7 := { stood := { row := guardParsesRow, standIns := [], harness := (true, "47a81c2ca1dac4c19d7bf74b359d29b21512a8e170be8fefb8c8866afeb583a8"), looks := true }, kinds := [], alts := [], laidByText := true, laidKinds := [.data, .data, .data, .data, .sentinel, .sentinel, .pinned], laidTests := true, laidLooks := .later }
def GuardParsesCardSaid : Prop := Claim7.holds Tryd.pinned (.plain (OpenSpec.ofChange guardParsesSpec)) guardParsesCard

/-- THE TIED CARD OF 'tumbrellaw05.GuardTakes'. -/
def guardTakesCard : Claim7 := { stood := { row := guardTakesRow, standIns := [], harness := (true, "47a81c2ca1dac4c19d7bf74b359d29b21512a8e170be8fefb8c8866afeb583a8"), looks := true }, kinds := [], alts := [], laidByText := true, laidKinds := [.data, .data, .data, .data, .sentinel, .sentinel, .pinned], laidTests := true, laidLooks := .later }
def GuardTakesCardSaid : Prop := Claim7.holds Tryd.pinned (.plain (OpenSpec.ofChange guardTakesSpec)) guardTakesCard

/-- THE SECOND FORM's CARD OF 'tumbrellaw03.GlyphAgain'. -/
def glyphAgainUptoCard : Claim7 := { stood := { row := glyphAgainUptoRow, standIns := [], harness := (true, "47a81c2ca1dac4c19d7bf74b359d29b21512a8e170be8fefb8c8866afeb583a8"), looks := true }, kinds := [], alts := [], laidByText := true, laidKinds := [.data, .data, .data, .sentinel, .sentinel], laidTests := true, laidLooks := .later }
def GlyphAgainUptoCardSaid : Prop := Claim7.holds Tryd.pinned (.plain (OpenSpec.upto glyphAgainSpec)) glyphAgainUptoCard

/-- THE SECOND FORM's CARD OF 'tumbrellaw03.GlyphRemarks'. -/
def glyphRemarksUptoCard : Claim7 := { stood := { row := glyphRemarksUptoRow, standIns := [], harness := (true, "47a81c2ca1dac4c19d7bf74b359d29b21512a8e170be8fefb8c8866afeb583a8"), looks := true }, kinds := [], alts := [], laidByText := true, laidKinds := [.data, .data, .data, .sentinel, .sentinel], laidTests := true, laidLooks := .later }
def GlyphRemarksUptoCardSaid : Prop := Claim7.holds Tryd.pinned (.plain (OpenSpec.upto glyphRemarksSpec)) glyphRemarksUptoCard

/-- THE SECOND FORM's CARD OF 'tumbrellaw03.GlyphNames'. -/
def glyphNamesUptoCard : Claim7 := { stood := { row := glyphNamesUptoRow, standIns := [], harness := (true, "47a81c2ca1dac4c19d7bf74b359d29b21512a8e170be8fefb8c8866afeb583a8"), looks := true }, kinds := [], alts := [], laidByText := true, laidKinds := [.data, .data, .data, .data, .sentinel, .sentinel, .pinned], laidTests := true, laidLooks := .later }
def GlyphNamesUptoCardSaid : Prop := Claim7.holds Tryd.pinned (.plain (OpenSpec.upto glyphNamesSpec)) glyphNamesUptoCard

/-- THE SECOND FORM's CARD OF 'tumbrellaw12.TableCodes'. -/
def tableCodesUptoCard : Claim7 := { stood := { row := tableCodesUptoRow, standIns := [], harness := (true, "47a81c2ca1dac4c19d7bf74b359d29b21512a8e170be8fefb8c8866afeb583a8"), looks := true }, kinds := [], alts := [], laidByText := true, laidKinds := [.data, .pinned], laidTests := true, laidLooks := .later }
def TableCodesUptoCardSaid : Prop := Claim7.holds Tryd.pinned (.plain (OpenSpec.upto tableCodesSpec)) tableCodesUptoCard

/-- THE SECOND FORM's CARD OF 'tumbrellaw03.GlyphWords'. -/
def glyphWordsUptoCard : Claim7 := { stood := { row := glyphWordsUptoRow, standIns := [], harness := (true, "47a81c2ca1dac4c19d7bf74b359d29b21512a8e170be8fefb8c8866afeb583a8"), looks := true }, kinds := [], alts := [], laidByText := true, laidKinds := [.data, .data, .data, .data, .sentinel, .sentinel, .pinned], laidTests := true, laidLooks := .later }
def GlyphWordsUptoCardSaid : Prop := Claim7.holds Tryd.pinned (.plain (OpenSpec.upto glyphWordsSpec)) glyphWordsUptoCard

/-- THE SECOND FORM's CARD OF 'tumbrellaw03.GlyphLines'. -/
def glyphLinesUptoCard : Claim7 := { stood := { row := glyphLinesUptoRow, standIns := [], harness := (true, "47a81c2ca1dac4c19d7bf74b359d29b21512a8e170be8fefb8c8866afeb583a8"), looks := true }, kinds := [], alts := [], laidByText := true, laidKinds := [.data, .data, .data, .data, .sentinel, .sentinel, .pinned], laidTests := true, laidLooks := .later }
def GlyphLinesUptoCardSaid : Prop := Claim7.holds Tryd.pinned (.plain (OpenSpec.upto glyphLinesSpec)) glyphLinesUptoCard

/-- THE SECOND FORM's CARD OF 'tumbrellaw05.GuardParses'. -/
def guardParsesUptoCard : Claim7 := { stood := { row := guardParsesUptoRow, standIns := [], harness := (true, "47a81c2ca1dac4c19d7bf74b359d29b21512a8e170be8fefb8c8866afeb583a8"), looks := true }, kinds := [], alts := [], laidByText := true, laidKinds := [.data, .data, .data, .data, .sentinel, .sentinel, .pinned], laidTests := true, laidLooks := .later }
def GuardParsesUptoCardSaid : Prop := Claim7.holds Tryd.pinned (.plain (OpenSpec.upto guardParsesSpec)) guardParsesUptoCard

/-- THE SECOND FORM's CARD OF 'tumbrellaw05.GuardTakes'. -/
def guardTakesUptoCard : Claim7 := { stood := { row := guardTakesUptoRow, standIns := [], harness := (true, "47a81c2ca1dac4c19d7bf74b359d29b21512a8e170be8fefb8c8866afeb583a8"), looks := true }, kinds := [], alts := [], laidByText := true, laidKinds := [.data, .data, .data, .data, .sentinel, .sentinel, .pinned], laidTests := true, laidLooks := .later }
def GuardTakesUptoCardSaid : Prop := Claim7.holds Tryd.pinned (.plain (OpenSpec.upto guardTakesSpec)) guardTakesUptoCard
end Rows
end Go.Proofs.YthcaodlfnlhfbaaDoor
