/-
  DERIVED. GIVEN WITH THE SEED: THE CARDS: each row of YtjfcdfhcmkdicaaDoorRows.lean that lists a variable, with what it lists TIED to the program's text (the seventh form; the later family's looks); each row that meets fmt, with fmt's text TOLD by the authors' own Lean function (tested against real Go, not proved from fmt's source: count such statements apart). THE CARD IS WHAT COUNTS. Prove the row's statement (the work); the ties are given (YtjfcdfhcmkdicaaDoorTie.lean); close each card by the builder's one call (the guide's Derived/Test/ToyasCard.lean, 'card_holds'). Laid BY PROGRAM, IN A SANDBOX (cutbox-door.mjs). By AI agents, Wed Nov 11 2026. No macro, syntax, notation, axiom, sorry.
-/
import Derived.Test.YtjfcdfhcmkdicaaDoorRows
import GoSem.ClaimSeven
namespace Go.Proofs.YtjfcdfhcmkdicaaDoor
namespace Rows

/-- THE TIED CARD OF 'slotmeshlaw02.ParserCommands'. -/
def parserCommandsCard : Claim7 := { stood := { row := parserCommandsRow, standIns := [], harness := (true, "fe534b828b6d2c324c55576b2aba48bcc46feb38e38d5fa36ae08a308378cb29"), looks := true }, kinds := [], alts := [], laidByText := true, laidKinds := [.data, .data, .data, .sentinel, .sentinel], laidTests := true, laidLooks := .later }
def ParserCommandsCardSaid : Prop := Claim7.holds Tryd.pinned (.plain (OpenSpec.ofChange parserCommandsSpec)) parserCommandsCard

/-- THE TIED CARD OF 'slotmeshlaw02.ParserTexts'. -/
def parserTextsCard : Claim7 := { stood := { row := parserTextsRow, standIns := [], harness := (true, "fe534b828b6d2c324c55576b2aba48bcc46feb38e38d5fa36ae08a308378cb29"), looks := true }, kinds := [], alts := [], laidByText := true, laidKinds := [.data, .data, .data, .sentinel, .sentinel], laidTests := true, laidLooks := .later }
def ParserTextsCardSaid : Prop := Claim7.holds Tryd.pinned (.plain (OpenSpec.ofChange parserTextsSpec)) parserTextsCard

/-- THE TIED CARD OF 'slotmeshlaw02.ParserJoining'. -/
def parserJoiningCard : Claim7 := { stood := { row := parserJoiningRow, standIns := [], harness := (true, "fe534b828b6d2c324c55576b2aba48bcc46feb38e38d5fa36ae08a308378cb29"), looks := true }, kinds := [], alts := [], laidByText := true, laidKinds := [.data, .data, .data, .sentinel, .sentinel], laidTests := true, laidLooks := .later }
def ParserJoiningCardSaid : Prop := Claim7.holds Tryd.pinned (.plain (OpenSpec.ofChange parserJoiningSpec)) parserJoiningCard

/-- THE TIED CARD OF 'slotmeshlaw02.ParserErrors'. -/
def parserErrorsCard : Claim7 := { stood := { row := parserErrorsRow, standIns := [], harness := (true, "fe534b828b6d2c324c55576b2aba48bcc46feb38e38d5fa36ae08a308378cb29"), looks := true }, kinds := [], alts := [], laidByText := true, laidKinds := [.data, .data, .data, .sentinel, .sentinel], laidTests := true, laidLooks := .later }
def ParserErrorsCardSaid : Prop := Claim7.holds Tryd.pinned (.plain (OpenSpec.ofChange parserErrorsSpec)) parserErrorsCard

/-- THE TIED CARD OF 'slotmeshlaw02.ParserBeginnings'. -/
def parserBeginningsCard : Claim7 := { stood := { row := parserBeginningsRow, standIns := [], harness := (true, "fe534b828b6d2c324c55576b2aba48bcc46feb38e38d5fa36ae08a308378cb29"), looks := true }, kinds := [], alts := [], laidByText := true, laidKinds := [.data, .data, .data, .sentinel, .sentinel], laidTests := true, laidLooks := .later }
def ParserBeginningsCardSaid : Prop := Claim7.holds Tryd.pinned (.plain (OpenSpec.ofChange parserBeginningsSpec)) parserBeginningsCard

/-- THE TIED CARD OF 'slotmeshlaw02.ParserGaps'. -/
def parserGapsCard : Claim7 := { stood := { row := parserGapsRow, standIns := [], harness := (true, "fe534b828b6d2c324c55576b2aba48bcc46feb38e38d5fa36ae08a308378cb29"), looks := true }, kinds := [], alts := [], laidByText := true, laidKinds := [.data, .data, .data, .sentinel, .sentinel], laidTests := true, laidLooks := .later }
def ParserGapsCardSaid : Prop := Claim7.holds Tryd.pinned (.plain (OpenSpec.ofChange parserGapsSpec)) parserGapsCard

/-- THE SECOND FORM's CARD OF 'slotmeshlaw02.ParserCommands'. -/
def parserCommandsUptoCard : Claim7 := { stood := { row := parserCommandsUptoRow, standIns := [], harness := (true, "fe534b828b6d2c324c55576b2aba48bcc46feb38e38d5fa36ae08a308378cb29"), looks := true }, kinds := [], alts := [], laidByText := true, laidKinds := [.data, .data, .data, .sentinel, .sentinel], laidTests := true, laidLooks := .later }
def ParserCommandsUptoCardSaid : Prop := Claim7.holds Tryd.pinned (.plain (OpenSpec.upto parserCommandsSpec)) parserCommandsUptoCard

/-- THE SECOND FORM's CARD OF 'slotmeshlaw02.ParserTexts'. -/
def parserTextsUptoCard : Claim7 := { stood := { row := parserTextsUptoRow, standIns := [], harness := (true, "fe534b828b6d2c324c55576b2aba48bcc46feb38e38d5fa36ae08a308378cb29"), looks := true }, kinds := [], alts := [], laidByText := true, laidKinds := [.data, .data, .data, .sentinel, .sentinel], laidTests := true, laidLooks := .later }
def ParserTextsUptoCardSaid : Prop := Claim7.holds Tryd.pinned (.plain (OpenSpec.upto parserTextsSpec)) parserTextsUptoCard

/-- THE SECOND FORM's CARD OF 'slotmeshlaw02.ParserJoining'. -/
def parserJoiningUptoCard : Claim7 := { stood := { row := parserJoiningUptoRow, standIns := [], harness := (true, "fe534b828b6d2c324c55576b2aba48bcc46feb38e38d5fa36ae08a308378cb29"), looks := true }, kinds := [], alts := [], laidByText := true, laidKinds := [.data, .data, .data, .sentinel, .sentinel], laidTests := true, laidLooks := .later }
def ParserJoiningUptoCardSaid : Prop := Claim7.holds Tryd.pinned (.plain (OpenSpec.upto parserJoiningSpec)) parserJoiningUptoCard

/-- THE SECOND FORM's CARD OF 'slotmeshlaw02.ParserErrors'. -/
def parserErrorsUptoCard : Claim7 := { stood := { row := parserErrorsUptoRow, standIns := [], harness := (true, "fe534b828b6d2c324c55576b2aba48bcc46feb38e38d5fa36ae08a308378cb29"), looks := true }, kinds := [], alts := [], laidByText := true, laidKinds := [.data, .data, .data, .sentinel, .sentinel], laidTests := true, laidLooks := .later }
def ParserErrorsUptoCardSaid : Prop := Claim7.holds Tryd.pinned (.plain (OpenSpec.upto parserErrorsSpec)) parserErrorsUptoCard

/-- THE SECOND FORM's CARD OF 'slotmeshlaw02.ParserBeginnings'. -/
def parserBeginningsUptoCard : Claim7 := { stood := { row := parserBeginningsUptoRow, standIns := [], harness := (true, "fe534b828b6d2c324c55576b2aba48bcc46feb38e38d5fa36ae08a308378cb29"), looks := true }, kinds := [], alts := [], laidByText := true, laidKinds := [.data, .data, .data, .sentinel, .sentinel], laidTests := true, laidLooks := .later }
def ParserBeginningsUptoCardSaid : Prop := Claim7.holds Tryd.pinned (.plain (OpenSpec.upto parserBeginningsSpec)) parserBeginningsUptoCard

/-- THE SECOND FORM's CARD OF 'slotmeshlaw02.ParserGaps'. -/
def parserGapsUptoCard : Claim7 := { stood := { row := parserGapsUptoRow, standIns := [], harness := (true, "fe534b828b6d2c324c55576b2aba48bcc46feb38e38d5fa36ae08a308378cb29"), looks := true }, kinds := [], alts := [], laidByText := true, laidKinds := [.data, .data, .data, .sentinel, .sentinel], laidTests := true, laidLooks := .later }
def ParserGapsUptoCardSaid : Prop := Claim7.holds Tryd.pinned (.plain (OpenSpec.upto parserGapsSpec)) parserGapsUptoCard
end Rows
end Go.Proofs.YtjfcdfhcmkdicaaDoor
