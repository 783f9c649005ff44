/-
  DERIVED. GIVEN WITH THE SEED: THE CARDS: each row of YtjfcdfhcmkdicaaGreatDoorRows.lean that lists a variable, with what it lists TIED to the program's text (the seventh form; the later family's looks); each row that meets fmt, with fmt's text TOLD by the authors' own Lean function (tested against real Go, not proved from fmt's source: count such statements apart). THE CARD IS WHAT COUNTS. Prove the row's statement (the work); the ties are given (YtjfcdfhcmkdicaaGreatDoorTie.lean); close each card by the builder's one call (the guide's Derived/Test/ToyasCard.lean, 'card_holds'). Laid BY PROGRAM, IN A SANDBOX (cutbox-door.mjs). By AI agents, Wed Nov 11 2026. No macro, syntax, notation, axiom, sorry.
-/
import Derived.Test.YtjfcdfhcmkdicaaGreatDoorRows
import GoSem.ClaimSeven
namespace Go.Proofs.YtjfcdfhcmkdicaaGreatDoor
namespace Rows

/-- THE TIED CARD OF 'slotmeshlaw02.ParserMatchesReference'. -/
def parserMatchesReferenceCard : Claim7 := { stood := { row := parserMatchesReferenceRow, standIns := [], harness := (true, "24b2ff3945eeac7c11e5fd85dbfefbf7420bd4804e65abf2f894c2d853dedef6"), looks := true }, kinds := [], alts := [], laidByText := true, laidKinds := [.data, .data, .data, .sentinel, .sentinel], laidTests := true, laidLooks := .later }
def ParserMatchesReferenceCardSaid : Prop := Claim7.holds Tryz.pinned (.plain (OpenSpec.ofChange parserMatchesReferenceSpec)) parserMatchesReferenceCard

/-- THE SECOND FORM's CARD OF 'slotmeshlaw02.ParserMatchesReference'. -/
def parserMatchesReferenceUptoCard : Claim7 := { stood := { row := parserMatchesReferenceUptoRow, standIns := [], harness := (true, "24b2ff3945eeac7c11e5fd85dbfefbf7420bd4804e65abf2f894c2d853dedef6"), looks := true }, kinds := [], alts := [], laidByText := true, laidKinds := [.data, .data, .data, .sentinel, .sentinel], laidTests := true, laidLooks := .later }
def ParserMatchesReferenceUptoCardSaid : Prop := Claim7.holds Tryz.pinned (.plain (OpenSpec.upto parserMatchesReferenceSpec)) parserMatchesReferenceUptoCard
end Rows
end Go.Proofs.YtjfcdfhcmkdicaaGreatDoor
