/-
  DERIVED. GIVEN WITH THE SEED: THE CARDS: each row of YtmdogklgbifacaaDoorRows.lean that lists a variable, with what it lists TIED to the program's text (the seventh form; the later family's looks); each row that meets fmt, with fmt's text TOLD by the authors' own Lean function (tested against real Go, not proved from fmt's source: count such statements apart). THE CARD IS WHAT COUNTS. Prove the row's statement (the work); the ties are given (YtmdogklgbifacaaDoorTie.lean); close each card by the builder's one call (the guide's Derived/Test/ToyasCard.lean, 'card_holds'). Laid BY PROGRAM, IN A SANDBOX (cutbox-door.mjs). By AI agents, Wed Nov 11 2026. No macro, syntax, notation, axiom, sorry.
-/
import Derived.Test.YtmdogklgbifacaaDoorRows
import GoSem.ClaimSeven
namespace Go.Proofs.YtmdogklgbifacaaDoor
namespace Rows

/-- THE TIED CARD OF 'slotmeshlaw03.PrinterMatchesReference'. -/
def printerMatchesReferenceCard : Claim7 := { stood := { row := printerMatchesReferenceRow, standIns := [], harness := (true, "9feb1d06f4eb2a667073b17005201dd63719fcc002c478dd32c1186beeab70a9"), looks := true }, kinds := [], alts := [], laidByText := true, laidKinds := [.data, .data, .data, .sentinel, .sentinel, .data], laidTests := true, laidLooks := .later }
def PrinterMatchesReferenceCardSaid : Prop := Claim7.holds Tryd.pinned (.plain (OpenSpec.ofChange printerMatchesReferenceSpec)) printerMatchesReferenceCard

/-- THE TIED CARD OF 'slotmeshlaw03.PrinterJoins'. -/
def printerJoinsCard : Claim7 := { stood := { row := printerJoinsRow, standIns := [], harness := (true, "9feb1d06f4eb2a667073b17005201dd63719fcc002c478dd32c1186beeab70a9"), looks := true }, kinds := [], alts := [], laidByText := true, laidKinds := [.data, .data, .data, .sentinel, .sentinel, .data], laidTests := true, laidLooks := .later }
def PrinterJoinsCardSaid : Prop := Claim7.holds Tryd.pinned (.plain (OpenSpec.ofChange printerJoinsSpec)) printerJoinsCard

/-- THE TIED CARD OF 'slotmeshlaw03.PrinterParts'. -/
def printerPartsCard : Claim7 := { stood := { row := printerPartsRow, standIns := [], harness := (true, "9feb1d06f4eb2a667073b17005201dd63719fcc002c478dd32c1186beeab70a9"), looks := true }, kinds := [], alts := [], laidByText := true, laidKinds := [.data, .data, .data, .sentinel, .sentinel, .data], laidTests := true, laidLooks := .later }
def PrinterPartsCardSaid : Prop := Claim7.holds Tryd.pinned (.plain (OpenSpec.ofChange printerPartsSpec)) printerPartsCard

/-- THE TIED CARD OF 'slotmeshlaw03.PrinterDiffers'. -/
def printerDiffersCard : Claim7 := { stood := { row := printerDiffersRow, standIns := [], harness := (true, "9feb1d06f4eb2a667073b17005201dd63719fcc002c478dd32c1186beeab70a9"), looks := true }, kinds := [], alts := [], laidByText := true, laidKinds := [.data, .data, .data, .sentinel, .sentinel, .data], laidTests := true, laidLooks := .later }
def PrinterDiffersCardSaid : Prop := Claim7.holds Tryd.pinned (.plain (OpenSpec.ofChange printerDiffersSpec)) printerDiffersCard

/-- THE TIED CARD OF 'slotmeshlaw03.PrinterCanonical'. -/
def printerCanonicalCard : Claim7 := { stood := { row := printerCanonicalRow, standIns := [], harness := (true, "9feb1d06f4eb2a667073b17005201dd63719fcc002c478dd32c1186beeab70a9"), looks := true }, kinds := [], alts := [], laidByText := true, laidKinds := [.data, .data, .data, .sentinel, .sentinel, .data], laidTests := true, laidLooks := .later }
def PrinterCanonicalCardSaid : Prop := Claim7.holds Tryd.pinned (.plain (OpenSpec.ofChange printerCanonicalSpec)) printerCanonicalCard

/-- THE TIED CARD OF 'slotmeshlaw03.PrinterLines'. -/
def printerLinesCard : Claim7 := { stood := { row := printerLinesRow, standIns := [], harness := (true, "9feb1d06f4eb2a667073b17005201dd63719fcc002c478dd32c1186beeab70a9"), looks := true }, kinds := [], alts := [], laidByText := true, laidKinds := [.data, .data, .data, .sentinel, .sentinel, .data], laidTests := true, laidLooks := .later }
def PrinterLinesCardSaid : Prop := Claim7.holds Tryd.pinned (.plain (OpenSpec.ofChange printerLinesSpec)) printerLinesCard

/-- THE TIED CARD OF 'slotmeshlaw03.PrinterInverse'. -/
def printerInverseCard : Claim7 := { stood := { row := printerInverseRow, standIns := [], harness := (true, "9feb1d06f4eb2a667073b17005201dd63719fcc002c478dd32c1186beeab70a9"), looks := true }, kinds := [], alts := [], laidByText := true, laidKinds := [.data, .data, .data, .sentinel, .sentinel, .data], laidTests := true, laidLooks := .later }
def PrinterInverseCardSaid : Prop := Claim7.holds Tryd.pinned (.plain (OpenSpec.ofChange printerInverseSpec)) printerInverseCard

/-- THE SECOND FORM's CARD OF 'slotmeshlaw03.PrinterMatchesReference'. -/
def printerMatchesReferenceUptoCard : Claim7 := { stood := { row := printerMatchesReferenceUptoRow, standIns := [], harness := (true, "9feb1d06f4eb2a667073b17005201dd63719fcc002c478dd32c1186beeab70a9"), looks := true }, kinds := [], alts := [], laidByText := true, laidKinds := [.data, .data, .data, .sentinel, .sentinel, .data], laidTests := true, laidLooks := .later }
def PrinterMatchesReferenceUptoCardSaid : Prop := Claim7.holds Tryd.pinned (.plain (OpenSpec.upto printerMatchesReferenceSpec)) printerMatchesReferenceUptoCard

/-- THE SECOND FORM's CARD OF 'slotmeshlaw03.PrinterJoins'. -/
def printerJoinsUptoCard : Claim7 := { stood := { row := printerJoinsUptoRow, standIns := [], harness := (true, "9feb1d06f4eb2a667073b17005201dd63719fcc002c478dd32c1186beeab70a9"), looks := true }, kinds := [], alts := [], laidByText := true, laidKinds := [.data, .data, .data, .sentinel, .sentinel, .data], laidTests := true, laidLooks := .later }
def PrinterJoinsUptoCardSaid : Prop := Claim7.holds Tryd.pinned (.plain (OpenSpec.upto printerJoinsSpec)) printerJoinsUptoCard

/-- THE SECOND FORM's CARD OF 'slotmeshlaw03.PrinterParts'. -/
def printerPartsUptoCard : Claim7 := { stood := { row := printerPartsUptoRow, standIns := [], harness := (true, "9feb1d06f4eb2a667073b17005201dd63719fcc002c478dd32c1186beeab70a9"), looks := true }, kinds := [], alts := [], laidByText := true, laidKinds := [.data, .data, .data, .sentinel, .sentinel, .data], laidTests := true, laidLooks := .later }
def PrinterPartsUptoCardSaid : Prop := Claim7.holds Tryd.pinned (.plain (OpenSpec.upto printerPartsSpec)) printerPartsUptoCard

/-- THE SECOND FORM's CARD OF 'slotmeshlaw03.PrinterDiffers'. -/
def printerDiffersUptoCard : Claim7 := { stood := { row := printerDiffersUptoRow, standIns := [], harness := (true, "9feb1d06f4eb2a667073b17005201dd63719fcc002c478dd32c1186beeab70a9"), looks := true }, kinds := [], alts := [], laidByText := true, laidKinds := [.data, .data, .data, .sentinel, .sentinel, .data], laidTests := true, laidLooks := .later }
def PrinterDiffersUptoCardSaid : Prop := Claim7.holds Tryd.pinned (.plain (OpenSpec.upto printerDiffersSpec)) printerDiffersUptoCard

/-- THE SECOND FORM's CARD OF 'slotmeshlaw03.PrinterCanonical'. -/
def printerCanonicalUptoCard : Claim7 := { stood := { row := printerCanonicalUptoRow, standIns := [], harness := (true, "9feb1d06f4eb2a667073b17005201dd63719fcc002c478dd32c1186beeab70a9"), looks := true }, kinds := [], alts := [], laidByText := true, laidKinds := [.data, .data, .data, .sentinel, .sentinel, .data], laidTests := true, laidLooks := .later }
def PrinterCanonicalUptoCardSaid : Prop := Claim7.holds Tryd.pinned (.plain (OpenSpec.upto printerCanonicalSpec)) printerCanonicalUptoCard

/-- THE SECOND FORM's CARD OF 'slotmeshlaw03.PrinterLines'. -/
def printerLinesUptoCard : Claim7 := { stood := { row := printerLinesUptoRow, standIns := [], harness := (true, "9feb1d06f4eb2a667073b17005201dd63719fcc002c478dd32c1186beeab70a9"), looks := true }, kinds := [], alts := [], laidByText := true, laidKinds := [.data, .data, .data, .sentinel, .sentinel, .data], laidTests := true, laidLooks := .later }
def PrinterLinesUptoCardSaid : Prop := Claim7.holds Tryd.pinned (.plain (OpenSpec.upto printerLinesSpec)) printerLinesUptoCard

/-- THE SECOND FORM's CARD OF 'slotmeshlaw03.PrinterInverse'. -/
def printerInverseUptoCard : Claim7 := { stood := { row := printerInverseUptoRow, standIns := [], harness := (true, "9feb1d06f4eb2a667073b17005201dd63719fcc002c478dd32c1186beeab70a9"), looks := true }, kinds := [], alts := [], laidByText := true, laidKinds := [.data, .data, .data, .sentinel, .sentinel, .data], laidTests := true, laidLooks := .later }
def PrinterInverseUptoCardSaid : Prop := Claim7.holds Tryd.pinned (.plain (OpenSpec.upto printerInverseSpec)) printerInverseUptoCard
end Rows
end Go.Proofs.YtmdogklgbifacaaDoor
