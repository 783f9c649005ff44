/-
  NARROWER THAN 'FOR EVERY INPUT', by the rows' own cells (each row's printed sentence says how): PrinterMatchesReference: laid · PrinterJoins: laid · PrinterParts: laid · PrinterDiffers: laid · PrinterCanonical: laid · PrinterLines: laid · PrinterInverse: laid.
  DERIVED. THE GIVEN ROWS OF THIS SEAT. 7 by the template 'for every input the law returns true; each argument reads behind the call as it read before'; 0 by the template 'total and deterministic' (their statements: YtmdogklgbifacaaDoorTotals.lean).
  GIVEN WITH THE SEED: the statements are not yours to turn. If you find one false, say at which input.
  Laid BY PROGRAM, IN A SANDBOX (cutbox-rows.mjs): the forced cells as the released guide's own fill.sh prints them over the translation 2678d4ac1c313159… (all of the seat's roots in one cut). By AI agents, Wed Nov 11 2026. No macro, syntax, notation, axiom, sorry.
-/
import Derived.Test.YtmdogklgbifacaaDoorChecked
import GoSem.Claim
import GoSem.ClaimJoined
import GoSem.ClaimMapViews
import Derived.JoinedTies
import Derived.KernelRfl
namespace Go.Proofs.YtmdogklgbifacaaDoor
/- THE CELL 'sum', in the pinned program and in every row, IS THE sha256 OF THE DUMP (.gsa) THAT YtmdogklgbifacaaDoorProg.lean LOADS. Nothing in Lean hashes anything: it is a label: what it is worth is what the hold of that sum in a sandbox is worth. -/
noncomputable def Tryd.pinned : Pinned := { name := "ytmdogklgbifacaadoor", sum := "2678d4ac1c31315901f0271f5e930bbb9bf62853579d304b4e2faa8fdb30fd3f", checked := Tryd.checked }
namespace Rows
def none {H : Type} : Left H := { results := [], args := [] }

/- WHAT THE LISTED PACKAGE-LEVEL VARIABLES READ AS WHEN THE CALL BEGINS. Each datum BY PROGRAM (the guide's laid-datum.mjs) off the statement by which the dump's own 'gosem.cut.vars' lays the variable. In a bare row this is a premise. The card (YtmdogklgbifacaaDoorCards.lean) ties it to the program's text. -/
def laid_math_bits_deBruijn32tab {H : Type} : DataW H := .agg [.lit (.int .u8 0), .lit (.int .u8 1), .lit (.int .u8 28), .lit (.int .u8 2), .lit (.int .u8 29), .lit (.int .u8 14), .lit (.int .u8 24), .lit (.int .u8 3), .lit (.int .u8 30), .lit (.int .u8 22), .lit (.int .u8 20), .lit (.int .u8 15), .lit (.int .u8 25), .lit (.int .u8 17), .lit (.int .u8 4), .lit (.int .u8 8), .lit (.int .u8 31), .lit (.int .u8 27), .lit (.int .u8 13), .lit (.int .u8 23), .lit (.int .u8 21), .lit (.int .u8 19), .lit (.int .u8 16), .lit (.int .u8 7), .lit (.int .u8 26), .lit (.int .u8 12), .lit (.int .u8 18), .lit (.int .u8 6), .lit (.int .u8 11), .lit (.int .u8 5), .lit (.int .u8 10), .lit (.int .u8 9)]
def laid_math_bits_deBruijn64tab {H : Type} : DataW H := .agg [.lit (.int .u8 0), .lit (.int .u8 1), .lit (.int .u8 56), .lit (.int .u8 2), .lit (.int .u8 57), .lit (.int .u8 49), .lit (.int .u8 28), .lit (.int .u8 3), .lit (.int .u8 61), .lit (.int .u8 58), .lit (.int .u8 42), .lit (.int .u8 50), .lit (.int .u8 38), .lit (.int .u8 29), .lit (.int .u8 17), .lit (.int .u8 4), .lit (.int .u8 62), .lit (.int .u8 47), .lit (.int .u8 59), .lit (.int .u8 36), .lit (.int .u8 45), .lit (.int .u8 43), .lit (.int .u8 51), .lit (.int .u8 22), .lit (.int .u8 53), .lit (.int .u8 39), .lit (.int .u8 33), .lit (.int .u8 30), .lit (.int .u8 24), .lit (.int .u8 18), .lit (.int .u8 12), .lit (.int .u8 5), .lit (.int .u8 63), .lit (.int .u8 55), .lit (.int .u8 48), .lit (.int .u8 27), .lit (.int .u8 60), .lit (.int .u8 41), .lit (.int .u8 37), .lit (.int .u8 16), .lit (.int .u8 46), .lit (.int .u8 35), .lit (.int .u8 44), .lit (.int .u8 21), .lit (.int .u8 52), .lit (.int .u8 32), .lit (.int .u8 23), .lit (.int .u8 11), .lit (.int .u8 54), .lit (.int .u8 26), .lit (.int .u8 40), .lit (.int .u8 15), .lit (.int .u8 34), .lit (.int .u8 20), .lit (.int .u8 31), .lit (.int .u8 10), .lit (.int .u8 25), .lit (.int .u8 14), .lit (.int .u8 19), .lit (.int .u8 9), .lit (.int .u8 13), .lit (.int .u8 8), .lit (.int .u8 7), .lit (.int .u8 6)]
def laid_internal_strconv_uint64pow10 {H : Type} : DataW H := .agg [.lit (.int .u64 1), .lit (.int .u64 10), .lit (.int .u64 100), .lit (.int .u64 1000), .lit (.int .u64 10000), .lit (.int .u64 100000), .lit (.int .u64 1000000), .lit (.int .u64 10000000), .lit (.int .u64 100000000), .lit (.int .u64 1000000000), .lit (.int .u64 10000000000), .lit (.int .u64 100000000000), .lit (.int .u64 1000000000000), .lit (.int .u64 10000000000000), .lit (.int .u64 100000000000000), .lit (.int .u64 1000000000000000), .lit (.int .u64 10000000000000000), .lit (.int .u64 100000000000000000), .lit (.int .u64 1000000000000000000), .lit (.int .u64 10000000000000000000)]
def laid_strconv_ErrRange {H : Type} : DataW H := .iface "*errors.errorString" (.ptr (.agg [.lit (.string [118, 97, 108, 117, 101, 32, 111, 117, 116, 32, 111, 102, 32, 114, 97, 110, 103, 101])]))
def laid_strconv_ErrSyntax {H : Type} : DataW H := .iface "*errors.errorString" (.ptr (.agg [.lit (.string [105, 110, 118, 97, 108, 105, 100, 32, 115, 121, 110, 116, 97, 120])]))
def laid_slotmesh_printer_forms {H : Type} : DataW H := .agg [.lit (.string []), .lit (.string [109, 101, 115, 104, 32, 100, 97, 116, 97, 32, 35, 32, 114, 97, 110, 103, 101, 32, 35]), .lit (.string [114, 111, 111, 116, 32, 78, 32, 97, 116, 32, 35, 32, 35]), .lit (.string [110, 111, 100, 101, 32, 78, 32, 97, 116, 32, 35, 32, 35, 32, 37, 32, 98, 97, 116, 116, 101, 114, 121, 32, 35]), .lit (.string [97, 116, 32, 35, 32, 109, 111, 118, 101, 32, 78, 32, 35, 32, 35]), .lit (.string [97, 116, 32, 35, 32, 102, 97, 105, 108, 32, 78]), .lit (.string [97, 116, 32, 35, 32, 115, 116, 97, 114, 116, 32, 78]), .lit (.string [97, 116, 32, 35, 32, 114, 101, 97, 100, 32, 78, 32, 35]), .lit (.string [97, 116, 32, 35, 32, 106, 97, 109, 32, 35, 32, 35, 32, 114, 97, 100, 105, 117, 115, 32, 35, 32, 99, 104, 97, 110, 110, 101, 108, 32, 35, 32, 102, 111, 114, 32, 35]), .lit (.string [97, 116, 32, 35, 32, 114, 101, 112, 108, 97, 121, 32, 35, 32, 97, 116, 32, 35, 32, 35]), .lit (.string [97, 116, 32, 35, 32, 112, 114, 111, 103, 114, 97, 109, 32, 35, 32, 115, 105, 122, 101, 32, 35]), .lit (.string [114, 117, 110, 32, 35])]

/-- 'slotmeshlaw03.PrinterMatchesReference': WHATEVER THE INPUT: true; the input reads as it did. -/
def printerMatchesReferenceSpec : ChangeSpec := { name := "printerMatchesReference", fn := fun _ => fun
  | [d] => { results := [.lit (.bool true)], args := [d] }
  | _ => none }
def printerMatchesReferenceRow : OpenClaim := { program := "ytmdogklgbifacaadoor", sum := "2678d4ac1c31315901f0271f5e930bbb9bf62853579d304b4e2faa8fdb30fd3f", func := "slotmesh/slotmeshlaw03.PrinterMatchesReference", spec := "printerMatchesReference", inPlace := ["internal/abi.NoEscape"], unfollowed := true, recurses := true, named := ["slotmesh/printer.forms", "internal/strconv.uint64pow10", "math/bits.deBruijn32tab", "math/bits.deBruijn64tab", "strconv.ErrSyntax", "strconv.ErrRange"], apart := false, laid := [("math/bits.deBruijn32tab", laid_math_bits_deBruijn32tab), ("math/bits.deBruijn64tab", laid_math_bits_deBruijn64tab), ("internal/strconv.uint64pow10", laid_internal_strconv_uint64pow10), ("strconv.ErrRange", laid_strconv_ErrRange), ("strconv.ErrSyntax", laid_strconv_ErrSyntax), ("slotmesh/printer.forms", laid_slotmesh_printer_forms)] }
def PrinterMatchesReferenceSaid : Prop := printerMatchesReferenceRow.holds Tryd.pinned (OpenSpec.ofChange printerMatchesReferenceSpec)

/-- ITS FALSE NEIGHBOUR: 'it returns false'. Refute it at one input. -/
def printerMatchesReferenceWrong : ChangeSpec := { name := "printerMatchesReference", fn := fun _ => fun
  | [d] => { results := [.lit (.bool false)], args := [d] }
  | _ => none }
def PrinterMatchesReferenceWrongFalsely : Prop := printerMatchesReferenceRow.holds Tryd.pinned (OpenSpec.ofChange printerMatchesReferenceWrong)

/-- 'slotmeshlaw03.PrinterJoins': WHATEVER THE INPUT: true; the input reads as it did. -/
def printerJoinsSpec : ChangeSpec := { name := "printerJoins", fn := fun _ => fun
  | [d1, d2] => { results := [.lit (.bool true)], args := [d1, d2] }
  | _ => none }
def printerJoinsRow : OpenClaim := { program := "ytmdogklgbifacaadoor", sum := "2678d4ac1c31315901f0271f5e930bbb9bf62853579d304b4e2faa8fdb30fd3f", func := "slotmesh/slotmeshlaw03.PrinterJoins", spec := "printerJoins", inPlace := ["internal/abi.NoEscape"], unfollowed := true, recurses := true, named := ["slotmesh/printer.forms", "internal/strconv.uint64pow10", "math/bits.deBruijn32tab", "math/bits.deBruijn64tab", "strconv.ErrSyntax", "strconv.ErrRange"], apart := false, laid := [("math/bits.deBruijn32tab", laid_math_bits_deBruijn32tab), ("math/bits.deBruijn64tab", laid_math_bits_deBruijn64tab), ("internal/strconv.uint64pow10", laid_internal_strconv_uint64pow10), ("strconv.ErrRange", laid_strconv_ErrRange), ("strconv.ErrSyntax", laid_strconv_ErrSyntax), ("slotmesh/printer.forms", laid_slotmesh_printer_forms)] }
def PrinterJoinsSaid : Prop := printerJoinsRow.holds Tryd.pinned (OpenSpec.ofChange printerJoinsSpec)

/-- ITS FALSE NEIGHBOUR: 'it returns false'. Refute it at one input. -/
def printerJoinsWrong : ChangeSpec := { name := "printerJoins", fn := fun _ => fun
  | [d1, d2] => { results := [.lit (.bool false)], args := [d1, d2] }
  | _ => none }
def PrinterJoinsWrongFalsely : Prop := printerJoinsRow.holds Tryd.pinned (OpenSpec.ofChange printerJoinsWrong)

/-- 'slotmeshlaw03.PrinterParts': WHATEVER THE INPUT: true; the input reads as it did. -/
def printerPartsSpec : ChangeSpec := { name := "printerParts", fn := fun _ => fun
  | [d1, d2, d3] => { results := [.lit (.bool true)], args := [d1, d2, d3] }
  | _ => none }
def printerPartsRow : OpenClaim := { program := "ytmdogklgbifacaadoor", sum := "2678d4ac1c31315901f0271f5e930bbb9bf62853579d304b4e2faa8fdb30fd3f", func := "slotmesh/slotmeshlaw03.PrinterParts", spec := "printerParts", inPlace := ["internal/abi.NoEscape"], unfollowed := true, recurses := true, named := ["slotmesh/printer.forms", "internal/strconv.uint64pow10", "math/bits.deBruijn32tab", "math/bits.deBruijn64tab", "strconv.ErrSyntax", "strconv.ErrRange"], apart := false, laid := [("math/bits.deBruijn32tab", laid_math_bits_deBruijn32tab), ("math/bits.deBruijn64tab", laid_math_bits_deBruijn64tab), ("internal/strconv.uint64pow10", laid_internal_strconv_uint64pow10), ("strconv.ErrRange", laid_strconv_ErrRange), ("strconv.ErrSyntax", laid_strconv_ErrSyntax), ("slotmesh/printer.forms", laid_slotmesh_printer_forms)] }
def PrinterPartsSaid : Prop := printerPartsRow.holds Tryd.pinned (OpenSpec.ofChange printerPartsSpec)

/-- ITS FALSE NEIGHBOUR: 'it returns false'. Refute it at one input. -/
def printerPartsWrong : ChangeSpec := { name := "printerParts", fn := fun _ => fun
  | [d1, d2, d3] => { results := [.lit (.bool false)], args := [d1, d2, d3] }
  | _ => none }
def PrinterPartsWrongFalsely : Prop := printerPartsRow.holds Tryd.pinned (OpenSpec.ofChange printerPartsWrong)

/-- 'slotmeshlaw03.PrinterDiffers': WHATEVER THE INPUT: true; the input reads as it did. -/
def printerDiffersSpec : ChangeSpec := { name := "printerDiffers", fn := fun _ => fun
  | [d1, d2] => { results := [.lit (.bool true)], args := [d1, d2] }
  | _ => none }
def printerDiffersRow : OpenClaim := { program := "ytmdogklgbifacaadoor", sum := "2678d4ac1c31315901f0271f5e930bbb9bf62853579d304b4e2faa8fdb30fd3f", func := "slotmesh/slotmeshlaw03.PrinterDiffers", spec := "printerDiffers", inPlace := ["internal/abi.NoEscape"], unfollowed := true, recurses := true, named := ["slotmesh/printer.forms", "internal/strconv.uint64pow10", "math/bits.deBruijn32tab", "math/bits.deBruijn64tab", "strconv.ErrSyntax", "strconv.ErrRange"], apart := false, laid := [("math/bits.deBruijn32tab", laid_math_bits_deBruijn32tab), ("math/bits.deBruijn64tab", laid_math_bits_deBruijn64tab), ("internal/strconv.uint64pow10", laid_internal_strconv_uint64pow10), ("strconv.ErrRange", laid_strconv_ErrRange), ("strconv.ErrSyntax", laid_strconv_ErrSyntax), ("slotmesh/printer.forms", laid_slotmesh_printer_forms)] }
def PrinterDiffersSaid : Prop := printerDiffersRow.holds Tryd.pinned (OpenSpec.ofChange printerDiffersSpec)

/-- ITS FALSE NEIGHBOUR: 'it returns false'. Refute it at one input. -/
def printerDiffersWrong : ChangeSpec := { name := "printerDiffers", fn := fun _ => fun
  | [d1, d2] => { results := [.lit (.bool false)], args := [d1, d2] }
  | _ => none }
def PrinterDiffersWrongFalsely : Prop := printerDiffersRow.holds Tryd.pinned (OpenSpec.ofChange printerDiffersWrong)

/-- 'slotmeshlaw03.PrinterCanonical': WHATEVER THE INPUT: true; the input reads as it did. -/
def printerCanonicalSpec : ChangeSpec := { name := "printerCanonical", fn := fun _ => fun
  | [d1, d2] => { results := [.lit (.bool true)], args := [d1, d2] }
  | _ => none }
def printerCanonicalRow : OpenClaim := { program := "ytmdogklgbifacaadoor", sum := "2678d4ac1c31315901f0271f5e930bbb9bf62853579d304b4e2faa8fdb30fd3f", func := "slotmesh/slotmeshlaw03.PrinterCanonical", spec := "printerCanonical", inPlace := ["internal/abi.NoEscape"], unfollowed := true, recurses := true, named := ["slotmesh/printer.forms", "internal/strconv.uint64pow10", "math/bits.deBruijn32tab", "math/bits.deBruijn64tab", "strconv.ErrSyntax", "strconv.ErrRange"], apart := false, laid := [("math/bits.deBruijn32tab", laid_math_bits_deBruijn32tab), ("math/bits.deBruijn64tab", laid_math_bits_deBruijn64tab), ("internal/strconv.uint64pow10", laid_internal_strconv_uint64pow10), ("strconv.ErrRange", laid_strconv_ErrRange), ("strconv.ErrSyntax", laid_strconv_ErrSyntax), ("slotmesh/printer.forms", laid_slotmesh_printer_forms)] }
def PrinterCanonicalSaid : Prop := printerCanonicalRow.holds Tryd.pinned (OpenSpec.ofChange printerCanonicalSpec)

/-- ITS FALSE NEIGHBOUR: 'it returns false'. Refute it at one input. -/
def printerCanonicalWrong : ChangeSpec := { name := "printerCanonical", fn := fun _ => fun
  | [d1, d2] => { results := [.lit (.bool false)], args := [d1, d2] }
  | _ => none }
def PrinterCanonicalWrongFalsely : Prop := printerCanonicalRow.holds Tryd.pinned (OpenSpec.ofChange printerCanonicalWrong)

/-- 'slotmeshlaw03.PrinterLines': WHATEVER THE INPUT: true; the input reads as it did. -/
def printerLinesSpec : ChangeSpec := { name := "printerLines", fn := fun _ => fun
  | [d] => { results := [.lit (.bool true)], args := [d] }
  | _ => none }
def printerLinesRow : OpenClaim := { program := "ytmdogklgbifacaadoor", sum := "2678d4ac1c31315901f0271f5e930bbb9bf62853579d304b4e2faa8fdb30fd3f", func := "slotmesh/slotmeshlaw03.PrinterLines", spec := "printerLines", inPlace := ["internal/abi.NoEscape"], unfollowed := true, recurses := true, named := ["slotmesh/printer.forms", "internal/strconv.uint64pow10", "math/bits.deBruijn32tab", "math/bits.deBruijn64tab", "strconv.ErrSyntax", "strconv.ErrRange"], apart := false, laid := [("math/bits.deBruijn32tab", laid_math_bits_deBruijn32tab), ("math/bits.deBruijn64tab", laid_math_bits_deBruijn64tab), ("internal/strconv.uint64pow10", laid_internal_strconv_uint64pow10), ("strconv.ErrRange", laid_strconv_ErrRange), ("strconv.ErrSyntax", laid_strconv_ErrSyntax), ("slotmesh/printer.forms", laid_slotmesh_printer_forms)] }
def PrinterLinesSaid : Prop := printerLinesRow.holds Tryd.pinned (OpenSpec.ofChange printerLinesSpec)

/-- ITS FALSE NEIGHBOUR: 'it returns false'. Refute it at one input. -/
def printerLinesWrong : ChangeSpec := { name := "printerLines", fn := fun _ => fun
  | [d] => { results := [.lit (.bool false)], args := [d] }
  | _ => none }
def PrinterLinesWrongFalsely : Prop := printerLinesRow.holds Tryd.pinned (OpenSpec.ofChange printerLinesWrong)

/-- 'slotmeshlaw03.PrinterInverse': WHATEVER THE INPUT: true; the input reads as it did. -/
def printerInverseSpec : ChangeSpec := { name := "printerInverse", fn := fun _ => fun
  | [d] => { results := [.lit (.bool true)], args := [d] }
  | _ => none }
def printerInverseRow : OpenClaim := { program := "ytmdogklgbifacaadoor", sum := "2678d4ac1c31315901f0271f5e930bbb9bf62853579d304b4e2faa8fdb30fd3f", func := "slotmesh/slotmeshlaw03.PrinterInverse", spec := "printerInverse", inPlace := ["internal/abi.NoEscape"], unfollowed := true, recurses := true, named := ["slotmesh/printer.forms", "internal/strconv.uint64pow10", "math/bits.deBruijn32tab", "math/bits.deBruijn64tab", "strconv.ErrSyntax", "strconv.ErrRange"], apart := false, laid := [("math/bits.deBruijn32tab", laid_math_bits_deBruijn32tab), ("math/bits.deBruijn64tab", laid_math_bits_deBruijn64tab), ("internal/strconv.uint64pow10", laid_internal_strconv_uint64pow10), ("strconv.ErrRange", laid_strconv_ErrRange), ("strconv.ErrSyntax", laid_strconv_ErrSyntax), ("slotmesh/printer.forms", laid_slotmesh_printer_forms)] }
def PrinterInverseSaid : Prop := printerInverseRow.holds Tryd.pinned (OpenSpec.ofChange printerInverseSpec)

/-- ITS FALSE NEIGHBOUR: 'it returns false'. Refute it at one input. -/
def printerInverseWrong : ChangeSpec := { name := "printerInverse", fn := fun _ => fun
  | [d] => { results := [.lit (.bool false)], args := [d] }
  | _ => none }
def PrinterInverseWrongFalsely : Prop := printerInverseRow.holds Tryd.pinned (OpenSpec.ofChange printerInverseWrong)

/- THE SECOND FORM. 'bulk': how many values and letters a reading holds, each counted each time it is reached (what is shared counts as often as it is met; a slice's spare places count too). A statement '..UptoSaid' is the law's where the arguments, and the package variables that the reading takes, are together of bulk at most 1048576: NARROWER than '..Said'. Prove '..Said' where nothing that the law and all that it calls make is longer than what came in: it says more and counts as full. Else prove '..UptoSaid'. A law counts once. -/
mutual
def uptoBulk {H : Type} : DataW H → Nat
  | .lit (.string bytes) => bytes.length + 1
  | .lit _ => 1
  | .nil => 1
  | .ptr d => uptoBulk d + 1
  | .slice elems spare => uptoBulkAll elems + uptoBulkAll spare + 1
  | .agg parts => uptoBulkAll parts + 1
  | .iface _ d => uptoBulk d + 1
  | .map entries => uptoBulkEntries entries + 1
  | .held _ => 1
def uptoBulkAll {H : Type} : List (DataW H) → Nat
  | [] => 0
  | d :: r => uptoBulk d + uptoBulkAll r
def uptoBulkEntries {H : Type} : List (Lit × DataW H) → Nat
  | [] => 0
  | x :: r => uptoBulkEntry x + uptoBulkEntries r
def uptoBulkEntry {H : Type} : Lit × DataW H → Nat
  | (.string bytes, d) => bytes.length + uptoBulk d + 1
  | (_, d) => uptoBulk d + 1
 end
def uptoSmall : (H : Type) → List (DataW H) → Bool := fun _ ds => decide (uptoBulkAll ds ≤ 1048576)
def OpenSpec.upto (s : _root_.Go.ChangeSpec) : _root_.Go.OpenSpec := { _root_.Go.OpenSpec.ofChange s with cond := some uptoSmall }

/-- 'slotmeshlaw03.PrinterMatchesReference', WHERE WHAT IT READS IS OF BULK AT MOST 1048576: true; the input reads as it did. -/
def printerMatchesReferenceUptoRow : OpenClaim := { program := "ytmdogklgbifacaadoor", sum := "2678d4ac1c31315901f0271f5e930bbb9bf62853579d304b4e2faa8fdb30fd3f", func := "slotmesh/slotmeshlaw03.PrinterMatchesReference", spec := "printerMatchesReference", inPlace := ["internal/abi.NoEscape"], unfollowed := true, recurses := true, named := ["slotmesh/printer.forms", "internal/strconv.uint64pow10", "math/bits.deBruijn32tab", "math/bits.deBruijn64tab", "strconv.ErrSyntax", "strconv.ErrRange"], apart := false, laid := [("math/bits.deBruijn32tab", laid_math_bits_deBruijn32tab), ("math/bits.deBruijn64tab", laid_math_bits_deBruijn64tab), ("internal/strconv.uint64pow10", laid_internal_strconv_uint64pow10), ("strconv.ErrRange", laid_strconv_ErrRange), ("strconv.ErrSyntax", laid_strconv_ErrSyntax), ("slotmesh/printer.forms", laid_slotmesh_printer_forms)], narrowed := true }
def PrinterMatchesReferenceUptoSaid : Prop := printerMatchesReferenceUptoRow.holds Tryd.pinned (OpenSpec.upto printerMatchesReferenceSpec)

/-- 'slotmeshlaw03.PrinterJoins', WHERE WHAT IT READS IS OF BULK AT MOST 1048576: true; the input reads as it did. -/
def printerJoinsUptoRow : OpenClaim := { program := "ytmdogklgbifacaadoor", sum := "2678d4ac1c31315901f0271f5e930bbb9bf62853579d304b4e2faa8fdb30fd3f", func := "slotmesh/slotmeshlaw03.PrinterJoins", spec := "printerJoins", inPlace := ["internal/abi.NoEscape"], unfollowed := true, recurses := true, named := ["slotmesh/printer.forms", "internal/strconv.uint64pow10", "math/bits.deBruijn32tab", "math/bits.deBruijn64tab", "strconv.ErrSyntax", "strconv.ErrRange"], apart := false, laid := [("math/bits.deBruijn32tab", laid_math_bits_deBruijn32tab), ("math/bits.deBruijn64tab", laid_math_bits_deBruijn64tab), ("internal/strconv.uint64pow10", laid_internal_strconv_uint64pow10), ("strconv.ErrRange", laid_strconv_ErrRange), ("strconv.ErrSyntax", laid_strconv_ErrSyntax), ("slotmesh/printer.forms", laid_slotmesh_printer_forms)], narrowed := true }
def PrinterJoinsUptoSaid : Prop := printerJoinsUptoRow.holds Tryd.pinned (OpenSpec.upto printerJoinsSpec)

/-- 'slotmeshlaw03.PrinterParts', WHERE WHAT IT READS IS OF BULK AT MOST 1048576: true; the input reads as it did. -/
def printerPartsUptoRow : OpenClaim := { program := "ytmdogklgbifacaadoor", sum := "2678d4ac1c31315901f0271f5e930bbb9bf62853579d304b4e2faa8fdb30fd3f", func := "slotmesh/slotmeshlaw03.PrinterParts", spec := "printerParts", inPlace := ["internal/abi.NoEscape"], unfollowed := true, recurses := true, named := ["slotmesh/printer.forms", "internal/strconv.uint64pow10", "math/bits.deBruijn32tab", "math/bits.deBruijn64tab", "strconv.ErrSyntax", "strconv.ErrRange"], apart := false, laid := [("math/bits.deBruijn32tab", laid_math_bits_deBruijn32tab), ("math/bits.deBruijn64tab", laid_math_bits_deBruijn64tab), ("internal/strconv.uint64pow10", laid_internal_strconv_uint64pow10), ("strconv.ErrRange", laid_strconv_ErrRange), ("strconv.ErrSyntax", laid_strconv_ErrSyntax), ("slotmesh/printer.forms", laid_slotmesh_printer_forms)], narrowed := true }
def PrinterPartsUptoSaid : Prop := printerPartsUptoRow.holds Tryd.pinned (OpenSpec.upto printerPartsSpec)

/-- 'slotmeshlaw03.PrinterDiffers', WHERE WHAT IT READS IS OF BULK AT MOST 1048576: true; the input reads as it did. -/
def printerDiffersUptoRow : OpenClaim := { program := "ytmdogklgbifacaadoor", sum := "2678d4ac1c31315901f0271f5e930bbb9bf62853579d304b4e2faa8fdb30fd3f", func := "slotmesh/slotmeshlaw03.PrinterDiffers", spec := "printerDiffers", inPlace := ["internal/abi.NoEscape"], unfollowed := true, recurses := true, named := ["slotmesh/printer.forms", "internal/strconv.uint64pow10", "math/bits.deBruijn32tab", "math/bits.deBruijn64tab", "strconv.ErrSyntax", "strconv.ErrRange"], apart := false, laid := [("math/bits.deBruijn32tab", laid_math_bits_deBruijn32tab), ("math/bits.deBruijn64tab", laid_math_bits_deBruijn64tab), ("internal/strconv.uint64pow10", laid_internal_strconv_uint64pow10), ("strconv.ErrRange", laid_strconv_ErrRange), ("strconv.ErrSyntax", laid_strconv_ErrSyntax), ("slotmesh/printer.forms", laid_slotmesh_printer_forms)], narrowed := true }
def PrinterDiffersUptoSaid : Prop := printerDiffersUptoRow.holds Tryd.pinned (OpenSpec.upto printerDiffersSpec)

/-- 'slotmeshlaw03.PrinterCanonical', WHERE WHAT IT READS IS OF BULK AT MOST 1048576: true; the input reads as it did. -/
def printerCanonicalUptoRow : OpenClaim := { program := "ytmdogklgbifacaadoor", sum := "2678d4ac1c31315901f0271f5e930bbb9bf62853579d304b4e2faa8fdb30fd3f", func := "slotmesh/slotmeshlaw03.PrinterCanonical", spec := "printerCanonical", inPlace := ["internal/abi.NoEscape"], unfollowed := true, recurses := true, named := ["slotmesh/printer.forms", "internal/strconv.uint64pow10", "math/bits.deBruijn32tab", "math/bits.deBruijn64tab", "strconv.ErrSyntax", "strconv.ErrRange"], apart := false, laid := [("math/bits.deBruijn32tab", laid_math_bits_deBruijn32tab), ("math/bits.deBruijn64tab", laid_math_bits_deBruijn64tab), ("internal/strconv.uint64pow10", laid_internal_strconv_uint64pow10), ("strconv.ErrRange", laid_strconv_ErrRange), ("strconv.ErrSyntax", laid_strconv_ErrSyntax), ("slotmesh/printer.forms", laid_slotmesh_printer_forms)], narrowed := true }
def PrinterCanonicalUptoSaid : Prop := printerCanonicalUptoRow.holds Tryd.pinned (OpenSpec.upto printerCanonicalSpec)

/-- 'slotmeshlaw03.PrinterLines', WHERE WHAT IT READS IS OF BULK AT MOST 1048576: true; the input reads as it did. -/
def printerLinesUptoRow : OpenClaim := { program := "ytmdogklgbifacaadoor", sum := "2678d4ac1c31315901f0271f5e930bbb9bf62853579d304b4e2faa8fdb30fd3f", func := "slotmesh/slotmeshlaw03.PrinterLines", spec := "printerLines", inPlace := ["internal/abi.NoEscape"], unfollowed := true, recurses := true, named := ["slotmesh/printer.forms", "internal/strconv.uint64pow10", "math/bits.deBruijn32tab", "math/bits.deBruijn64tab", "strconv.ErrSyntax", "strconv.ErrRange"], apart := false, laid := [("math/bits.deBruijn32tab", laid_math_bits_deBruijn32tab), ("math/bits.deBruijn64tab", laid_math_bits_deBruijn64tab), ("internal/strconv.uint64pow10", laid_internal_strconv_uint64pow10), ("strconv.ErrRange", laid_strconv_ErrRange), ("strconv.ErrSyntax", laid_strconv_ErrSyntax), ("slotmesh/printer.forms", laid_slotmesh_printer_forms)], narrowed := true }
def PrinterLinesUptoSaid : Prop := printerLinesUptoRow.holds Tryd.pinned (OpenSpec.upto printerLinesSpec)

/-- 'slotmeshlaw03.PrinterInverse', WHERE WHAT IT READS IS OF BULK AT MOST 1048576: true; the input reads as it did. -/
def printerInverseUptoRow : OpenClaim := { program := "ytmdogklgbifacaadoor", sum := "2678d4ac1c31315901f0271f5e930bbb9bf62853579d304b4e2faa8fdb30fd3f", func := "slotmesh/slotmeshlaw03.PrinterInverse", spec := "printerInverse", inPlace := ["internal/abi.NoEscape"], unfollowed := true, recurses := true, named := ["slotmesh/printer.forms", "internal/strconv.uint64pow10", "math/bits.deBruijn32tab", "math/bits.deBruijn64tab", "strconv.ErrSyntax", "strconv.ErrRange"], apart := false, laid := [("math/bits.deBruijn32tab", laid_math_bits_deBruijn32tab), ("math/bits.deBruijn64tab", laid_math_bits_deBruijn64tab), ("internal/strconv.uint64pow10", laid_internal_strconv_uint64pow10), ("strconv.ErrRange", laid_strconv_ErrRange), ("strconv.ErrSyntax", laid_strconv_ErrSyntax), ("slotmesh/printer.forms", laid_slotmesh_printer_forms)], narrowed := true }
def PrinterInverseUptoSaid : Prop := printerInverseUptoRow.holds Tryd.pinned (OpenSpec.upto printerInverseSpec)

end Rows
end Go.Proofs.YtmdogklgbifacaaDoor
