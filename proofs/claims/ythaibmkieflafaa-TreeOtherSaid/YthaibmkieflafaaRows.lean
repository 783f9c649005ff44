/-
  No cell of these rows narrows 'for every input' (looked for: loops, veiled, ifaces, maps, wideKeys, modest, calm, conditions, laid).
  DERIVED. THE GIVEN ROWS OF THIS SEAT. 14 by the template 'for every input the law returns true; each argument reads behind the call as it read before'; 0 by the template 'total and deterministic' (their statements: YthaibmkieflafaaTotals.lean).
  GIVEN WITH THE SEED: the statements are not yours to turn. If you find one false, say at which input.
  Laid BY PROGRAM, IN A SANDBOX (cutbox-rows.mjs): the forced cells as the released guide's own fill.sh prints them over the translation b5edd3cd20e712af… (all of the seat's roots in one cut). By AI agents, Wed Nov 11 2026. No macro, syntax, notation, axiom, sorry.
-/
import Derived.Test.YthaibmkieflafaaChecked
import GoSem.Claim
import GoSem.ClaimJoined
import GoSem.ClaimMapViews
import Derived.JoinedTies
import Derived.KernelRfl
namespace Go.Proofs.Ythaibmkieflafaa
/- THE CELL 'sum', in the pinned program and in every row, IS THE sha256 OF THE DUMP (.gsa) THAT YthaibmkieflafaaProg.lean LOADS. Nothing in Lean hashes anything: it is a label: what it is worth is what the hold of that sum in a sandbox is worth. -/
noncomputable def Try.pinned : Pinned := { name := "ythaibmkieflafaa", sum := "b5edd3cd20e712af2bfa96c022b4a9656c8b785918b03aa3c69c5d7614a0d60a", checked := Try.checked }
namespace Rows
def none {H : Type} : Left H := { results := [], args := [] }

/-- 'slotmeshlaw05.DigestMatchesReference': WHATEVER THE INPUT: true; the input reads as it did. -/
def digestMatchesReferenceSpec : ChangeSpec := { name := "digestMatchesReference", fn := fun _ => fun
  | [d1, d2, d3] => { results := [.lit (.bool true)], args := [d1, d2, d3] }
  | _ => none }
def digestMatchesReferenceRow : OpenClaim := { program := "ythaibmkieflafaa", sum := "b5edd3cd20e712af2bfa96c022b4a9656c8b785918b03aa3c69c5d7614a0d60a", func := "slotmesh/slotmeshlaw05.DigestMatchesReference", spec := "digestMatchesReference", unfollowed := true, recurses := true, apart := false }
def DigestMatchesReferenceSaid : Prop := digestMatchesReferenceRow.holds Try.pinned (OpenSpec.ofChange digestMatchesReferenceSpec)

/-- ITS FALSE NEIGHBOUR: 'it returns false'. Refute it at one input. -/
def digestMatchesReferenceWrong : ChangeSpec := { name := "digestMatchesReference", fn := fun _ => fun
  | [d1, d2, d3] => { results := [.lit (.bool false)], args := [d1, d2, d3] }
  | _ => none }
def DigestMatchesReferenceWrongFalsely : Prop := digestMatchesReferenceRow.holds Try.pinned (OpenSpec.ofChange digestMatchesReferenceWrong)

/-- 'slotmeshlaw05.DigestParts': WHATEVER THE INPUT: true; the input reads as it did. -/
def digestPartsSpec : ChangeSpec := { name := "digestParts", fn := fun _ => fun
  | [d1, d2, d3] => { results := [.lit (.bool true)], args := [d1, d2, d3] }
  | _ => none }
def digestPartsRow : OpenClaim := { program := "ythaibmkieflafaa", sum := "b5edd3cd20e712af2bfa96c022b4a9656c8b785918b03aa3c69c5d7614a0d60a", func := "slotmesh/slotmeshlaw05.DigestParts", spec := "digestParts", unfollowed := true, recurses := true, apart := false }
def DigestPartsSaid : Prop := digestPartsRow.holds Try.pinned (OpenSpec.ofChange digestPartsSpec)

/-- ITS FALSE NEIGHBOUR: 'it returns false'. Refute it at one input. -/
def digestPartsWrong : ChangeSpec := { name := "digestParts", fn := fun _ => fun
  | [d1, d2, d3] => { results := [.lit (.bool false)], args := [d1, d2, d3] }
  | _ => none }
def DigestPartsWrongFalsely : Prop := digestPartsRow.holds Try.pinned (OpenSpec.ofChange digestPartsWrong)

/-- 'slotmeshlaw05.DigestByte': WHATEVER THE INPUT: true; the input reads as it did. -/
def digestByteSpec : ChangeSpec := { name := "digestByte", fn := fun _ => fun
  | [d1, d2, d3] => { results := [.lit (.bool true)], args := [d1, d2, d3] }
  | _ => none }
def digestByteRow : OpenClaim := { program := "ythaibmkieflafaa", sum := "b5edd3cd20e712af2bfa96c022b4a9656c8b785918b03aa3c69c5d7614a0d60a", func := "slotmesh/slotmeshlaw05.DigestByte", spec := "digestByte", unfollowed := true, recurses := true, apart := false }
def DigestByteSaid : Prop := digestByteRow.holds Try.pinned (OpenSpec.ofChange digestByteSpec)

/-- ITS FALSE NEIGHBOUR: 'it returns false'. Refute it at one input. -/
def digestByteWrong : ChangeSpec := { name := "digestByte", fn := fun _ => fun
  | [d1, d2, d3] => { results := [.lit (.bool false)], args := [d1, d2, d3] }
  | _ => none }
def DigestByteWrongFalsely : Prop := digestByteRow.holds Try.pinned (OpenSpec.ofChange digestByteWrong)

/-- 'slotmeshlaw05.DigestStates': WHATEVER THE INPUT: true; the input reads as it did. -/
def digestStatesSpec : ChangeSpec := { name := "digestStates", fn := fun _ => fun
  | [d1, d2, d3] => { results := [.lit (.bool true)], args := [d1, d2, d3] }
  | _ => none }
def digestStatesRow : OpenClaim := { program := "ythaibmkieflafaa", sum := "b5edd3cd20e712af2bfa96c022b4a9656c8b785918b03aa3c69c5d7614a0d60a", func := "slotmesh/slotmeshlaw05.DigestStates", spec := "digestStates", unfollowed := true, recurses := true, apart := false }
def DigestStatesSaid : Prop := digestStatesRow.holds Try.pinned (OpenSpec.ofChange digestStatesSpec)

/-- ITS FALSE NEIGHBOUR: 'it returns false'. Refute it at one input. -/
def digestStatesWrong : ChangeSpec := { name := "digestStates", fn := fun _ => fun
  | [d1, d2, d3] => { results := [.lit (.bool false)], args := [d1, d2, d3] }
  | _ => none }
def DigestStatesWrongFalsely : Prop := digestStatesRow.holds Try.pinned (OpenSpec.ofChange digestStatesWrong)

/-- 'slotmeshlaw05.DigestUndone': WHATEVER THE INPUT: true; the input reads as it did. -/
def digestUndoneSpec : ChangeSpec := { name := "digestUndone", fn := fun _ => fun
  | [d1, d2] => { results := [.lit (.bool true)], args := [d1, d2] }
  | _ => none }
def digestUndoneRow : OpenClaim := { program := "ythaibmkieflafaa", sum := "b5edd3cd20e712af2bfa96c022b4a9656c8b785918b03aa3c69c5d7614a0d60a", func := "slotmesh/slotmeshlaw05.DigestUndone", spec := "digestUndone", unfollowed := true, recurses := true, apart := false }
def DigestUndoneSaid : Prop := digestUndoneRow.holds Try.pinned (OpenSpec.ofChange digestUndoneSpec)

/-- ITS FALSE NEIGHBOUR: 'it returns false'. Refute it at one input. -/
def digestUndoneWrong : ChangeSpec := { name := "digestUndone", fn := fun _ => fun
  | [d1, d2] => { results := [.lit (.bool false)], args := [d1, d2] }
  | _ => none }
def DigestUndoneWrongFalsely : Prop := digestUndoneRow.holds Try.pinned (OpenSpec.ofChange digestUndoneWrong)

/-- 'slotmeshlaw05.DigestPairs': WHATEVER THE INPUT: true; the input reads as it did. -/
def digestPairsSpec : ChangeSpec := { name := "digestPairs", fn := fun _ => fun
  | [d1, d2, d3] => { results := [.lit (.bool true)], args := [d1, d2, d3] }
  | _ => none }
def digestPairsRow : OpenClaim := { program := "ythaibmkieflafaa", sum := "b5edd3cd20e712af2bfa96c022b4a9656c8b785918b03aa3c69c5d7614a0d60a", func := "slotmesh/slotmeshlaw05.DigestPairs", spec := "digestPairs", unfollowed := true, recurses := true, apart := false }
def DigestPairsSaid : Prop := digestPairsRow.holds Try.pinned (OpenSpec.ofChange digestPairsSpec)

/-- ITS FALSE NEIGHBOUR: 'it returns false'. Refute it at one input. -/
def digestPairsWrong : ChangeSpec := { name := "digestPairs", fn := fun _ => fun
  | [d1, d2, d3] => { results := [.lit (.bool false)], args := [d1, d2, d3] }
  | _ => none }
def DigestPairsWrongFalsely : Prop := digestPairsRow.holds Try.pinned (OpenSpec.ofChange digestPairsWrong)

/-- 'slotmeshlaw05.DigestMore': WHATEVER THE INPUT: true; the input reads as it did. -/
def digestMoreSpec : ChangeSpec := { name := "digestMore", fn := fun _ => fun
  | [d] => { results := [.lit (.bool true)], args := [d] }
  | _ => none }
def digestMoreRow : OpenClaim := { program := "ythaibmkieflafaa", sum := "b5edd3cd20e712af2bfa96c022b4a9656c8b785918b03aa3c69c5d7614a0d60a", func := "slotmesh/slotmeshlaw05.DigestMore", spec := "digestMore", unfollowed := true, recurses := true, apart := false }
def DigestMoreSaid : Prop := digestMoreRow.holds Try.pinned (OpenSpec.ofChange digestMoreSpec)

/-- ITS FALSE NEIGHBOUR: 'it returns false'. Refute it at one input. -/
def digestMoreWrong : ChangeSpec := { name := "digestMore", fn := fun _ => fun
  | [d] => { results := [.lit (.bool false)], args := [d] }
  | _ => none }
def DigestMoreWrongFalsely : Prop := digestMoreRow.holds Try.pinned (OpenSpec.ofChange digestMoreWrong)

/-- 'slotmeshlaw35.TreeMatchesReference': WHATEVER THE INPUT: true; the input reads as it did. -/
def treeMatchesReferenceSpec : ChangeSpec := { name := "treeMatchesReference", fn := fun _ => fun
  | [d1, d2, d3, d4, d5, d6] => { results := [.lit (.bool true)], args := [d1, d2, d3, d4, d5, d6] }
  | _ => none }
def treeMatchesReferenceRow : OpenClaim := { program := "ythaibmkieflafaa", sum := "b5edd3cd20e712af2bfa96c022b4a9656c8b785918b03aa3c69c5d7614a0d60a", func := "slotmesh/slotmeshlaw35.TreeMatchesReference", spec := "treeMatchesReference", unfollowed := true, recurses := true, apart := false }
def TreeMatchesReferenceSaid : Prop := treeMatchesReferenceRow.holds Try.pinned (OpenSpec.ofChange treeMatchesReferenceSpec)

/-- ITS FALSE NEIGHBOUR: 'it returns false'. Refute it at one input. -/
def treeMatchesReferenceWrong : ChangeSpec := { name := "treeMatchesReference", fn := fun _ => fun
  | [d1, d2, d3, d4, d5, d6] => { results := [.lit (.bool false)], args := [d1, d2, d3, d4, d5, d6] }
  | _ => none }
def TreeMatchesReferenceWrongFalsely : Prop := treeMatchesReferenceRow.holds Try.pinned (OpenSpec.ofChange treeMatchesReferenceWrong)

/-- 'slotmeshlaw35.TreeProofs': WHATEVER THE INPUT: true; the input reads as it did. -/
def treeProofsSpec : ChangeSpec := { name := "treeProofs", fn := fun _ => fun
  | [d] => { results := [.lit (.bool true)], args := [d] }
  | _ => none }
def treeProofsRow : OpenClaim := { program := "ythaibmkieflafaa", sum := "b5edd3cd20e712af2bfa96c022b4a9656c8b785918b03aa3c69c5d7614a0d60a", func := "slotmesh/slotmeshlaw35.TreeProofs", spec := "treeProofs", unfollowed := true, recurses := true, apart := false }
def TreeProofsSaid : Prop := treeProofsRow.holds Try.pinned (OpenSpec.ofChange treeProofsSpec)

/-- ITS FALSE NEIGHBOUR: 'it returns false'. Refute it at one input. -/
def treeProofsWrong : ChangeSpec := { name := "treeProofs", fn := fun _ => fun
  | [d] => { results := [.lit (.bool false)], args := [d] }
  | _ => none }
def TreeProofsWrongFalsely : Prop := treeProofsRow.holds Try.pinned (OpenSpec.ofChange treeProofsWrong)

/-- 'slotmeshlaw35.TreePages': WHATEVER THE INPUT: true; the input reads as it did. -/
def treePagesSpec : ChangeSpec := { name := "treePages", fn := fun _ => fun
  | [d1, d2, d3, d4] => { results := [.lit (.bool true)], args := [d1, d2, d3, d4] }
  | _ => none }
def treePagesRow : OpenClaim := { program := "ythaibmkieflafaa", sum := "b5edd3cd20e712af2bfa96c022b4a9656c8b785918b03aa3c69c5d7614a0d60a", func := "slotmesh/slotmeshlaw35.TreePages", spec := "treePages", unfollowed := true, recurses := true, apart := false }
def TreePagesSaid : Prop := treePagesRow.holds Try.pinned (OpenSpec.ofChange treePagesSpec)

/-- ITS FALSE NEIGHBOUR: 'it returns false'. Refute it at one input. -/
def treePagesWrong : ChangeSpec := { name := "treePages", fn := fun _ => fun
  | [d1, d2, d3, d4] => { results := [.lit (.bool false)], args := [d1, d2, d3, d4] }
  | _ => none }
def TreePagesWrongFalsely : Prop := treePagesRow.holds Try.pinned (OpenSpec.ofChange treePagesWrong)

/-- 'slotmeshlaw35.TreeOther': WHATEVER THE INPUT: true; the input reads as it did. -/
def treeOtherSpec : ChangeSpec := { name := "treeOther", fn := fun _ => fun
  | [d1, d2, d3, d4] => { results := [.lit (.bool true)], args := [d1, d2, d3, d4] }
  | _ => none }
def treeOtherRow : OpenClaim := { program := "ythaibmkieflafaa", sum := "b5edd3cd20e712af2bfa96c022b4a9656c8b785918b03aa3c69c5d7614a0d60a", func := "slotmesh/slotmeshlaw35.TreeOther", spec := "treeOther", unfollowed := true, recurses := true, apart := false }
def TreeOtherSaid : Prop := treeOtherRow.holds Try.pinned (OpenSpec.ofChange treeOtherSpec)

/-- ITS FALSE NEIGHBOUR: 'it returns false'. Refute it at one input. -/
def treeOtherWrong : ChangeSpec := { name := "treeOther", fn := fun _ => fun
  | [d1, d2, d3, d4] => { results := [.lit (.bool false)], args := [d1, d2, d3, d4] }
  | _ => none }
def TreeOtherWrongFalsely : Prop := treeOtherRow.holds Try.pinned (OpenSpec.ofChange treeOtherWrong)

/-- 'slotmeshlaw35.TreeOne': WHATEVER THE INPUT: true; the input reads as it did. -/
def treeOneSpec : ChangeSpec := { name := "treeOne", fn := fun _ => fun
  | [d1, d2, d3, d4, d5, d6, d7, d8] => { results := [.lit (.bool true)], args := [d1, d2, d3, d4, d5, d6, d7, d8] }
  | _ => none }
def treeOneRow : OpenClaim := { program := "ythaibmkieflafaa", sum := "b5edd3cd20e712af2bfa96c022b4a9656c8b785918b03aa3c69c5d7614a0d60a", func := "slotmesh/slotmeshlaw35.TreeOne", spec := "treeOne", unfollowed := true, recurses := true, apart := false }
def TreeOneSaid : Prop := treeOneRow.holds Try.pinned (OpenSpec.ofChange treeOneSpec)

/-- ITS FALSE NEIGHBOUR: 'it returns false'. Refute it at one input. -/
def treeOneWrong : ChangeSpec := { name := "treeOne", fn := fun _ => fun
  | [d1, d2, d3, d4, d5, d6, d7, d8] => { results := [.lit (.bool false)], args := [d1, d2, d3, d4, d5, d6, d7, d8] }
  | _ => none }
def TreeOneWrongFalsely : Prop := treeOneRow.holds Try.pinned (OpenSpec.ofChange treeOneWrong)

/-- 'slotmeshlaw35.TreeLength': WHATEVER THE INPUT: true; the input reads as it did. -/
def treeLengthSpec : ChangeSpec := { name := "treeLength", fn := fun _ => fun
  | [d1, d2] => { results := [.lit (.bool true)], args := [d1, d2] }
  | _ => none }
def treeLengthRow : OpenClaim := { program := "ythaibmkieflafaa", sum := "b5edd3cd20e712af2bfa96c022b4a9656c8b785918b03aa3c69c5d7614a0d60a", func := "slotmesh/slotmeshlaw35.TreeLength", spec := "treeLength", unfollowed := true, recurses := true, apart := false }
def TreeLengthSaid : Prop := treeLengthRow.holds Try.pinned (OpenSpec.ofChange treeLengthSpec)

/-- ITS FALSE NEIGHBOUR: 'it returns false'. Refute it at one input. -/
def treeLengthWrong : ChangeSpec := { name := "treeLength", fn := fun _ => fun
  | [d1, d2] => { results := [.lit (.bool false)], args := [d1, d2] }
  | _ => none }
def TreeLengthWrongFalsely : Prop := treeLengthRow.holds Try.pinned (OpenSpec.ofChange treeLengthWrong)

/-- 'slotmeshlaw35.TreeParts': WHATEVER THE INPUT: true; the input reads as it did. -/
def treePartsSpec : ChangeSpec := { name := "treeParts", fn := fun _ => fun
  | [d1, d2] => { results := [.lit (.bool true)], args := [d1, d2] }
  | _ => none }
def treePartsRow : OpenClaim := { program := "ythaibmkieflafaa", sum := "b5edd3cd20e712af2bfa96c022b4a9656c8b785918b03aa3c69c5d7614a0d60a", func := "slotmesh/slotmeshlaw35.TreeParts", spec := "treeParts", unfollowed := true, recurses := true, apart := false }
def TreePartsSaid : Prop := treePartsRow.holds Try.pinned (OpenSpec.ofChange treePartsSpec)

/-- ITS FALSE NEIGHBOUR: 'it returns false'. Refute it at one input. -/
def treePartsWrong : ChangeSpec := { name := "treeParts", fn := fun _ => fun
  | [d1, d2] => { results := [.lit (.bool false)], args := [d1, d2] }
  | _ => none }
def TreePartsWrongFalsely : Prop := treePartsRow.holds Try.pinned (OpenSpec.ofChange treePartsWrong)

/- THE SECOND FORM. 'bulk': how many values and letters a reading holds, each counted each time it is reached (what is shared counts as often as it is met; a slice's spare places count too). A statement '..UptoSaid' is the law's where the arguments, and the package variables that the reading takes, are together of bulk at most 1048576: NARROWER than '..Said'. Prove '..Said' where nothing that the law and all that it calls make is longer than what came in: it says more and counts as full. Else prove '..UptoSaid'. A law counts once. -/
mutual
def uptoBulk {H : Type} : DataW H → Nat
  | .lit (.string bytes) => bytes.length + 1
  | .lit _ => 1
  | .nil => 1
  | .ptr d => uptoBulk d + 1
  | .slice elems spare => uptoBulkAll elems + uptoBulkAll spare + 1
  | .agg parts => uptoBulkAll parts + 1
  | .iface _ d => uptoBulk d + 1
  | .map entries => uptoBulkEntries entries + 1
  | .held _ => 1
def uptoBulkAll {H : Type} : List (DataW H) → Nat
  | [] => 0
  | d :: r => uptoBulk d + uptoBulkAll r
def uptoBulkEntries {H : Type} : List (Lit × DataW H) → Nat
  | [] => 0
  | x :: r => uptoBulkEntry x + uptoBulkEntries r
def uptoBulkEntry {H : Type} : Lit × DataW H → Nat
  | (.string bytes, d) => bytes.length + uptoBulk d + 1
  | (_, d) => uptoBulk d + 1
 end
def uptoSmall : (H : Type) → List (DataW H) → Bool := fun _ ds => decide (uptoBulkAll ds ≤ 1048576)
def OpenSpec.upto (s : _root_.Go.ChangeSpec) : _root_.Go.OpenSpec := { _root_.Go.OpenSpec.ofChange s with cond := some uptoSmall }

/-- 'slotmeshlaw05.DigestMatchesReference', WHERE WHAT IT READS IS OF BULK AT MOST 1048576: true; the input reads as it did. -/
def digestMatchesReferenceUptoRow : OpenClaim := { program := "ythaibmkieflafaa", sum := "b5edd3cd20e712af2bfa96c022b4a9656c8b785918b03aa3c69c5d7614a0d60a", func := "slotmesh/slotmeshlaw05.DigestMatchesReference", spec := "digestMatchesReference", unfollowed := true, recurses := true, apart := false, narrowed := true }
def DigestMatchesReferenceUptoSaid : Prop := digestMatchesReferenceUptoRow.holds Try.pinned (OpenSpec.upto digestMatchesReferenceSpec)

/-- 'slotmeshlaw05.DigestParts', WHERE WHAT IT READS IS OF BULK AT MOST 1048576: true; the input reads as it did. -/
def digestPartsUptoRow : OpenClaim := { program := "ythaibmkieflafaa", sum := "b5edd3cd20e712af2bfa96c022b4a9656c8b785918b03aa3c69c5d7614a0d60a", func := "slotmesh/slotmeshlaw05.DigestParts", spec := "digestParts", unfollowed := true, recurses := true, apart := false, narrowed := true }
def DigestPartsUptoSaid : Prop := digestPartsUptoRow.holds Try.pinned (OpenSpec.upto digestPartsSpec)

/-- 'slotmeshlaw05.DigestByte', WHERE WHAT IT READS IS OF BULK AT MOST 1048576: true; the input reads as it did. -/
def digestByteUptoRow : OpenClaim := { program := "ythaibmkieflafaa", sum := "b5edd3cd20e712af2bfa96c022b4a9656c8b785918b03aa3c69c5d7614a0d60a", func := "slotmesh/slotmeshlaw05.DigestByte", spec := "digestByte", unfollowed := true, recurses := true, apart := false, narrowed := true }
def DigestByteUptoSaid : Prop := digestByteUptoRow.holds Try.pinned (OpenSpec.upto digestByteSpec)

/-- 'slotmeshlaw05.DigestStates', WHERE WHAT IT READS IS OF BULK AT MOST 1048576: true; the input reads as it did. -/
def digestStatesUptoRow : OpenClaim := { program := "ythaibmkieflafaa", sum := "b5edd3cd20e712af2bfa96c022b4a9656c8b785918b03aa3c69c5d7614a0d60a", func := "slotmesh/slotmeshlaw05.DigestStates", spec := "digestStates", unfollowed := true, recurses := true, apart := false, narrowed := true }
def DigestStatesUptoSaid : Prop := digestStatesUptoRow.holds Try.pinned (OpenSpec.upto digestStatesSpec)

/-- 'slotmeshlaw05.DigestUndone', WHERE WHAT IT READS IS OF BULK AT MOST 1048576: true; the input reads as it did. -/
def digestUndoneUptoRow : OpenClaim := { program := "ythaibmkieflafaa", sum := "b5edd3cd20e712af2bfa96c022b4a9656c8b785918b03aa3c69c5d7614a0d60a", func := "slotmesh/slotmeshlaw05.DigestUndone", spec := "digestUndone", unfollowed := true, recurses := true, apart := false, narrowed := true }
def DigestUndoneUptoSaid : Prop := digestUndoneUptoRow.holds Try.pinned (OpenSpec.upto digestUndoneSpec)

/-- 'slotmeshlaw05.DigestPairs', WHERE WHAT IT READS IS OF BULK AT MOST 1048576: true; the input reads as it did. -/
def digestPairsUptoRow : OpenClaim := { program := "ythaibmkieflafaa", sum := "b5edd3cd20e712af2bfa96c022b4a9656c8b785918b03aa3c69c5d7614a0d60a", func := "slotmesh/slotmeshlaw05.DigestPairs", spec := "digestPairs", unfollowed := true, recurses := true, apart := false, narrowed := true }
def DigestPairsUptoSaid : Prop := digestPairsUptoRow.holds Try.pinned (OpenSpec.upto digestPairsSpec)

/-- 'slotmeshlaw05.DigestMore', WHERE WHAT IT READS IS OF BULK AT MOST 1048576: true; the input reads as it did. -/
def digestMoreUptoRow : OpenClaim := { program := "ythaibmkieflafaa", sum := "b5edd3cd20e712af2bfa96c022b4a9656c8b785918b03aa3c69c5d7614a0d60a", func := "slotmesh/slotmeshlaw05.DigestMore", spec := "digestMore", unfollowed := true, recurses := true, apart := false, narrowed := true }
def DigestMoreUptoSaid : Prop := digestMoreUptoRow.holds Try.pinned (OpenSpec.upto digestMoreSpec)

/-- 'slotmeshlaw35.TreeMatchesReference', WHERE WHAT IT READS IS OF BULK AT MOST 1048576: true; the input reads as it did. -/
def treeMatchesReferenceUptoRow : OpenClaim := { program := "ythaibmkieflafaa", sum := "b5edd3cd20e712af2bfa96c022b4a9656c8b785918b03aa3c69c5d7614a0d60a", func := "slotmesh/slotmeshlaw35.TreeMatchesReference", spec := "treeMatchesReference", unfollowed := true, recurses := true, apart := false, narrowed := true }
def TreeMatchesReferenceUptoSaid : Prop := treeMatchesReferenceUptoRow.holds Try.pinned (OpenSpec.upto treeMatchesReferenceSpec)

/-- 'slotmeshlaw35.TreeProofs', WHERE WHAT IT READS IS OF BULK AT MOST 1048576: true; the input reads as it did. -/
def treeProofsUptoRow : OpenClaim := { program := "ythaibmkieflafaa", sum := "b5edd3cd20e712af2bfa96c022b4a9656c8b785918b03aa3c69c5d7614a0d60a", func := "slotmesh/slotmeshlaw35.TreeProofs", spec := "treeProofs", unfollowed := true, recurses := true, apart := false, narrowed := true }
def TreeProofsUptoSaid : Prop := treeProofsUptoRow.holds Try.pinned (OpenSpec.upto treeProofsSpec)

/-- 'slotmeshlaw35.TreePages', WHERE WHAT IT READS IS OF BULK AT MOST 1048576: true; the input reads as it did. -/
def treePagesUptoRow : OpenClaim := { program := "ythaibmkieflafaa", sum := "b5edd3cd20e712af2bfa96c022b4a9656c8b785918b03aa3c69c5d7614a0d60a", func := "slotmesh/slotmeshlaw35.TreePages", spec := "treePages", unfollowed := true, recurses := true, apart := false, narrowed := true }
def TreePagesUptoSaid : Prop := treePagesUptoRow.holds Try.pinned (OpenSpec.upto treePagesSpec)

/-- 'slotmeshlaw35.TreeOther', WHERE WHAT IT READS IS OF BULK AT MOST 1048576: true; the input reads as it did. -/
def treeOtherUptoRow : OpenClaim := { program := "ythaibmkieflafaa", sum := "b5edd3cd20e712af2bfa96c022b4a9656c8b785918b03aa3c69c5d7614a0d60a", func := "slotmesh/slotmeshlaw35.TreeOther", spec := "treeOther", unfollowed := true, recurses := true, apart := false, narrowed := true }
def TreeOtherUptoSaid : Prop := treeOtherUptoRow.holds Try.pinned (OpenSpec.upto treeOtherSpec)

/-- 'slotmeshlaw35.TreeOne', WHERE WHAT IT READS IS OF BULK AT MOST 1048576: true; the input reads as it did. -/
def treeOneUptoRow : OpenClaim := { program := "ythaibmkieflafaa", sum := "b5edd3cd20e712af2bfa96c022b4a9656c8b785918b03aa3c69c5d7614a0d60a", func := "slotmesh/slotmeshlaw35.TreeOne", spec := "treeOne", unfollowed := true, recurses := true, apart := false, narrowed := true }
def TreeOneUptoSaid : Prop := treeOneUptoRow.holds Try.pinned (OpenSpec.upto treeOneSpec)

/-- 'slotmeshlaw35.TreeLength', WHERE WHAT IT READS IS OF BULK AT MOST 1048576: true; the input reads as it did. -/
def treeLengthUptoRow : OpenClaim := { program := "ythaibmkieflafaa", sum := "b5edd3cd20e712af2bfa96c022b4a9656c8b785918b03aa3c69c5d7614a0d60a", func := "slotmesh/slotmeshlaw35.TreeLength", spec := "treeLength", unfollowed := true, recurses := true, apart := false, narrowed := true }
def TreeLengthUptoSaid : Prop := treeLengthUptoRow.holds Try.pinned (OpenSpec.upto treeLengthSpec)

/-- 'slotmeshlaw35.TreeParts', WHERE WHAT IT READS IS OF BULK AT MOST 1048576: true; the input reads as it did. -/
def treePartsUptoRow : OpenClaim := { program := "ythaibmkieflafaa", sum := "b5edd3cd20e712af2bfa96c022b4a9656c8b785918b03aa3c69c5d7614a0d60a", func := "slotmesh/slotmeshlaw35.TreeParts", spec := "treeParts", unfollowed := true, recurses := true, apart := false, narrowed := true }
def TreePartsUptoSaid : Prop := treePartsUptoRow.holds Try.pinned (OpenSpec.upto treePartsSpec)

end Rows
end Go.Proofs.Ythaibmkieflafaa
