/-
  No cell of these rows narrows 'for every input' (looked for: loops, veiled, ifaces, maps, wideKeys, modest, calm, conditions, laid).
  DERIVED. THE GIVEN ROWS OF THIS SEAT. 14 by the template 'for every input the law returns true; each argument reads behind the call as it read before'; 0 by the template 'total and deterministic' (their statements: YteeloebhjmmpdaaTotals.lean).
  GIVEN WITH THE SEED: the statements are not yours to turn. If you find one false, say at which input.
  Laid BY PROGRAM, IN A SANDBOX (cutbox-rows.mjs): the forced cells as the released guide's own fill.sh prints them over the translation 87b7a7720114f65d… (all of the seat's roots in one cut). By AI agents, Wed Nov 11 2026. No macro, syntax, notation, axiom, sorry.
-/
import Derived.Test.YteeloebhjmmpdaaChecked
import GoSem.Claim
import GoSem.ClaimJoined
import GoSem.ClaimMapViews
import Derived.JoinedTies
import Derived.KernelRfl
namespace Go.Proofs.Yteeloebhjmmpdaa
/- THE CELL 'sum', in the pinned program and in every row, IS THE sha256 OF THE DUMP (.gsa) THAT YteeloebhjmmpdaaProg.lean LOADS. Nothing in Lean hashes anything: it is a label: what it is worth is what the hold of that sum in a sandbox is worth. -/
noncomputable def Try.pinned : Pinned := { name := "yteeloebhjmmpdaa", sum := "87b7a7720114f65d6dfca05b94c71122743f25ef2d35cd88f1946777b05813ad", checked := Try.checked }
namespace Rows
def none {H : Type} : Left H := { results := [], args := [] }

/-- 'slotmeshlaw16.PlaneMatchesReference': WHATEVER THE INPUT: true; the input reads as it did. -/
def planeMatchesReferenceSpec : ChangeSpec := { name := "planeMatchesReference", fn := fun _ => fun
  | [d1, d2, d3, d4, d5, d6, d7] => { results := [.lit (.bool true)], args := [d1, d2, d3, d4, d5, d6, d7] }
  | _ => none }
def planeMatchesReferenceRow : OpenClaim := { program := "yteeloebhjmmpdaa", sum := "87b7a7720114f65d6dfca05b94c71122743f25ef2d35cd88f1946777b05813ad", func := "slotmesh/slotmeshlaw16.PlaneMatchesReference", spec := "planeMatchesReference", unfollowed := true, recurses := true, apart := false }
def PlaneMatchesReferenceSaid : Prop := planeMatchesReferenceRow.holds Try.pinned (OpenSpec.ofChange planeMatchesReferenceSpec)

/-- ITS FALSE NEIGHBOUR: 'it returns false'. Refute it at one input. -/
def planeMatchesReferenceWrong : ChangeSpec := { name := "planeMatchesReference", fn := fun _ => fun
  | [d1, d2, d3, d4, d5, d6, d7] => { results := [.lit (.bool false)], args := [d1, d2, d3, d4, d5, d6, d7] }
  | _ => none }
def PlaneMatchesReferenceWrongFalsely : Prop := planeMatchesReferenceRow.holds Try.pinned (OpenSpec.ofChange planeMatchesReferenceWrong)

/-- 'slotmeshlaw16.PlaneSymmetry': WHATEVER THE INPUT: true; the input reads as it did. -/
def planeSymmetrySpec : ChangeSpec := { name := "planeSymmetry", fn := fun _ => fun
  | [d1, d2] => { results := [.lit (.bool true)], args := [d1, d2] }
  | _ => none }
def planeSymmetryRow : OpenClaim := { program := "yteeloebhjmmpdaa", sum := "87b7a7720114f65d6dfca05b94c71122743f25ef2d35cd88f1946777b05813ad", func := "slotmesh/slotmeshlaw16.PlaneSymmetry", spec := "planeSymmetry", unfollowed := true, recurses := true, apart := false }
def PlaneSymmetrySaid : Prop := planeSymmetryRow.holds Try.pinned (OpenSpec.ofChange planeSymmetrySpec)

/-- ITS FALSE NEIGHBOUR: 'it returns false'. Refute it at one input. -/
def planeSymmetryWrong : ChangeSpec := { name := "planeSymmetry", fn := fun _ => fun
  | [d1, d2] => { results := [.lit (.bool false)], args := [d1, d2] }
  | _ => none }
def PlaneSymmetryWrongFalsely : Prop := planeSymmetryRow.holds Try.pinned (OpenSpec.ofChange planeSymmetryWrong)

/-- 'slotmeshlaw16.PlaneRadius': WHATEVER THE INPUT: true; the input reads as it did. -/
def planeRadiusSpec : ChangeSpec := { name := "planeRadius", fn := fun _ => fun
  | [d1, d2, d3, d4] => { results := [.lit (.bool true)], args := [d1, d2, d3, d4] }
  | _ => none }
def planeRadiusRow : OpenClaim := { program := "yteeloebhjmmpdaa", sum := "87b7a7720114f65d6dfca05b94c71122743f25ef2d35cd88f1946777b05813ad", func := "slotmesh/slotmeshlaw16.PlaneRadius", spec := "planeRadius", unfollowed := true, recurses := true, apart := false }
def PlaneRadiusSaid : Prop := planeRadiusRow.holds Try.pinned (OpenSpec.ofChange planeRadiusSpec)

/-- ITS FALSE NEIGHBOUR: 'it returns false'. Refute it at one input. -/
def planeRadiusWrong : ChangeSpec := { name := "planeRadius", fn := fun _ => fun
  | [d1, d2, d3, d4] => { results := [.lit (.bool false)], args := [d1, d2, d3, d4] }
  | _ => none }
def PlaneRadiusWrongFalsely : Prop := planeRadiusRow.holds Try.pinned (OpenSpec.ofChange planeRadiusWrong)

/-- 'slotmeshlaw16.PlaneTriangle': WHATEVER THE INPUT: true; the input reads as it did. -/
def planeTriangleSpec : ChangeSpec := { name := "planeTriangle", fn := fun _ => fun
  | [d1, d2, d3, d4, d5] => { results := [.lit (.bool true)], args := [d1, d2, d3, d4, d5] }
  | _ => none }
def planeTriangleRow : OpenClaim := { program := "yteeloebhjmmpdaa", sum := "87b7a7720114f65d6dfca05b94c71122743f25ef2d35cd88f1946777b05813ad", func := "slotmesh/slotmeshlaw16.PlaneTriangle", spec := "planeTriangle", unfollowed := true, recurses := true, apart := false }
def PlaneTriangleSaid : Prop := planeTriangleRow.holds Try.pinned (OpenSpec.ofChange planeTriangleSpec)

/-- ITS FALSE NEIGHBOUR: 'it returns false'. Refute it at one input. -/
def planeTriangleWrong : ChangeSpec := { name := "planeTriangle", fn := fun _ => fun
  | [d1, d2, d3, d4, d5] => { results := [.lit (.bool false)], args := [d1, d2, d3, d4, d5] }
  | _ => none }
def PlaneTriangleWrongFalsely : Prop := planeTriangleRow.holds Try.pinned (OpenSpec.ofChange planeTriangleWrong)

/-- 'slotmeshlaw16.PlaneMoving': WHATEVER THE INPUT: true; the input reads as it did. -/
def planeMovingSpec : ChangeSpec := { name := "planeMoving", fn := fun _ => fun
  | [d1, d2, d3, d4] => { results := [.lit (.bool true)], args := [d1, d2, d3, d4] }
  | _ => none }
def planeMovingRow : OpenClaim := { program := "yteeloebhjmmpdaa", sum := "87b7a7720114f65d6dfca05b94c71122743f25ef2d35cd88f1946777b05813ad", func := "slotmesh/slotmeshlaw16.PlaneMoving", spec := "planeMoving", unfollowed := true, recurses := true, apart := false }
def PlaneMovingSaid : Prop := planeMovingRow.holds Try.pinned (OpenSpec.ofChange planeMovingSpec)

/-- ITS FALSE NEIGHBOUR: 'it returns false'. Refute it at one input. -/
def planeMovingWrong : ChangeSpec := { name := "planeMoving", fn := fun _ => fun
  | [d1, d2, d3, d4] => { results := [.lit (.bool false)], args := [d1, d2, d3, d4] }
  | _ => none }
def PlaneMovingWrongFalsely : Prop := planeMovingRow.holds Try.pinned (OpenSpec.ofChange planeMovingWrong)

/-- 'slotmeshlaw16.PlaneOthers': WHATEVER THE INPUT: true; the input reads as it did. -/
def planeOthersSpec : ChangeSpec := { name := "planeOthers", fn := fun _ => fun
  | [d1, d2] => { results := [.lit (.bool true)], args := [d1, d2] }
  | _ => none }
def planeOthersRow : OpenClaim := { program := "yteeloebhjmmpdaa", sum := "87b7a7720114f65d6dfca05b94c71122743f25ef2d35cd88f1946777b05813ad", func := "slotmesh/slotmeshlaw16.PlaneOthers", spec := "planeOthers", unfollowed := true, recurses := true, apart := false }
def PlaneOthersSaid : Prop := planeOthersRow.holds Try.pinned (OpenSpec.ofChange planeOthersSpec)

/-- ITS FALSE NEIGHBOUR: 'it returns false'. Refute it at one input. -/
def planeOthersWrong : ChangeSpec := { name := "planeOthers", fn := fun _ => fun
  | [d1, d2] => { results := [.lit (.bool false)], args := [d1, d2] }
  | _ => none }
def PlaneOthersWrongFalsely : Prop := planeOthersRow.holds Try.pinned (OpenSpec.ofChange planeOthersWrong)

/-- 'slotmeshlaw16.PlaneJammers': WHATEVER THE INPUT: true; the input reads as it did. -/
def planeJammersSpec : ChangeSpec := { name := "planeJammers", fn := fun _ => fun
  | [d1, d2, d3, d4] => { results := [.lit (.bool true)], args := [d1, d2, d3, d4] }
  | _ => none }
def planeJammersRow : OpenClaim := { program := "yteeloebhjmmpdaa", sum := "87b7a7720114f65d6dfca05b94c71122743f25ef2d35cd88f1946777b05813ad", func := "slotmesh/slotmeshlaw16.PlaneJammers", spec := "planeJammers", unfollowed := true, recurses := true, apart := false }
def PlaneJammersSaid : Prop := planeJammersRow.holds Try.pinned (OpenSpec.ofChange planeJammersSpec)

/-- ITS FALSE NEIGHBOUR: 'it returns false'. Refute it at one input. -/
def planeJammersWrong : ChangeSpec := { name := "planeJammers", fn := fun _ => fun
  | [d1, d2, d3, d4] => { results := [.lit (.bool false)], args := [d1, d2, d3, d4] }
  | _ => none }
def PlaneJammersWrongFalsely : Prop := planeJammersRow.holds Try.pinned (OpenSpec.ofChange planeJammersWrong)

/-- 'slotmeshlaw17.MediumMatchesReference': WHATEVER THE INPUT: true; the input reads as it did. -/
def mediumMatchesReferenceSpec : ChangeSpec := { name := "mediumMatchesReference", fn := fun _ => fun
  | [d1, d2, d3, d4, d5] => { results := [.lit (.bool true)], args := [d1, d2, d3, d4, d5] }
  | _ => none }
def mediumMatchesReferenceRow : OpenClaim := { program := "yteeloebhjmmpdaa", sum := "87b7a7720114f65d6dfca05b94c71122743f25ef2d35cd88f1946777b05813ad", func := "slotmesh/slotmeshlaw17.MediumMatchesReference", spec := "mediumMatchesReference", unfollowed := true, recurses := true, apart := false }
def MediumMatchesReferenceSaid : Prop := mediumMatchesReferenceRow.holds Try.pinned (OpenSpec.ofChange mediumMatchesReferenceSpec)

/-- ITS FALSE NEIGHBOUR: 'it returns false'. Refute it at one input. -/
def mediumMatchesReferenceWrong : ChangeSpec := { name := "mediumMatchesReference", fn := fun _ => fun
  | [d1, d2, d3, d4, d5] => { results := [.lit (.bool false)], args := [d1, d2, d3, d4, d5] }
  | _ => none }
def MediumMatchesReferenceWrongFalsely : Prop := mediumMatchesReferenceRow.holds Try.pinned (OpenSpec.ofChange mediumMatchesReferenceWrong)

/-- 'slotmeshlaw17.MediumCaught': WHATEVER THE INPUT: true; the input reads as it did. -/
def mediumCaughtSpec : ChangeSpec := { name := "mediumCaught", fn := fun _ => fun
  | [d1, d2, d3, d4, d5] => { results := [.lit (.bool true)], args := [d1, d2, d3, d4, d5] }
  | _ => none }
def mediumCaughtRow : OpenClaim := { program := "yteeloebhjmmpdaa", sum := "87b7a7720114f65d6dfca05b94c71122743f25ef2d35cd88f1946777b05813ad", func := "slotmesh/slotmeshlaw17.MediumCaught", spec := "mediumCaught", unfollowed := true, recurses := true, apart := false }
def MediumCaughtSaid : Prop := mediumCaughtRow.holds Try.pinned (OpenSpec.ofChange mediumCaughtSpec)

/-- ITS FALSE NEIGHBOUR: 'it returns false'. Refute it at one input. -/
def mediumCaughtWrong : ChangeSpec := { name := "mediumCaught", fn := fun _ => fun
  | [d1, d2, d3, d4, d5] => { results := [.lit (.bool false)], args := [d1, d2, d3, d4, d5] }
  | _ => none }
def MediumCaughtWrongFalsely : Prop := mediumCaughtRow.holds Try.pinned (OpenSpec.ofChange mediumCaughtWrong)

/-- 'slotmeshlaw17.MediumAlone': WHATEVER THE INPUT: true; the input reads as it did. -/
def mediumAloneSpec : ChangeSpec := { name := "mediumAlone", fn := fun _ => fun
  | [d1, d2, d3, d4, d5] => { results := [.lit (.bool true)], args := [d1, d2, d3, d4, d5] }
  | _ => none }
def mediumAloneRow : OpenClaim := { program := "yteeloebhjmmpdaa", sum := "87b7a7720114f65d6dfca05b94c71122743f25ef2d35cd88f1946777b05813ad", func := "slotmesh/slotmeshlaw17.MediumAlone", spec := "mediumAlone", unfollowed := true, recurses := true, apart := false }
def MediumAloneSaid : Prop := mediumAloneRow.holds Try.pinned (OpenSpec.ofChange mediumAloneSpec)

/-- ITS FALSE NEIGHBOUR: 'it returns false'. Refute it at one input. -/
def mediumAloneWrong : ChangeSpec := { name := "mediumAlone", fn := fun _ => fun
  | [d1, d2, d3, d4, d5] => { results := [.lit (.bool false)], args := [d1, d2, d3, d4, d5] }
  | _ => none }
def MediumAloneWrongFalsely : Prop := mediumAloneRow.holds Try.pinned (OpenSpec.ofChange mediumAloneWrong)

/-- 'slotmeshlaw17.MediumMore': WHATEVER THE INPUT: true; the input reads as it did. -/
def mediumMoreSpec : ChangeSpec := { name := "mediumMore", fn := fun _ => fun
  | [d1, d2, d3, d4, d5, d6, d7] => { results := [.lit (.bool true)], args := [d1, d2, d3, d4, d5, d6, d7] }
  | _ => none }
def mediumMoreRow : OpenClaim := { program := "yteeloebhjmmpdaa", sum := "87b7a7720114f65d6dfca05b94c71122743f25ef2d35cd88f1946777b05813ad", func := "slotmesh/slotmeshlaw17.MediumMore", spec := "mediumMore", unfollowed := true, recurses := true, apart := false }
def MediumMoreSaid : Prop := mediumMoreRow.holds Try.pinned (OpenSpec.ofChange mediumMoreSpec)

/-- ITS FALSE NEIGHBOUR: 'it returns false'. Refute it at one input. -/
def mediumMoreWrong : ChangeSpec := { name := "mediumMore", fn := fun _ => fun
  | [d1, d2, d3, d4, d5, d6, d7] => { results := [.lit (.bool false)], args := [d1, d2, d3, d4, d5, d6, d7] }
  | _ => none }
def MediumMoreWrongFalsely : Prop := mediumMoreRow.holds Try.pinned (OpenSpec.ofChange mediumMoreWrong)

/-- 'slotmeshlaw17.MediumChannels': WHATEVER THE INPUT: true; the input reads as it did. -/
def mediumChannelsSpec : ChangeSpec := { name := "mediumChannels", fn := fun _ => fun
  | [d1, d2, d3, d4, d5, d6] => { results := [.lit (.bool true)], args := [d1, d2, d3, d4, d5, d6] }
  | _ => none }
def mediumChannelsRow : OpenClaim := { program := "yteeloebhjmmpdaa", sum := "87b7a7720114f65d6dfca05b94c71122743f25ef2d35cd88f1946777b05813ad", func := "slotmesh/slotmeshlaw17.MediumChannels", spec := "mediumChannels", unfollowed := true, recurses := true, apart := false }
def MediumChannelsSaid : Prop := mediumChannelsRow.holds Try.pinned (OpenSpec.ofChange mediumChannelsSpec)

/-- ITS FALSE NEIGHBOUR: 'it returns false'. Refute it at one input. -/
def mediumChannelsWrong : ChangeSpec := { name := "mediumChannels", fn := fun _ => fun
  | [d1, d2, d3, d4, d5, d6] => { results := [.lit (.bool false)], args := [d1, d2, d3, d4, d5, d6] }
  | _ => none }
def MediumChannelsWrongFalsely : Prop := mediumChannelsRow.holds Try.pinned (OpenSpec.ofChange mediumChannelsWrong)

/-- 'slotmeshlaw17.MediumJams': WHATEVER THE INPUT: true; the input reads as it did. -/
def mediumJamsSpec : ChangeSpec := { name := "mediumJams", fn := fun _ => fun
  | [d1, d2, d3, d4, d5, d6] => { results := [.lit (.bool true)], args := [d1, d2, d3, d4, d5, d6] }
  | _ => none }
def mediumJamsRow : OpenClaim := { program := "yteeloebhjmmpdaa", sum := "87b7a7720114f65d6dfca05b94c71122743f25ef2d35cd88f1946777b05813ad", func := "slotmesh/slotmeshlaw17.MediumJams", spec := "mediumJams", unfollowed := true, recurses := true, apart := false }
def MediumJamsSaid : Prop := mediumJamsRow.holds Try.pinned (OpenSpec.ofChange mediumJamsSpec)

/-- ITS FALSE NEIGHBOUR: 'it returns false'. Refute it at one input. -/
def mediumJamsWrong : ChangeSpec := { name := "mediumJams", fn := fun _ => fun
  | [d1, d2, d3, d4, d5, d6] => { results := [.lit (.bool false)], args := [d1, d2, d3, d4, d5, d6] }
  | _ => none }
def MediumJamsWrongFalsely : Prop := mediumJamsRow.holds Try.pinned (OpenSpec.ofChange mediumJamsWrong)

/-- 'slotmeshlaw17.MediumOrder': WHATEVER THE INPUT: true; the input reads as it did. -/
def mediumOrderSpec : ChangeSpec := { name := "mediumOrder", fn := fun _ => fun
  | [d1, d2, d3, d4, d5, d6] => { results := [.lit (.bool true)], args := [d1, d2, d3, d4, d5, d6] }
  | _ => none }
def mediumOrderRow : OpenClaim := { program := "yteeloebhjmmpdaa", sum := "87b7a7720114f65d6dfca05b94c71122743f25ef2d35cd88f1946777b05813ad", func := "slotmesh/slotmeshlaw17.MediumOrder", spec := "mediumOrder", unfollowed := true, recurses := true, apart := false }
def MediumOrderSaid : Prop := mediumOrderRow.holds Try.pinned (OpenSpec.ofChange mediumOrderSpec)

/-- ITS FALSE NEIGHBOUR: 'it returns false'. Refute it at one input. -/
def mediumOrderWrong : ChangeSpec := { name := "mediumOrder", fn := fun _ => fun
  | [d1, d2, d3, d4, d5, d6] => { results := [.lit (.bool false)], args := [d1, d2, d3, d4, d5, d6] }
  | _ => none }
def MediumOrderWrongFalsely : Prop := mediumOrderRow.holds Try.pinned (OpenSpec.ofChange mediumOrderWrong)

/- THE SECOND FORM. 'bulk': how many values and letters a reading holds, each counted each time it is reached (what is shared counts as often as it is met; a slice's spare places count too). A statement '..UptoSaid' is the law's where the arguments, and the package variables that the reading takes, are together of bulk at most 1048576: NARROWER than '..Said'. Prove '..Said' where nothing that the law and all that it calls make is longer than what came in: it says more and counts as full. Else prove '..UptoSaid'. A law counts once. -/
mutual
def uptoBulk {H : Type} : DataW H → Nat
  | .lit (.string bytes) => bytes.length + 1
  | .lit _ => 1
  | .nil => 1
  | .ptr d => uptoBulk d + 1
  | .slice elems spare => uptoBulkAll elems + uptoBulkAll spare + 1
  | .agg parts => uptoBulkAll parts + 1
  | .iface _ d => uptoBulk d + 1
  | .map entries => uptoBulkEntries entries + 1
  | .held _ => 1
def uptoBulkAll {H : Type} : List (DataW H) → Nat
  | [] => 0
  | d :: r => uptoBulk d + uptoBulkAll r
def uptoBulkEntries {H : Type} : List (Lit × DataW H) → Nat
  | [] => 0
  | x :: r => uptoBulkEntry x + uptoBulkEntries r
def uptoBulkEntry {H : Type} : Lit × DataW H → Nat
  | (.string bytes, d) => bytes.length + uptoBulk d + 1
  | (_, d) => uptoBulk d + 1
 end
def uptoSmall : (H : Type) → List (DataW H) → Bool := fun _ ds => decide (uptoBulkAll ds ≤ 1048576)
def OpenSpec.upto (s : _root_.Go.ChangeSpec) : _root_.Go.OpenSpec := { _root_.Go.OpenSpec.ofChange s with cond := some uptoSmall }

/-- 'slotmeshlaw16.PlaneMatchesReference', WHERE WHAT IT READS IS OF BULK AT MOST 1048576: true; the input reads as it did. -/
def planeMatchesReferenceUptoRow : OpenClaim := { program := "yteeloebhjmmpdaa", sum := "87b7a7720114f65d6dfca05b94c71122743f25ef2d35cd88f1946777b05813ad", func := "slotmesh/slotmeshlaw16.PlaneMatchesReference", spec := "planeMatchesReference", unfollowed := true, recurses := true, apart := false, narrowed := true }
def PlaneMatchesReferenceUptoSaid : Prop := planeMatchesReferenceUptoRow.holds Try.pinned (OpenSpec.upto planeMatchesReferenceSpec)

/-- 'slotmeshlaw16.PlaneSymmetry', WHERE WHAT IT READS IS OF BULK AT MOST 1048576: true; the input reads as it did. -/
def planeSymmetryUptoRow : OpenClaim := { program := "yteeloebhjmmpdaa", sum := "87b7a7720114f65d6dfca05b94c71122743f25ef2d35cd88f1946777b05813ad", func := "slotmesh/slotmeshlaw16.PlaneSymmetry", spec := "planeSymmetry", unfollowed := true, recurses := true, apart := false, narrowed := true }
def PlaneSymmetryUptoSaid : Prop := planeSymmetryUptoRow.holds Try.pinned (OpenSpec.upto planeSymmetrySpec)

/-- 'slotmeshlaw16.PlaneRadius', WHERE WHAT IT READS IS OF BULK AT MOST 1048576: true; the input reads as it did. -/
def planeRadiusUptoRow : OpenClaim := { program := "yteeloebhjmmpdaa", sum := "87b7a7720114f65d6dfca05b94c71122743f25ef2d35cd88f1946777b05813ad", func := "slotmesh/slotmeshlaw16.PlaneRadius", spec := "planeRadius", unfollowed := true, recurses := true, apart := false, narrowed := true }
def PlaneRadiusUptoSaid : Prop := planeRadiusUptoRow.holds Try.pinned (OpenSpec.upto planeRadiusSpec)

/-- 'slotmeshlaw16.PlaneTriangle', WHERE WHAT IT READS IS OF BULK AT MOST 1048576: true; the input reads as it did. -/
def planeTriangleUptoRow : OpenClaim := { program := "yteeloebhjmmpdaa", sum := "87b7a7720114f65d6dfca05b94c71122743f25ef2d35cd88f1946777b05813ad", func := "slotmesh/slotmeshlaw16.PlaneTriangle", spec := "planeTriangle", unfollowed := true, recurses := true, apart := false, narrowed := true }
def PlaneTriangleUptoSaid : Prop := planeTriangleUptoRow.holds Try.pinned (OpenSpec.upto planeTriangleSpec)

/-- 'slotmeshlaw16.PlaneMoving', WHERE WHAT IT READS IS OF BULK AT MOST 1048576: true; the input reads as it did. -/
def planeMovingUptoRow : OpenClaim := { program := "yteeloebhjmmpdaa", sum := "87b7a7720114f65d6dfca05b94c71122743f25ef2d35cd88f1946777b05813ad", func := "slotmesh/slotmeshlaw16.PlaneMoving", spec := "planeMoving", unfollowed := true, recurses := true, apart := false, narrowed := true }
def PlaneMovingUptoSaid : Prop := planeMovingUptoRow.holds Try.pinned (OpenSpec.upto planeMovingSpec)

/-- 'slotmeshlaw16.PlaneOthers', WHERE WHAT IT READS IS OF BULK AT MOST 1048576: true; the input reads as it did. -/
def planeOthersUptoRow : OpenClaim := { program := "yteeloebhjmmpdaa", sum := "87b7a7720114f65d6dfca05b94c71122743f25ef2d35cd88f1946777b05813ad", func := "slotmesh/slotmeshlaw16.PlaneOthers", spec := "planeOthers", unfollowed := true, recurses := true, apart := false, narrowed := true }
def PlaneOthersUptoSaid : Prop := planeOthersUptoRow.holds Try.pinned (OpenSpec.upto planeOthersSpec)

/-- 'slotmeshlaw16.PlaneJammers', WHERE WHAT IT READS IS OF BULK AT MOST 1048576: true; the input reads as it did. -/
def planeJammersUptoRow : OpenClaim := { program := "yteeloebhjmmpdaa", sum := "87b7a7720114f65d6dfca05b94c71122743f25ef2d35cd88f1946777b05813ad", func := "slotmesh/slotmeshlaw16.PlaneJammers", spec := "planeJammers", unfollowed := true, recurses := true, apart := false, narrowed := true }
def PlaneJammersUptoSaid : Prop := planeJammersUptoRow.holds Try.pinned (OpenSpec.upto planeJammersSpec)

/-- 'slotmeshlaw17.MediumMatchesReference', WHERE WHAT IT READS IS OF BULK AT MOST 1048576: true; the input reads as it did. -/
def mediumMatchesReferenceUptoRow : OpenClaim := { program := "yteeloebhjmmpdaa", sum := "87b7a7720114f65d6dfca05b94c71122743f25ef2d35cd88f1946777b05813ad", func := "slotmesh/slotmeshlaw17.MediumMatchesReference", spec := "mediumMatchesReference", unfollowed := true, recurses := true, apart := false, narrowed := true }
def MediumMatchesReferenceUptoSaid : Prop := mediumMatchesReferenceUptoRow.holds Try.pinned (OpenSpec.upto mediumMatchesReferenceSpec)

/-- 'slotmeshlaw17.MediumCaught', WHERE WHAT IT READS IS OF BULK AT MOST 1048576: true; the input reads as it did. -/
def mediumCaughtUptoRow : OpenClaim := { program := "yteeloebhjmmpdaa", sum := "87b7a7720114f65d6dfca05b94c71122743f25ef2d35cd88f1946777b05813ad", func := "slotmesh/slotmeshlaw17.MediumCaught", spec := "mediumCaught", unfollowed := true, recurses := true, apart := false, narrowed := true }
def MediumCaughtUptoSaid : Prop := mediumCaughtUptoRow.holds Try.pinned (OpenSpec.upto mediumCaughtSpec)

/-- 'slotmeshlaw17.MediumAlone', WHERE WHAT IT READS IS OF BULK AT MOST 1048576: true; the input reads as it did. -/
def mediumAloneUptoRow : OpenClaim := { program := "yteeloebhjmmpdaa", sum := "87b7a7720114f65d6dfca05b94c71122743f25ef2d35cd88f1946777b05813ad", func := "slotmesh/slotmeshlaw17.MediumAlone", spec := "mediumAlone", unfollowed := true, recurses := true, apart := false, narrowed := true }
def MediumAloneUptoSaid : Prop := mediumAloneUptoRow.holds Try.pinned (OpenSpec.upto mediumAloneSpec)

/-- 'slotmeshlaw17.MediumMore', WHERE WHAT IT READS IS OF BULK AT MOST 1048576: true; the input reads as it did. -/
def mediumMoreUptoRow : OpenClaim := { program := "yteeloebhjmmpdaa", sum := "87b7a7720114f65d6dfca05b94c71122743f25ef2d35cd88f1946777b05813ad", func := "slotmesh/slotmeshlaw17.MediumMore", spec := "mediumMore", unfollowed := true, recurses := true, apart := false, narrowed := true }
def MediumMoreUptoSaid : Prop := mediumMoreUptoRow.holds Try.pinned (OpenSpec.upto mediumMoreSpec)

/-- 'slotmeshlaw17.MediumChannels', WHERE WHAT IT READS IS OF BULK AT MOST 1048576: true; the input reads as it did. -/
def mediumChannelsUptoRow : OpenClaim := { program := "yteeloebhjmmpdaa", sum := "87b7a7720114f65d6dfca05b94c71122743f25ef2d35cd88f1946777b05813ad", func := "slotmesh/slotmeshlaw17.MediumChannels", spec := "mediumChannels", unfollowed := true, recurses := true, apart := false, narrowed := true }
def MediumChannelsUptoSaid : Prop := mediumChannelsUptoRow.holds Try.pinned (OpenSpec.upto mediumChannelsSpec)

/-- 'slotmeshlaw17.MediumJams', WHERE WHAT IT READS IS OF BULK AT MOST 1048576: true; the input reads as it did. -/
def mediumJamsUptoRow : OpenClaim := { program := "yteeloebhjmmpdaa", sum := "87b7a7720114f65d6dfca05b94c71122743f25ef2d35cd88f1946777b05813ad", func := "slotmesh/slotmeshlaw17.MediumJams", spec := "mediumJams", unfollowed := true, recurses := true, apart := false, narrowed := true }
def MediumJamsUptoSaid : Prop := mediumJamsUptoRow.holds Try.pinned (OpenSpec.upto mediumJamsSpec)

/-- 'slotmeshlaw17.MediumOrder', WHERE WHAT IT READS IS OF BULK AT MOST 1048576: true; the input reads as it did. -/
def mediumOrderUptoRow : OpenClaim := { program := "yteeloebhjmmpdaa", sum := "87b7a7720114f65d6dfca05b94c71122743f25ef2d35cd88f1946777b05813ad", func := "slotmesh/slotmeshlaw17.MediumOrder", spec := "mediumOrder", unfollowed := true, recurses := true, apart := false, narrowed := true }
def MediumOrderUptoSaid : Prop := mediumOrderUptoRow.holds Try.pinned (OpenSpec.upto mediumOrderSpec)

end Rows
end Go.Proofs.Yteeloebhjmmpdaa
