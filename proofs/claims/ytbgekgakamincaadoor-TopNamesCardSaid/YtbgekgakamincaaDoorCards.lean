/-
  DERIVED. GIVEN WITH THE SEED: THE CARDS: each row of YtbgekgakamincaaDoorRows.lean that lists a variable, with what it lists TIED to the program's text (the seventh form; the later family's looks); each row that meets fmt, with fmt's text TOLD by the authors' own Lean function (tested against real Go, not proved from fmt's source: count such statements apart). THE CARD IS WHAT COUNTS. Prove the row's statement (the work); the ties are given (YtbgekgakamincaaDoorTie.lean); close each card by the builder's one call (the guide's Derived/Test/ToyasCard.lean, 'card_holds'). Laid BY PROGRAM, IN A SANDBOX (cutbox-door.mjs). By AI agents, Wed Nov 11 2026. No macro, syntax, notation, axiom, sorry.
-/
import Derived.Test.YtbgekgakamincaaDoorRows
import GoSem.ClaimSeven
namespace Go.Proofs.YtbgekgakamincaaDoor
namespace Rows

/-- THE TIED CARD OF 'slotmeshtop.TopSameScripts'. -/
def topSameScriptsCard : Claim7 := { stood := { row := topSameScriptsRow, standIns := [], harness := (true, "2f4d9d4859c34363f40696ed469c03e9901ea22b6a514bc18b462637b1d1c649"), looks := true }, kinds := [], alts := [], laidByText := true, laidKinds := [.data, .data, .data, .sentinel, .sentinel, .data], laidTests := true, laidLooks := .later }
def TopSameScriptsCardSaid : Prop := Claim7.holds Tryd.pinned (.plain (OpenSpec.ofChange topSameScriptsSpec)) topSameScriptsCard

/-- THE TIED CARD OF 'slotmeshtop.TopNames'. -/
def topNamesCard : Claim7 := { stood := { row := topNamesRow, standIns := [], harness := (true, "2f4d9d4859c34363f40696ed469c03e9901ea22b6a514bc18b462637b1d1c649"), looks := true }, kinds := [], alts := [], laidByText := true, laidKinds := [.data, .data, .data, .sentinel, .sentinel, .data], laidTests := true, laidLooks := .later }
def TopNamesCardSaid : Prop := Claim7.holds Tryd.pinned (.plain (OpenSpec.ofChange topNamesSpec)) topNamesCard

/-- THE TIED CARD OF 'slotmeshtop.TopBeginnings'. -/
def topBeginningsCard : Claim7 := { stood := { row := topBeginningsRow, standIns := [], harness := (true, "2f4d9d4859c34363f40696ed469c03e9901ea22b6a514bc18b462637b1d1c649"), looks := true }, kinds := [], alts := [], laidByText := true, laidKinds := [.data, .data, .data, .sentinel, .sentinel, .data], laidTests := true, laidLooks := .later }
def TopBeginningsCardSaid : Prop := Claim7.holds Tryd.pinned (.plain (OpenSpec.ofChange topBeginningsSpec)) topBeginningsCard

/-- THE SECOND FORM's CARD OF 'slotmeshtop.TopSameScripts'. -/
def topSameScriptsUptoCard : Claim7 := { stood := { row := topSameScriptsUptoRow, standIns := [], harness := (true, "2f4d9d4859c34363f40696ed469c03e9901ea22b6a514bc18b462637b1d1c649"), looks := true }, kinds := [], alts := [], laidByText := true, laidKinds := [.data, .data, .data, .sentinel, .sentinel, .data], laidTests := true, laidLooks := .later }
def TopSameScriptsUptoCardSaid : Prop := Claim7.holds Tryd.pinned (.plain (OpenSpec.upto topSameScriptsSpec)) topSameScriptsUptoCard

/-- THE SECOND FORM's CARD OF 'slotmeshtop.TopNames'. -/
def topNamesUptoCard : Claim7 := { stood := { row := topNamesUptoRow, standIns := [], harness := (true, "2f4d9d4859c34363f40696ed469c03e9901ea22b6a514bc18b462637b1d1c649"), looks := true }, kinds := [], alts := [], laidByText := true, laidKinds := [.data, .data, .data, .sentinel, .sentinel, .data], laidTests := true, laidLooks := .later }
def TopNamesUptoCardSaid : Prop := Claim7.holds Tryd.pinned (.plain (OpenSpec.upto topNamesSpec)) topNamesUptoCard

/-- THE SECOND FORM's CARD OF 'slotmeshtop.TopBeginnings'. -/
def topBeginningsUptoCard : Claim7 := { stood := { row := topBeginningsUptoRow, standIns := [], harness := (true, "2f4d9d4859c34363f40696ed469c03e9901ea22b6a514bc18b462637b1d1c649"), looks := true }, kinds := [], alts := [], laidByText := true, laidKinds := [.data, .data, .data, .sentinel, .sentinel, .data], laidTests := true, laidLooks := .later }
def TopBeginningsUptoCardSaid : Prop := Claim7.holds Tryd.pinned (.plain (OpenSpec.upto topBeginningsSpec)) topBeginningsUptoCard
end Rows
end Go.Proofs.YtbgekgakamincaaDoor
