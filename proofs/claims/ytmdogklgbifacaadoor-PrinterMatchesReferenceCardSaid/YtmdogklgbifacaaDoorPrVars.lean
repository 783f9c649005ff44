/- The variables that the printer reads. -/
import Derived.Lib.LaidTab
import Derived.Lib.ItoaNum
import Derived.Test.YtmdogklgbifacaaDoorPrRef
import Derived.Test.YtmdogklgbifacaaDoorLxTok
namespace Go.Proofs.YtmdogklgbifacaaDoor.Pr
open Go.RowKit Go.Proofs.YtmdogklgbifacaaDoor.Lx
set_option linter.unusedVariables false

/-- The printer's forms lie in their variable. -/
def FormsIs (w : World) : Prop := ∀ i, i < 12 → w.cell? ⟨0, i, none⟩ = some (.string ⟨(formP i).toArray⟩)
structure VarP (w : World) : Prop where
  err : Vars w
  pow : Lib.TabIs Tryd.prog w "internal/strconv.uint64pow10" .u64 Lib.pow10Tab
  forms : FormsIs w
theorem gPow : Tryd.prog.globalNamed "internal/strconv.uint64pow10" = some 1 := by kernel_rfl
theorem tabIs_up {n : String} {g : Nat} {k : IntKind} {zs : List Int} {w w' : World} (hg : Tryd.prog.globalNamed n = some g) (h : Lib.TabIs Tryd.prog w n k zs) (hb : Below w.heap.size w w') : Lib.TabIs Tryd.prog w' n k zs := by
  unfold Lib.TabIs World.var? at h ⊢
  rw [hg] at h ⊢
  simp only [Option.bind_some] at h ⊢
  have hlt : g < w.heap.size := by
    rcases Nat.lt_or_ge g w.heap.size with h' | h'
    · exact h'
    · rw [Array.getElem?_eq_none h'] at h; cases h
  rw [hb.block g hlt]
  exact h
theorem VarP.up {w w' : World} (h : VarP w) (hb : Below w.heap.size w w') : VarP w' :=
  ⟨h.err.up hb, tabIs_up gPow h.pow hb, fun i hi => (hb.cell (Lx.cell_lt (h.forms i hi))).trans (h.forms i hi)⟩
end Go.Proofs.YtmdogklgbifacaaDoor.Pr
