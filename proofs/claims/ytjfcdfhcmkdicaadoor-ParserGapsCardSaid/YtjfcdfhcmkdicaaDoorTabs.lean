/- The table of powers that the texts of numbers read, out of a row's list of laid variables. -/
import Derived.Test.YtjfcdfhcmkdicaaDoorRows
import Derived.Lib.LaidTab
import Derived.Lib.ItoaNum
import Derived.OpenShut
import Derived.Test.YtjfcdfhcmkdicaaDoorLxA
namespace Go.Proofs.YtjfcdfhcmkdicaaDoor.Lx
open Go.RowKit Go.ChangeShapes Go.WideShapes
set_option linter.unusedVariables false

/-- The table of powers lies in its variable. -/
def Tabs (w : World) : Prop := Lib.TabIs Tryd.prog w "internal/strconv.uint64pow10" .u64 Lib.pow10Tab
theorem gPow : Tryd.prog.globalNamed "internal/strconv.uint64pow10" = some 0 := by kernel_rfl
theorem gPowT : (Tryd.prog.globals[0]?).map (·.type) = some 115 := by kernel_rfl
theorem cells_u64' : Tryd.prog.cellsOf 93 = 1 := by kernel_rfl
theorem cells_pow : Tryd.prog.cellsOf 115 = 20 := by kernel_rfl
theorem datum_pow : (Rows.laid_internal_strconv_uint64pow10 : DataW Unit) = Lib.tabData .u64 Lib.pow10Tab := by kernel_rfl
theorem tabs_laid {W : World} {r : List (String × DataW Unit)} (h : laidMet Tryd.prog (("internal/strconv.uint64pow10", Rows.laid_internal_strconv_uint64pow10) :: r) W) : Tabs W := by
  rw [datum_pow] at h
  exact Lib.tabIs_of_head gPow gPowT Tryd.underlying115 Tryd.underlying93 cells_u64' cells_pow h
theorem Tabs.up {w w' : World} (h : Tabs w) (hb : Below w.heap.size w w') : Tabs w' := by
  unfold Tabs Lib.TabIs World.var? at h ⊢
  rw [gPow] at h ⊢
  simp only [Option.bind_some] at h ⊢
  have hlt : 0 < w.heap.size := by
    rcases Nat.lt_or_ge 0 w.heap.size with h' | h'
    · exact h'
    · rw [Array.getElem?_eq_none h'] at h; cases h
  rw [hb.block _ hlt]
  exact h
end Go.Proofs.YtjfcdfhcmkdicaaDoor.Lx
