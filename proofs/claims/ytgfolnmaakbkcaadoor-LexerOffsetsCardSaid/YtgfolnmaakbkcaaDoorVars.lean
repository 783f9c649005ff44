/- What a row's list of laid variables gives the walks. -/
import Derived.Test.YtgfolnmaakbkcaaDoorRows
import Derived.Stop.LaidErr
import Derived.LaidMore
import Derived.MakeChecks
import Derived.Test.YtgfolnmaakbkcaaDoorLxTok
namespace Go.Proofs.YtgfolnmaakbkcaaDoor.Lx
open Go.RowKit

theorem gER : Tryd.prog.globalNamed "strconv.ErrRange" = some 1 := by kernel_rfl
theorem gERt : (Tryd.prog.globals[1]?).map (·.type) = some 56 := by kernel_rfl
theorem cells_es : Tryd.prog.cellsOf 80 = 1 := by kernel_rfl
theorem cells_str : Tryd.prog.cellsOf 9 = 1 := by kernel_rfl
theorem vars_laid {W : World} {r : List (String × DataW Unit)} (h : laidMet Tryd.prog (("strconv.ErrRange", Rows.laid_strconv_ErrRange) :: r) W) : Vars W := by
  obtain ⟨a, s, hv, -, -, -⟩ := laid_sentinel (tp := 78) (te := 80) (ts := 9) h gER gERt Tryd.underlying56
    (fun u hu => typeName_ptr_named (nm := "errors.errorString") (by kernel_rfl) (by kernel_rfl) (by decide) u (hu.trans (by kernel_rfl))) Tryd.underlying78 Tryd.underlying80 rfl rfl Tryd.underlying9 cells_es cells_str
  exact ⟨_, _, by have h0 := World.var?_cell gER hv 0; simpa using h0⟩
end Go.Proofs.YtgfolnmaakbkcaaDoor.Lx
