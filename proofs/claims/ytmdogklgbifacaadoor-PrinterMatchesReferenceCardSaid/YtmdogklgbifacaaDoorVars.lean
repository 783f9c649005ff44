/- What a row's list of laid variables gives the walks. -/
import Derived.Test.YtmdogklgbifacaaDoorRows
import Derived.Stop.LaidErr
import Derived.LaidMore
import Derived.MakeChecks
import Derived.Test.YtmdogklgbifacaaDoorLxTok
namespace Go.Proofs.YtmdogklgbifacaaDoor.Lx
open Go.RowKit

theorem gER : Tryd.prog.globalNamed "strconv.ErrRange" = some 3 := by kernel_rfl
theorem gERt : (Tryd.prog.globals[3]?).map (·.type) = some 75 := by kernel_rfl
theorem cells_es : Tryd.prog.cellsOf 147 = 1 := by kernel_rfl
theorem cells_str : Tryd.prog.cellsOf 9 = 1 := by kernel_rfl
theorem vars_laid {W : World} {r : List (String × DataW Unit)} (h : laidMet Tryd.prog (("strconv.ErrRange", Rows.laid_strconv_ErrRange) :: r) W) : Vars W := by
  obtain ⟨a, s, hv, -, -, -⟩ := laid_sentinel (tp := 145) (te := 147) (ts := 9) h gER gERt Tryd.underlying75
    (fun u hu => typeName_ptr_named (nm := "errors.errorString") (by kernel_rfl) (by kernel_rfl) (by decide) u (hu.trans (by kernel_rfl))) Tryd.underlying145 Tryd.underlying147 rfl rfl Tryd.underlying9 cells_es cells_str
  exact ⟨_, _, by have h0 := World.var?_cell gER hv 0; simpa using h0⟩
end Go.Proofs.YtmdogklgbifacaaDoor.Lx
