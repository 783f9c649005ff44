/- What a row's list of laid variables gives the walks. How long a string argument can be. -/
import Derived.Test.YtbgekgakamincaaDoorRows
import Derived.Stop.LaidErr
import Derived.LaidMore
import Derived.MakeChecks
import Derived.Test.YtbgekgakamincaaDoorLxA
import Derived.SizedLaws
import Derived.RowKit

/- What a row's list of laid variables gives the walks. -/
namespace Go.Proofs.YtbgekgakamincaaDoor.Lx
open Go.RowKit

theorem gER : Tryd.prog.globalNamed "strconv.ErrRange" = some 2 := by kernel_rfl
theorem gERt : (Tryd.prog.globals[2]?).map (·.type) = some 91 := by kernel_rfl
theorem cells_es : Tryd.prog.cellsOf 137 = 1 := by kernel_rfl
theorem cells_str : Tryd.prog.cellsOf 9 = 1 := by kernel_rfl
theorem vars_laid {W : World} {r : List (String × DataW Unit)} (h : laidMet Tryd.prog (("strconv.ErrRange", Rows.laid_strconv_ErrRange) :: r) W) : Vars W := by
  obtain ⟨a, s, hv, -, -, -⟩ := laid_sentinel (tp := 135) (te := 137) (ts := 9) h gER gERt Tryd.underlying91
    (fun u hu => typeName_ptr_named (nm := "errors.errorString") (by kernel_rfl) (by kernel_rfl) (by decide) u (hu.trans (by kernel_rfl))) Tryd.underlying135 Tryd.underlying137 rfl rfl Tryd.underlying9 cells_es cells_str
  exact ⟨_, _, by have h0 := World.var?_cell gER hv 0; simpa using h0⟩
end Go.Proofs.YtbgekgakamincaaDoor.Lx

/- How long a string argument can be. -/
namespace Go.Proofs.YtbgekgakamincaaDoor
theorem str_reach {H : Type} {P : Program} {ts : List TypeId} {ds : List (DataW H)} {s : ByteArray} (h : (DataW.weightsEach P ts ds).all (· ≤ reachBytes) = true) {j : Nat} {t : TypeId} (ht : ts[j]? = some t) (hd : ds[j]? = some (.lit (.string s.data.toList))) : s.size ≤ 140737488351232 := by
  have h1 := sized_string h ht hd
  have e : s.data.toList.length = s.size := Array.length_toList
  have e2 : reachBytes = 140737488351232 := rfl
  omega
end Go.Proofs.YtbgekgakamincaaDoor
