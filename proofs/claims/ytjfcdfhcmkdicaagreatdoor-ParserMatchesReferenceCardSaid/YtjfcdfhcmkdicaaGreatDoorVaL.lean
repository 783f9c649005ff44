/- What a row's list of laid variables gives the walks. How long a string argument can be. -/
import Derived.Test.YtjfcdfhcmkdicaaGreatDoorRows
import Derived.Stop.LaidErr
import Derived.LaidMore
import Derived.MakeChecks
import Derived.Test.YtjfcdfhcmkdicaaGreatDoorLxA
import Derived.SizedLaws
import Derived.RowKit

/- What a row's list of laid variables gives the walks. -/
namespace Go.Proofs.YtjfcdfhcmkdicaaGreatDoor.Lx
open Go.RowKit

theorem gER : Tryz.prog.globalNamed "strconv.ErrRange" = some 1 := by kernel_rfl
theorem gERt : (Tryz.prog.globals[1]?).map (·.type) = some 93 := by kernel_rfl
theorem cells_es : Tryz.prog.cellsOf 122 = 1 := by kernel_rfl
theorem cells_str : Tryz.prog.cellsOf 9 = 1 := by kernel_rfl
theorem vars_laid {W : World} {r : List (String × DataW Unit)} (h : laidMet Tryz.prog (("strconv.ErrRange", Rows.laid_strconv_ErrRange) :: r) W) : Vars W := by
  obtain ⟨a, s, hv, -, -, -⟩ := laid_sentinel (tp := 120) (te := 122) (ts := 9) h gER gERt Tryz.underlying93
    (fun u hu => typeName_ptr_named (nm := "errors.errorString") (by kernel_rfl) (by kernel_rfl) (by decide) u (hu.trans (by kernel_rfl))) Tryz.underlying120 Tryz.underlying122 rfl rfl Tryz.underlying9 cells_es cells_str
  exact ⟨_, _, by have h0 := World.var?_cell gER hv 0; simpa using h0⟩
end Go.Proofs.YtjfcdfhcmkdicaaGreatDoor.Lx

/- How long a string argument can be. -/
namespace Go.Proofs.YtjfcdfhcmkdicaaGreatDoor
theorem str_reach {H : Type} {P : Program} {ts : List TypeId} {ds : List (DataW H)} {s : ByteArray} (h : (DataW.weightsEach P ts ds).all (· ≤ reachBytes) = true) {j : Nat} {t : TypeId} (ht : ts[j]? = some t) (hd : ds[j]? = some (.lit (.string s.data.toList))) : s.size ≤ 140737488351232 := by
  have h1 := sized_string h ht hd
  have e : s.data.toList.length = s.size := Array.length_toList
  have e2 : reachBytes = 140737488351232 := rfl
  omega
end Go.Proofs.YtjfcdfhcmkdicaaGreatDoor
