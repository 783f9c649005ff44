/- What a row's list of laid variables gives the printer's walks. -/
import Derived.Test.YtbgekgakamincaaDoorRows
import Derived.Stop.LaidErr
import Derived.Lib.LaidTab
import Derived.OpenShut
import Derived.Test.YtbgekgakamincaaDoorPrC
namespace Go.Proofs.YtbgekgakamincaaDoor.Pr
open Go.RowKit Go.ChangeShapes Go.WideShapes
set_option linter.unusedVariables false

theorem gForms : Tryd.prog.globalNamed "slotmesh/printer.forms" = some 0 := by kernel_rfl
theorem gFormsT : (Tryd.prog.globals[0]?).map (·.type) = some 96 := by kernel_rfl
theorem gPowT : (Tryd.prog.globals[3]?).map (·.type) = some 140 := by kernel_rfl
theorem cells_u64' : Tryd.prog.cellsOf 122 = 1 := by kernel_rfl
theorem cells_pow : Tryd.prog.cellsOf 140 = 20 := by kernel_rfl
theorem cells_forms : Tryd.prog.cellsOf 96 = 12 := by kernel_rfl
theorem datum_pow : (Rows.laid_internal_strconv_uint64pow10 : DataW Unit) = Lib.tabData .u64 Lib.pow10Tab := by kernel_rfl
theorem datum_forms : (Rows.laid_slotmesh_printer_forms : DataW Unit) = .agg ((List.range 12).map fun i => .lit (.string (formP i))) := by kernel_rfl
theorem pow_laid {W : World} {r : List (String × DataW Unit)} (h : laidMet Tryd.prog (("internal/strconv.uint64pow10", Rows.laid_internal_strconv_uint64pow10) :: r) W) : Lib.TabIs Tryd.prog W "internal/strconv.uint64pow10" .u64 Lib.pow10Tab := by
  rw [datum_pow] at h
  exact Lib.tabIs_of_head gPow gPowT Tryd.underlying140 Tryd.underlying122 cells_u64' cells_pow h
theorem forms_laid {W : World} {r : List (String × DataW Unit)} (h : laidMet Tryd.prog (("slotmesh/printer.forms", Rows.laid_slotmesh_printer_forms) :: r) W) : FormsIs W := by
  rw [datum_forms] at h
  obtain ⟨ps, ⟨g', t', cs, fuel, p, q, hg', ht', hvar, hd, _, _⟩, _⟩ := h
  obtain rfl := Option.some.inj (gForms.symm.trans hg')
  obtain rfl := Option.some.inj (gFormsT.symm.trans ht')
  obtain ⟨xs, m, _, hx, hcl, hxl, hf⟩ := DataW.trod_array Tryd.underlying96 hd
  rw [cells_forms] at hcl
  have hxs : xs.map (·.1) = (List.range 12).map fun i => (DataW.lit (.string (formP i)) : DataW Unit) := by
    have := congrArg Prod.fst hx
    simpa using this.symm
  intro i hi
  have h1 := hf i hi
  rw [cells_str, Nat.mul_one] at h1
  obtain ⟨y, hy⟩ : ∃ y, xs[i]? = some y := ⟨_, List.getElem?_eq_getElem (by omega)⟩
  rw [hy] at h1
  obtain ⟨s, hs, hyd, _⟩ := DataW.trod_string Tryd.underlying9 h1
  have h2 : (xs.map (·.1))[i]? = some y.1 := by rw [List.getElem?_map, hy]; rfl
  rw [hxs, List.getElem?_map, List.getElem?_range hi] at h2
  simp only [Option.map_some, Option.some.injEq] at h2
  have h3 : s.data.toList = formP i := by
    rw [hyd] at h2
    simp only [DataW.lit.injEq, Lit.string.injEq] at h2
    exact h2.symm
  have h4 := World.var?_cell gForms hvar i
  rw [h4]
  have h5 : cs[i]? = some (.string s) := by
    have := congrArg (·[0]?) hs
    simpa [List.getElem?_take, List.getElem?_drop] using this
  have h6 : (⟨(formP i).toArray⟩ : ByteArray) = s := by rw [← h3]
  rw [h6]
  simpa using h5
end Go.Proofs.YtbgekgakamincaaDoor.Pr
