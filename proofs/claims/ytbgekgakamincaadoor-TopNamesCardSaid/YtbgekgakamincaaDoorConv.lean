/- A row of bytes that the call owns, as a string. -/
import Derived.Lib.BufferRead
import Derived.Lib.AppendStr
import Derived.Test.YtbgekgakamincaaDoorProg
import Derived.Test.YtbgekgakamincaaDoorBas
namespace Go.Proofs.YtbgekgakamincaaDoor.Ps
open Go.RowKit
set_option linter.unusedVariables false

theorem info_byte : (Tryd.prog.info? 5).map (fun i => (i.zero, i.size, i.bytes)) = some (some (.int .u8 0), 1, 1) := by kernel_rfl
theorem conv_own {w : World} {B m c : Nat} {A : Option Addr} {bl : List UInt8} (h : w.ownsRow B 5 1 (.slice A m c) m (Lib.byteCells bl)) :
    (convert 65 9 (.slice A m c)).run Tryd.prog w = .ok (.string ⟨bl.toArray⟩) w := by
  have hl : bl.length = m := by have := h.1; rw [Lib.byteCells_length] at this; omega
  subst hl
  cases A with
  | none =>
    rcases Nat.eq_zero_or_pos bl.length with h0 | h0
    · have hb : bl = [] := List.eq_nil_of_length_eq_zero h0
      subst hb
      exact Lib.run_convert_nil_bytes w 65 9 5 c Tryd.underlying65 Tryd.underlying5 Tryd.underlying9
    · obtain ⟨b, off, hf, _⟩ := (Rd.of_own h).2 h0
      cases hf
  | some ad =>
    refine run_convert_bytes_back (P := Tryd.prog) w 65 9 5 ad c bl Tryd.underlying65 Tryd.underlying5 Tryd.underlying9 (fun j hj => ?_)
    obtain ⟨b, off, hf, _, hc⟩ := (Rd.of_own h).2 (by omega)
    injection hf with hf
    subst hf
    have := hc j (.int .u8 (bl[j].toNat : Int)) (by unfold Lib.byteCells; rw [List.getElem?_map, List.getElem?_eq_getElem hj]; rfl)
    show w.cell? ((⟨b, off, none⟩ : Addr).add j) = _
    unfold Addr.add
    by_cases h0 : j = 0
    · subst h0; simpa using this
    · simpa [h0] using this
end Go.Proofs.YtbgekgakamincaaDoor.Ps
