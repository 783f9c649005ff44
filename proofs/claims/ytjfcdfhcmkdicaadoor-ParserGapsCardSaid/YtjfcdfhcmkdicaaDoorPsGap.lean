/- Other gaps between a script's tokens, in plain Lean; a row of bytes that the call owns as a string. -/
import Derived.Lib.BufferRead
import Derived.Lib.AppendStr
import Derived.Lib.AppendIntMem
import Derived.Test.YtjfcdfhcmkdicaaDoorPsVal
import Derived.Test.YtjfcdfhcmkdicaaDoorTabs
namespace Go.Proofs.YtjfcdfhcmkdicaaDoor.Ps
open Go.RowKit Go.Proofs.YtjfcdfhcmkdicaaDoor.Lx Go.Proofs.YtjfcdfhcmkdicaaDoor.Pr
set_option linter.unusedVariables false

def kindQ (j : Nat) : List UInt8 := if j = 0 then [32] else if j = 1 then [10] else if j = 2 then [9, 32] else if j = 3 then [35, 32, 114, 117, 110, 32, 53, 59, 10] else [32, 35, 10]
theorem kindQ_good (j : Nat) : GoodG (kindQ j) ∧ kindQ j ≠ [] := by
  unfold kindQ
  split
  · exact ⟨good_blank, by simp⟩
  · split
    · exact ⟨good_line, by simp⟩
    · split
      · exact ⟨goodG_of (c := 9) (r := [32]) (by decide) (by decide) (by kernel_rfl) (by kernel_rfl) (by kernel_rfl), by simp⟩
      · split
        · exact ⟨goodG_of (c := 35) (r := [32, 114, 117, 110, 32, 53, 59, 10]) (by decide) (by decide) (by kernel_rfl) (by kernel_rfl) (by kernel_rfl), by simp⟩
        · exact ⟨goodG_of (c := 32) (r := [35, 10]) (by decide) (by decide) (by kernel_rfl) (by kernel_rfl) (by kernel_rfl), by simp⟩
theorem kindQ_len (j : Nat) : (kindQ j).length ≤ 9 := by
  unfold kindQ
  split
  · decide
  · split
    · decide
    · split
      · decide
      · split <;> decide
def gapQ (bs : List UInt8) (i : Nat) : List UInt8 := kindQ (if h : i < bs.length then (bs[i]).toNat % 5 else 0)
theorem gapQ_law {l : List UInt8} (he : (LEX l).err = 0) (bs : List UInt8) (hlen : (gtx (gapR (gapQ bs) 0 (LEX l).toks)).length ≤ 8000) :
    (LEX (gtx (gapR (gapQ bs) 0 (LEX l).toks))).err = 0 ∧ (LEX l).toks.map er = (LEX (gtx (gapR (gapQ bs) 0 (LEX l).toks))).toks.map er := by
  have hg := LEX_good (l := l) he
  have hgood := gapR_good (gapQ bs) (fun i => kindQ_good _) (LEX l).toks 0 (fun t ht => (all_good _ [] l 0 0 _ rfl hg.2.1 t ht).imp fun _ h => h.1)
  have h1 := (gtx_LEX hgood).1 hlen (by rw [gapR_len]; exact LEX_len l)
  rw [h1]
  exact ⟨rfl, (gapR_er _ _ _ _).symm⟩
theorem txtQ_len {l : List UInt8} (he : (LEX l).err = 0) : ∀ t ∈ (LEX l).toks, (textL t).length ≤ 8000 := by
  have hg := LEX_good (l := l) he
  intro t ht
  obtain ⟨_, _, h2⟩ := all_good _ [] l 0 0 _ rfl hg.2.1 t ht
  exact Nat.le_trans h2 hg.1
theorem parse_300 (l : List UInt8) : (PARSE l).1.length ≤ 300 := by
  by_cases h : (PARSE l).2 = []
  · exact (good_reads h).2.2
  · rw [(parse_dgs l).1 h]; exact Nat.zero_le _
theorem info_byte : (Tryd.prog.info? 5).map (fun i => (i.zero, i.size, i.bytes)) = some (some (.int .u8 0), 1, 1) := by kernel_rfl
theorem conv_own {w : World} {B m c : Nat} {A : Option Addr} {bl : List UInt8} (h : w.ownsRow B 5 1 (.slice A m c) m (Lib.byteCells bl)) :
    (convert 51 9 (.slice A m c)).run Tryd.prog w = .ok (.string ⟨bl.toArray⟩) w := by
  have hl : bl.length = m := by have := h.1; rw [Lib.byteCells_length] at this; omega
  subst hl
  cases A with
  | none =>
    rcases Nat.eq_zero_or_pos bl.length with h0 | h0
    · have hb : bl = [] := List.eq_nil_of_length_eq_zero h0
      subst hb
      exact Lib.run_convert_nil_bytes w 51 9 5 c Tryd.underlying51 Tryd.underlying5 Tryd.underlying9
    · obtain ⟨b, off, hf, _⟩ := (Rd.of_own h).2 h0
      cases hf
  | some ad =>
    refine run_convert_bytes_back (P := Tryd.prog) w 51 9 5 ad c bl Tryd.underlying51 Tryd.underlying5 Tryd.underlying9 (fun j hj => ?_)
    obtain ⟨b, off, hf, _, hc⟩ := (Rd.of_own h).2 (by omega)
    injection hf with hf
    subst hf
    have := hc j (.int .u8 (bl[j].toNat : Int)) (by unfold Lib.byteCells; rw [List.getElem?_map, List.getElem?_eq_getElem hj]; rfl)
    show w.cell? ((⟨b, off, none⟩ : Addr).add j) = _
    unfold Addr.add
    by_cases h0 : j = 0
    · subst h0; simpa using this
    · simpa [h0] using this
end Go.Proofs.YtjfcdfhcmkdicaaDoor.Ps
