/- usable: can a script be lexed? -/
import Derived.Test.YtjfcdfhcmkdicaaDoorPsHeadQ
import Derived.Test.YtjfcdfhcmkdicaaDoorPsLoop2
import Derived.Test.YtjfcdfhcmkdicaaDoorLxB
namespace Go.Proofs.YtjfcdfhcmkdicaaDoor.Ps
open Go.RowKit Go.Proofs.YtjfcdfhcmkdicaaDoor.Lx Go.Proofs.YtjfcdfhcmkdicaaDoor.Pr
set_option linter.unusedVariables false

set_option maxRecDepth 100000 in
theorem usable_val (s : ByteArray) (hs : s.size ≤ maxLen) (w : World) :
    Calls Tryd.prog 20 #[.string s] w fun e w' => e = .returned (.bool (decide ((LEX s.data.toList).err = 0))) ∧ Below w.heap.size w w' := by
  have HL := Lib.hid (rlex_val s hs w)
  obtain ⟨L, hL⟩ : ∃ L, LEX s.data.toList = L := ⟨_, rfl⟩
  rw [hL] at HL ⊢
  clear hL hs
  have he : ((L.err : Int) == 0) = decide (L.err = 0) := by
    by_cases h : L.err = 0
    · rw [h]; rfl
    · rw [decide_eq_false h, beq_eq_false_iff_ne]; omega
  obtain ⟨v, hv⟩ : ∃ v, decide (L.err = 0) = v := ⟨_, rfl⟩
  rw [hv] at he ⊢
  clear hv
  go_enter Tryd.func20, Tryd.ntmps20
  go_wp2_with fail
  refine HL.out.mono ?_
  rintro e1 w1 ⟨A, n, c, rfl, hT, hb1⟩
  have HB1 := Lib.hid hb1
  clear hT hb1
  go_wp2_with fail
  go_ret
  exact ⟨rfl, HB1.out⟩
theorem size_list (s : ByteArray) : s.data.toList.length = s.size := Array.length_toList
end Go.Proofs.YtjfcdfhcmkdicaaDoor.Ps
