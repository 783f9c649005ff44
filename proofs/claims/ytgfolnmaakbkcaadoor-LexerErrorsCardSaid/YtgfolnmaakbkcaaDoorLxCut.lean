/- Cuts of strings and of tokens. -/
import Derived.Test.YtgfolnmaakbkcaaDoorLxThy2
namespace Go.Proofs.YtgfolnmaakbkcaaDoor.Lx
open Go.RowKit
set_option linter.unusedVariables false

def strT (s : ByteArray) (p : Nat) : ByteArray := ⟨(s.data.toList.take p).toArray⟩
def strD (s : ByteArray) (p : Nat) : ByteArray := ⟨(s.data.toList.drop p).toArray⟩
theorem strT_list (s : ByteArray) (p : Nat) : (strT s p).data.toList = s.data.toList.take p := rfl
theorem strD_list (s : ByteArray) (p : Nat) : (strD s p).data.toList = s.data.toList.drop p := rfl
theorem strT_size {s : ByteArray} {p : Nat} (h : p ≤ s.size) : (strT s p).size = p := by
  show (s.data.toList.take p).toArray.size = p
  have hl : s.data.toList.length = s.size := Array.length_toList
  rw [List.size_toArray, List.length_take]; omega
theorem strD_size (s : ByteArray) (p : Nat) : (strD s p).size = s.size - p := by
  show (s.data.toList.drop p).toArray.size = _
  have hl : s.data.toList.length = s.size := Array.length_toList
  rw [List.size_toArray, List.length_drop]; omega
theorem add_list (a b : ByteArray) : (a ++ b).data.toList = a.data.toList ++ b.data.toList := by
  rw [ByteArray.data_append, Array.toList_append]
theorem cut_to (s : ByteArray) (p : Nat) (h : p ≤ s.size) (w : World) :
    (Instr.slice 9 (.string s) none (some (.int .i64 (p : Int))) none).run Tryd.prog w = .ok (.string (strT s p)) w := by
  rw [run_slice_string_h w 9 s Tryd.underlying9 .i64 _ (by omega) (by omega), Int.toNat_natCast]
  have e := extract_eq s 0 p
  rw [Nat.zero_add, List.drop_zero] at e
  rw [e]; rfl
theorem cut_from (s : ByteArray) (p : Nat) (h : p ≤ s.size) (w : World) :
    (Instr.slice 9 (.string s) (some (.int .i64 (p : Int))) none none).run Tryd.prog w = .ok (.string (strD s p)) w := by
  rw [run_slice_string_l w 9 s Tryd.underlying9 .i64 _ (by omega) (by omega), Int.toNat_natCast]
  have e := extract_eq s p (s.size - p)
  have hl : s.data.toList.length = s.size := Array.length_toList
  rw [show p + (s.size - p) = s.size by omega, List.take_of_length_le (by rw [List.length_drop]; omega)] at e
  rw [e]; rfl
end Go.Proofs.YtgfolnmaakbkcaaDoor.Lx
