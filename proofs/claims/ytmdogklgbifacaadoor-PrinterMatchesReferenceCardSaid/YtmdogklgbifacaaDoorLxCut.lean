/- Cuts of strings and of tokens. -/
import Derived.Test.YtmdogklgbifacaaDoorLxThy3
namespace Go.Proofs.YtmdogklgbifacaaDoor.Lx
open Go.RowKit
set_option linter.unusedVariables false

def strT (s : ByteArray) (p : Nat) : ByteArray := ⟨(s.data.toList.take p).toArray⟩
def strD (s : ByteArray) (p : Nat) : ByteArray := ⟨(s.data.toList.drop p).toArray⟩
theorem strT_list (s : ByteArray) (p : Nat) : (strT s p).data.toList = s.data.toList.take p := rfl
theorem strD_list (s : ByteArray) (p : Nat) : (strD s p).data.toList = s.data.toList.drop p := rfl
theorem strT_size {s : ByteArray} {p : Nat} (h : p ≤ s.size) : (strT s p).size = p := by
  show (s.data.toList.take p).toArray.size = p
  have hl : s.data.toList.length = s.size := Array.length_toList
  rw [List.size_toArray, List.length_take]; omega
theorem strD_size (s : ByteArray) (p : Nat) : (strD s p).size = s.size - p := by
  show (s.data.toList.drop p).toArray.size = _
  have hl : s.data.toList.length = s.size := Array.length_toList
  rw [List.size_toArray, List.length_drop]; omega
theorem add_list (a b : ByteArray) : (a ++ b).data.toList = a.data.toList ++ b.data.toList := by
  rw [ByteArray.data_append, Array.toList_append]
theorem cut_to (s : ByteArray) (p : Nat) (h : p ≤ s.size) (w : World) :
    (Instr.slice 9 (.string s) none (some (.int .i64 (p : Int))) none).run Tryd.prog w = .ok (.string (strT s p)) w := by
  rw [run_slice_string_h w 9 s Tryd.underlying9 .i64 _ (by omega) (by omega), Int.toNat_natCast]
  have e := extract_eq s 0 p
  rw [Nat.zero_add, List.drop_zero] at e
  rw [e]; rfl
theorem cut_from (s : ByteArray) (p : Nat) (h : p ≤ s.size) (w : World) :
    (Instr.slice 9 (.string s) (some (.int .i64 (p : Int))) none none).run Tryd.prog w = .ok (.string (strD s p)) w := by
  rw [run_slice_string_l w 9 s Tryd.underlying9 .i64 _ (by omega) (by omega), Int.toNat_natCast]
  have e := extract_eq s p (s.size - p)
  have hl : s.data.toList.length = s.size := Array.length_toList
  rw [show p + (s.size - p) = s.size by omega, List.take_of_length_le (by rw [List.length_drop]; omega)] at e
  rw [e]; rfl
def strM (s : ByteArray) (a b : Nat) : ByteArray := ⟨((s.data.toList.take b).drop a).toArray⟩
theorem cut_mid (s : ByteArray) (a b : Nat) (h : a ≤ b) (hb : b ≤ s.size) (w : World) :
    (Instr.slice 9 (.string s) (some (.int .i64 (a : Int))) (some (.int .i64 (b : Int))) none).run Tryd.prog w = .ok (.string (strM s a b)) w := by
  rw [run_slice_string w 9 s .i64 .i64 _ _ Tryd.underlying9 (by omega) (by omega) (by omega), Int.toNat_natCast, Int.toNat_natCast]
  have e := extract_eq s a (b - a)
  rw [show a + (b - a) = b by omega] at e
  rw [e]
  unfold strM
  rw [List.drop_take]

theorem size_tok (w : World) : (sizeOf (Tryd.prog.elem 30)).run Tryd.prog w = .ok 4 w := by kernel_rfl
theorem elem_tok : Tryd.prog.underlying 30 = some (.slice (Tryd.prog.elem 30)) := by kernel_rfl
theorem toks_to (A : Option Addr) (n c k : Nat) (hk : k ≤ c) (w : World) : (Instr.slice 30 (.slice A n c) none (some (.int .i64 (k : Int))) none).run Tryd.prog w = .ok (.slice A k c) w := by
  rw [run_slice_h w 30 A n c elem_tok .i64 _ (by omega) (by omega), size_tok]
  show Result.ok (sliced A 0 (Int.toNat (k : Int)) c 4) w = _
  unfold sliced
  rw [Int.toNat_natCast, Nat.zero_mul, Nat.sub_zero, Nat.sub_zero]
  congr 2
  split
  · rfl
  · cases A <;> rfl
def cutA (A : Option Addr) (c k : Nat) : Option Addr := if c = k then A else A.map (·.add (k * 4))
theorem toks_from (A : Option Addr) (n c k : Nat) (hk : k ≤ n) (w : World) : (Instr.slice 30 (.slice A n c) (some (.int .i64 (k : Int))) none none).run Tryd.prog w = .ok (.slice (cutA A c k) (n - k) (c - k)) w := by
  rw [run_slice_l w 30 A n c elem_tok .i64 _ (by omega) (by omega), size_tok]
  show Result.ok (sliced A (Int.toNat (k : Int)) n c 4) w = _
  unfold sliced
  rw [Int.toNat_natCast]
  rfl
theorem flat_takeT : ∀ (l : List Tok) (n : Nat), (l.flatMap decT).take (n * 4) = (l.take n).flatMap decT
  | [], n => by simp
  | a :: l, 0 => by simp
  | a :: l, n + 1 => by
    have hf : (decT a).length = 4 := rfl
    rw [List.flatMap_cons, List.take_succ_cons, List.flatMap_cons, Nat.add_mul, Nat.one_mul, List.take_append, hf]
    rw [List.take_of_length_le (by rw [hf]; omega), show n * 4 + 4 - 4 = n * 4 by omega, flat_takeT l n]
theorem flat_dropT : ∀ (l : List Tok) (n : Nat), (l.flatMap decT).drop (n * 4) = (l.drop n).flatMap decT
  | [], n => by simp
  | a :: l, 0 => by simp
  | a :: l, n + 1 => by
    have hf : (decT a).length = 4 := rfl
    rw [List.flatMap_cons, List.drop_succ_cons, Nat.add_mul, Nat.one_mul, List.drop_append, List.drop_of_length_le (by rw [hf]; omega), List.nil_append, hf, show n * 4 + 4 - 4 = n * 4 by omega, flat_dropT l n]
theorem Toks.take {w : World} {A : Option Addr} {n c : Nat} {ts : List Tok} (h : Toks w A n c ts) {k : Nat} (hk : k ≤ n) : Toks w A k c (ts.take k) := by
  obtain ⟨h1, h2, h3, h4⟩ := h
  exact ⟨by rw [← flat_takeT]; exact h1.take hk, by rw [List.length_take]; omega, by omega, h4⟩
theorem Toks.drop {w : World} {A : Option Addr} {n c : Nat} {ts : List Tok} (h : Toks w A n c ts) {k : Nat} (hk : k ≤ n) : Toks w (cutA A c k) (n - k) (c - k) (ts.drop k) := by
  obtain ⟨h1, h2, h3, h4⟩ := h
  refine ⟨⟨by rw [← flat_dropT, List.length_drop, h1.1, Nat.sub_mul], fun hn => ?_⟩, by rw [List.length_drop]; omega, by omega, by omega⟩
  obtain ⟨b, off, e, hb, hc⟩ := h1.2 (by omega)
  have hck : c ≠ k := by omega
  refine ⟨b, off + k * 4, ?_, hb, fun j u hu => ?_⟩
  · unfold cutA; rw [if_neg hck, e]; simp [Addr.add]
  · rw [Nat.add_assoc]
    refine hc _ u ?_
    rw [← flat_dropT, List.getElem?_drop] at hu
    exact hu
end Go.Proofs.YtmdogklgbifacaaDoor.Lx
