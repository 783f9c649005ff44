/- The reference's texts of tokens. -/
import Derived.Lib.ItoaNum
import Derived.Laws.IdiomStrings
import Derived.Lib.Strings
import Derived.Lib.SmallJoins
import Derived.Test.YtmdogklgbifacaaDoorLxLex
namespace Go.Proofs.YtmdogklgbifacaaDoor.Lx
open Go.RowKit
set_option linter.unusedVariables false

def dgt (k : Nat) : UInt8 := UInt8.ofNat (48 + k % 10)
theorem dec_small {k : Nat} (h : k < 10) : Lib.decDigits k = [dgt k] := by
  rw [Lib.decDigits, dif_pos h]; unfold dgt; rw [Nat.mod_eq_of_lt h]
theorem dec_big {k : Nat} (h : ¬ k < 10) : Lib.decDigits k = Lib.decDigits (k / 10) ++ [dgt k] := by
  rw [Lib.decDigits, dif_neg h]; rfl
theorem dgt_nat (k : Nat) : ((dgt k).toNat : Int) = 48 + (k : Int) % 10 := by
  unfold dgt
  rw [UInt8.toNat_ofNat_of_lt' (by simp [UInt8.size]; omega)]
  omega

theorem str_eta (s : ByteArray) : (⟨s.data.toList.toArray⟩ : ByteArray) = s := ByteArray.ext (Array.toArray_toList)
def mz (t : Value) : Nat := match t with | .string s => if s.size = 0 then 1 else 0 | _ => 0
theorem mz_cons {s : ByteArray} (h : s.size ≠ 0) : mz (.string s) = 0 := by unfold mz; exact if_neg h
theorem conv_one (k : Nat) (W : World) : (convert 35 9 (.slice (some ⟨W.heap.size, 0, none⟩) 1 1)).run Tryd.prog (W.alloc (.cells #[.int .u8 (48 + (k : Int) % 10)] 5)) = .ok (.string ⟨#[dgt k]⟩) (W.alloc (.cells #[.int .u8 (48 + (k : Int) % 10)] 5)) := by
  have := run_convert_bytes_back (P := Tryd.prog) (W.alloc (.cells #[.int .u8 (48 + (k : Int) % 10)] 5)) 35 9 5 ⟨W.heap.size, 0, none⟩ 1 [dgt k] Tryd.underlying35 Tryd.underlying5 Tryd.underlying9 (fun j hj => by
    simp only [List.length_singleton] at hj
    obtain rfl : j = 0 := by omega
    have h := Blk.new W 5 #[.int .u8 (48 + (k : Int) % 10)]
    have h2 := h.cell 0
    rw [show (⟨W.heap.size, 0, none⟩ : Addr).add 0 = ⟨W.heap.size, 0, none⟩ from rfl, h2]
    simp [dgt_nat])
  exact this

set_option maxRecDepth 100000 in
set_option maxHeartbeats 1000000 in
theorem digits_val (n : Nat) (hn : n ≤ 1000000000) (w : World) :
    Calls Tryd.prog 35 #[i64 (n : Nat)] w fun e w' => e = .returned (.string ⟨(Lib.decDigits n).toArray⟩) ∧ Below w.heap.size w w' := by
  go_enter Tryd.func35, Tryd.ntmps35
  go_wp2_with fail
  go_loopw [3, 4] (fun t i wr => ∃ (k : Nat) (s : ByteArray), s.size + k ≤ 1000000001 ∧ i = i64 (k : Nat) ∧ t = .string s ∧ Hid (if k = 0 ∧ s.data.toList ≠ [] then Lib.decDigits n = s.data.toList else Lib.decDigits n = Lib.decDigits k ++ s.data.toList) ∧ Below w.heap.size w wr) (fun t i _ => 2 * (intOf i).toNat + mz t)
  case atStart => exact ⟨n, ⟨#[]⟩, (by show 0 + n ≤ _; omega), rfl, rfl, Lib.hid (by simp), Below.refl _ _⟩
  case round =>
    obtain ⟨k, s, hk, rfl, rfl, HI, hB⟩ := hrel
    have hes : ∀ h : s.data.toList = [], s = ⟨#[]⟩ := fun h => ByteArray.ext (Array.ext' h)
    by_cases hgo : k = 0 ∧ s.data.toList ≠ []
    · obtain ⟨rfl, hne⟩ := hgo
      have HF : Hid (Lib.decDigits n = s.data.toList) := Lib.hid (by
        have := HI.out
        rwa [if_pos ⟨rfl, hne⟩] at this)
      have he : s.toList.isEmpty = false := by
        rw [Lib.toList_data]
        cases h : s.data.toList with
        | nil => exact absurd h hne
        | cons a b => rfl
      have hne2 : ¬ s.toList = [] := by
        rw [Lib.toList_data]; exact hne
      clear hne hes
      go_wp2_with fail
      go_ret
      exact ⟨congrArg (fun x => Ending.returned (Value.string x)) (by rw [HF.out, str_eta]), hB⟩
    · have HF : Hid (Lib.decDigits n = Lib.decDigits k ++ s.data.toList) := Lib.hid (by
        have := HI.out
        rwa [if_neg hgo] at this)
      have HN : Hid (if k / 10 = 0 ∧ ((⟨#[dgt k]⟩ : ByteArray) ++ s).data.toList ≠ [] then Lib.decDigits n = ((⟨#[dgt k]⟩ : ByteArray) ++ s).data.toList else Lib.decDigits n = Lib.decDigits (k / 10) ++ ((⟨#[dgt k]⟩ : ByteArray) ++ s).data.toList) := Lib.hid (by
        have hd : ((⟨#[dgt k]⟩ : ByteArray) ++ s).data.toList = dgt k :: s.data.toList := by rw [Joins.data_append]; rfl
        rw [hd]
        by_cases h10 : k < 10
        · rw [if_pos ⟨by omega, by simp⟩, HF.out, dec_small h10]; rfl
        · rw [if_neg (fun h => by omega), HF.out, dec_big h10, List.append_assoc]; rfl)
      have HSz : Hid (((⟨#[dgt k]⟩ : ByteArray) ++ s).size ≠ 0) := Lib.hid (by rw [ByteArray.size_append]; show 1 + s.size ≠ 0; omega)
      have hBn := hB.alloc hB.size (.cells #[.int .u8 (48 + (k : Int) % 10)] 5)
      have hcv := conv_one k wr
      by_cases hk0 : 0 < k
      · have hk0' : (0 : Int) < (k : Int) := by omega
        clear hgo hes
        go_wp2_with fail
        go_roundw
        case rel => exact ⟨k / 10, _, by rw [ByteArray.size_append]; show 1 + s.size + _ ≤ _; omega, congrArg (Value.int .i64) (by omega), rfl, HN, hBn⟩
        case measure =>
          rw [mz_cons HSz.out]
          simp only [intOf]
          omega
      · obtain rfl : k = 0 := by omega
        obtain rfl : s = ⟨#[]⟩ := hes (by
          rcases Classical.em (s.data.toList = []) with h | h
          · exact h
          · exact absurd ⟨rfl, h⟩ hgo)
        have hcv0 : (convert 35 9 (.slice (some ⟨wr.heap.size, 0, none⟩) 1 1)).run Tryd.prog (wr.alloc (.cells #[.int .u8 48] 5)) = .ok (.string ⟨#[dgt 0]⟩) (wr.alloc (.cells #[.int .u8 48] 5)) := hcv
        clear hgo hes hk0 hcv
        go_wp2_with fail
        go_roundw
        case rel => exact ⟨0, _, by rw [ByteArray.size_append]; show 1 + 0 + 0 ≤ _; omega, rfl, rfl, HN, hBn⟩
        case measure =>
          rw [mz_cons HSz.out]
          show 2 * 0 + 0 < 2 * 0 + mz (.string ⟨#[]⟩)
          decide

/-- The text of a token. -/
def textB (t : Tok) : ByteArray := if t.kind = 2 then ⟨(Lib.decDigits t.n).toArray⟩ else t.text
theorem text_val (t : Tok) (hn : t.n ≤ 1000000000) (w : World) :
    Calls Tryd.prog 19 #[.agg #[i64 (t.kind : Nat), .string t.text, i64 (t.n : Nat), i64 (t.pos : Nat)]] w fun e w' => e = .returned (.string (textB t)) ∧ Below w.heap.size w w' := by
  obtain ⟨kd, tx, n, p⟩ := t
  have hD := digits_val n hn
  have hb0 : Below w.heap.size w (w.alloc (.cells #[i64 (kd : Nat), .string tx, i64 (n : Nat), i64 (p : Nat)] 41)) := (Below.refl _ w).alloc (Nat.le_refl _) _
  have HB := Lib.hid hb0
  have HD := Lib.hid hD
  clear hb0 hD
  unfold textB
  dsimp only
  by_cases h : kd = 2
  · subst h
    rw [if_pos rfl]
    go_enter Tryd.func19, Tryd.ntmps19
    go_wp2_with fail
    refine (HD.out _).mono ?_
    rintro e w1 ⟨rfl, hb1⟩
    have HB1 := Lib.hid (below_trans' HB.out hb1)
    clear hb1
    go_wp2_with fail
    go_ret
    exact ⟨rfl, HB1.out⟩
  · have h2 : ((kd : Int) == 2) = false := by rw [beq_eq_false_iff_ne]; omega
    rw [if_neg h]
    clear h
    go_enter Tryd.func19, Tryd.ntmps19
    go_wp2_with fail
    go_ret
    exact ⟨rfl, HB.out⟩
end Go.Proofs.YtmdogklgbifacaaDoor.Lx
