/- lexer.end at its three ways to go on. -/
import Derived.Test.YtmdogklgbifacaaDoorLxWalk
namespace Go.Proofs.YtmdogklgbifacaaDoor.Lx
open Go.RowKit
set_option linter.unusedVariables false
theorem w32_byte (c : UInt8) : wrap32 (c.toNat : Int) = (c.toNat : Int) := by
  have := UInt8.toNat_lt c
  unfold wrap32; omega
theorem byte32 {f : FuncId} {c : UInt8} {v : Value} (h : ∀ w, Calls Tryd.prog f #[r32 c] w fun e w' => e = .returned v ∧ w = w') : ∀ w, Calls Tryd.prog f #[.int .i32 (wrap32 (c.toNat : Int))] w fun e w' => e = .returned v ∧ w = w' := by
  rw [w32_byte]; exact h

theorem end_com (s : ByteArray) (p : Nat) (hs : s.size ≤ maxLen) (hp : p ≤ s.size) (w : World) :
    Calls Tryd.prog 67 #[.string s, i64 (p : Nat), .func (.func 68) #[] #[]] w fun e w' => e = .returned (i64 ((p + run inCom (s.data.toList.drop p) : Nat) : Int)) ∧ w = w' := by
  unfold maxLen at hs
  have hl : s.data.toList.length = s.size := Array.length_toList
  have HL := Lib.hid hl; clear hl
  have hr := run_le inCom (s.data.toList.drop p)
  rw [List.length_drop, HL.out] at hr
  obtain ⟨T, hT⟩ : ∃ T, run inCom (s.data.toList.drop p) = T := ⟨_, rfl⟩
  rw [hT] at hr ⊢
  have HV := Lib.hid com_val
  have hT1 : Hid (∀ k, k < T → ∀ h : p + k < s.size, inCom s[p + k] = true) := Lib.hid (fun k hk h => by
    rw [← hT] at hk
    have := runs_at inCom _ k hk
    rw [List.getElem_drop] at this
    exact this)
  have hT2 : Hid (∀ h : p + T < s.size, inCom s[p + T] = false) := Lib.hid (fun h => by
    have := runs_end inCom (s.data.toList.drop p) (by rw [List.length_drop, HL.out, hT]; omega)
    simp only [hT, List.getElem_drop] at this
    exact this)
  clear hT
  go_enter Tryd.func67, Tryd.ntmps67
  go_wp2_with fail
  go_loop [1] (fun i => ∃ k : Nat, k ≤ T ∧ i = i64 ((p + k : Nat) : Int)) (fun i => s.size - (intOf i).toNat)
  case atStart => exact ⟨0, Nat.zero_le _, rfl⟩
  case round =>
    obtain ⟨k, hk, rfl⟩ := hrel
    by_cases hlt : p + k < s.size
    · have hc : ((p + k : Nat) : Int) < (s.size : Int) := by omega
      by_cases hkT : k < T
      · have hv := hT1.out k hkT hlt
        have HV2 := Lib.hid (byte32 (HV.out s[p + k]))
        rw [hv] at HV2
        clear hv
        go_wp2_with fail
        refine (HV2.out _).mono ?_
        rintro e w1 ⟨rfl, rfl⟩
        go_wp2_with fail
        go_round
        case rel => exact ⟨k + 1, by omega, by go_num⟩
        case measure => simp [intOf]; omega
      · obtain rfl : k = T := by omega
        have hv := hT2.out hlt
        have HV2 := Lib.hid (byte32 (HV.out s[p + k]))
        rw [hv] at HV2
        clear hv
        go_wp2_with fail
        refine (HV2.out _).mono ?_
        rintro e w1 ⟨rfl, rfl⟩
        go_wp2_with fail
        go_ret
        exact ⟨rfl, rfl⟩
    · have hc : ¬ ((p + k : Nat) : Int) < (s.size : Int) := by omega
      obtain rfl : k = T := by omega
      go_wp2_with fail
      go_ret
      exact ⟨rfl, rfl⟩

theorem end_nam (s : ByteArray) (p : Nat) (hs : s.size ≤ maxLen) (hp : p ≤ s.size) (w : World) :
    Calls Tryd.prog 67 #[.string s, i64 (p : Nat), .func (.func 69) #[] #[]] w fun e w' => e = .returned (i64 ((p + run inNam (s.data.toList.drop p) : Nat) : Int)) ∧ w = w' := by
  unfold maxLen at hs
  have hl : s.data.toList.length = s.size := Array.length_toList
  have HL := Lib.hid hl; clear hl
  have hr := run_le inNam (s.data.toList.drop p)
  rw [List.length_drop, HL.out] at hr
  obtain ⟨T, hT⟩ : ∃ T, run inNam (s.data.toList.drop p) = T := ⟨_, rfl⟩
  rw [hT] at hr ⊢
  have HV := Lib.hid inName_val
  have hT1 : Hid (∀ k, k < T → ∀ h : p + k < s.size, inNam s[p + k] = true) := Lib.hid (fun k hk h => by
    rw [← hT] at hk
    have := runs_at inNam _ k hk
    rw [List.getElem_drop] at this
    exact this)
  have hT2 : Hid (∀ h : p + T < s.size, inNam s[p + T] = false) := Lib.hid (fun h => by
    have := runs_end inNam (s.data.toList.drop p) (by rw [List.length_drop, HL.out, hT]; omega)
    simp only [hT, List.getElem_drop] at this
    exact this)
  clear hT
  go_enter Tryd.func67, Tryd.ntmps67
  go_wp2_with fail
  go_loop [1] (fun i => ∃ k : Nat, k ≤ T ∧ i = i64 ((p + k : Nat) : Int)) (fun i => s.size - (intOf i).toNat)
  case atStart => exact ⟨0, Nat.zero_le _, rfl⟩
  case round =>
    obtain ⟨k, hk, rfl⟩ := hrel
    by_cases hlt : p + k < s.size
    · have hc : ((p + k : Nat) : Int) < (s.size : Int) := by omega
      by_cases hkT : k < T
      · have hv := hT1.out k hkT hlt
        have HV2 := Lib.hid (byte32 (HV.out s[p + k]))
        rw [hv] at HV2
        clear hv
        go_wp2_with fail
        refine (HV2.out _).mono ?_
        rintro e w1 ⟨rfl, rfl⟩
        go_wp2_with fail
        go_round
        case rel => exact ⟨k + 1, by omega, by go_num⟩
        case measure => simp [intOf]; omega
      · obtain rfl : k = T := by omega
        have hv := hT2.out hlt
        have HV2 := Lib.hid (byte32 (HV.out s[p + k]))
        rw [hv] at HV2
        clear hv
        go_wp2_with fail
        refine (HV2.out _).mono ?_
        rintro e w1 ⟨rfl, rfl⟩
        go_wp2_with fail
        go_ret
        exact ⟨rfl, rfl⟩
    · have hc : ¬ ((p + k : Nat) : Int) < (s.size : Int) := by omega
      obtain rfl : k = T := by omega
      go_wp2_with fail
      go_ret
      exact ⟨rfl, rfl⟩

theorem end_num (s : ByteArray) (p : Nat) (hs : s.size ≤ maxLen) (hp : p ≤ s.size) (w : World) :
    Calls Tryd.prog 67 #[.string s, i64 (p : Nat), .func (.func 70) #[] #[]] w fun e w' => e = .returned (i64 ((p + run inNum (s.data.toList.drop p) : Nat) : Int)) ∧ w = w' := by
  unfold maxLen at hs
  have hl : s.data.toList.length = s.size := Array.length_toList
  have HL := Lib.hid hl; clear hl
  have hr := run_le inNum (s.data.toList.drop p)
  rw [List.length_drop, HL.out] at hr
  obtain ⟨T, hT⟩ : ∃ T, run inNum (s.data.toList.drop p) = T := ⟨_, rfl⟩
  rw [hT] at hr ⊢
  have HV := Lib.hid num_val
  have hT1 : Hid (∀ k, k < T → ∀ h : p + k < s.size, inNum s[p + k] = true) := Lib.hid (fun k hk h => by
    rw [← hT] at hk
    have := runs_at inNum _ k hk
    rw [List.getElem_drop] at this
    exact this)
  have hT2 : Hid (∀ h : p + T < s.size, inNum s[p + T] = false) := Lib.hid (fun h => by
    have := runs_end inNum (s.data.toList.drop p) (by rw [List.length_drop, HL.out, hT]; omega)
    simp only [hT, List.getElem_drop] at this
    exact this)
  clear hT
  go_enter Tryd.func67, Tryd.ntmps67
  go_wp2_with fail
  go_loop [1] (fun i => ∃ k : Nat, k ≤ T ∧ i = i64 ((p + k : Nat) : Int)) (fun i => s.size - (intOf i).toNat)
  case atStart => exact ⟨0, Nat.zero_le _, rfl⟩
  case round =>
    obtain ⟨k, hk, rfl⟩ := hrel
    by_cases hlt : p + k < s.size
    · have hc : ((p + k : Nat) : Int) < (s.size : Int) := by omega
      by_cases hkT : k < T
      · have hv := hT1.out k hkT hlt
        have HV2 := Lib.hid (byte32 (HV.out s[p + k]))
        rw [hv] at HV2
        clear hv
        go_wp2_with fail
        refine (HV2.out _).mono ?_
        rintro e w1 ⟨rfl, rfl⟩
        go_wp2_with fail
        go_round
        case rel => exact ⟨k + 1, by omega, by go_num⟩
        case measure => simp [intOf]; omega
      · obtain rfl : k = T := by omega
        have hv := hT2.out hlt
        have HV2 := Lib.hid (byte32 (HV.out s[p + k]))
        rw [hv] at HV2
        clear hv
        go_wp2_with fail
        refine (HV2.out _).mono ?_
        rintro e w1 ⟨rfl, rfl⟩
        go_wp2_with fail
        go_ret
        exact ⟨rfl, rfl⟩
    · have hc : ¬ ((p + k : Nat) : Int) < (s.size : Int) := by omega
      obtain rfl : k = T := by omega
      go_wp2_with fail
      go_ret
      exact ⟨rfl, rfl⟩
end Go.Proofs.YtmdogklgbifacaaDoor.Lx
