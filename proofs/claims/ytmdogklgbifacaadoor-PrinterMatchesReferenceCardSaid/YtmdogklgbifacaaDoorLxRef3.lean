/- The reference of the lexer: value, Token. -/
import Derived.Test.YtmdogklgbifacaaDoorLxRef2
namespace Go.Proofs.YtmdogklgbifacaaDoor.Lx
open Go.RowKit
set_option linter.unusedVariables false

/-- The value of digits, but at most 1000000001. -/
def capv (l : List UInt8) : Nat := min (num l) 1000000001
theorem num_snoc (l : List UInt8) (c : UInt8) : num (l ++ [c]) = 10 * num l + (c.toNat - 48) := by
  unfold num numFrom; rw [List.foldl_append]; rfl
theorem capv_snoc (l : List UInt8) (c : UInt8) : capv (l ++ [c]) = min (10 * capv l + (c.toNat - 48)) 1000000001 := by
  unfold capv; rw [num_snoc]; omega
theorem w8_digit (c : UInt8) (h : cls c = 4) : ((c.toNat : Int) - 48) % 256 = ((c.toNat - 48 : Nat) : Int) := by
  have := (isD_iff c).symm
  unfold isD at this
  rw [h] at this
  simp only [decide_true, Bool.and_eq_true, decide_eq_true_eq] at this
  have h2 := UInt8.toNat_lt c
  omega

set_option maxHeartbeats 1000000 in
theorem value_val (s : ByteArray) (hs : s.size ≤ 8000) (hd : ∀ c ∈ s.data.toList, cls c = 4) (w : World) :
    Calls Tryd.prog 51 #[.string s] w fun e w' => e = .returned (i64 (capv s.data.toList : Nat)) ∧ w = w' := by
  have hl : s.data.toList.length = s.size := Array.length_toList
  have HL := Lib.hid hl; clear hl
  have HD := Lib.hid hd; clear hd
  go_enter Tryd.func51, Tryd.ntmps51
  go_wp2_with fail
  go_loop [3, 4] (fun n i => ∃ k : Nat, ∃ v : Nat, k ≤ s.size ∧ i = i64 (k : Nat) ∧ n = i64 (v : Nat) ∧ v ≤ 1000000001 ∧ Hid (capv (s.data.toList.take k) = v)) (fun _ i => s.size - (intOf i).toNat)
  case atStart => exact ⟨0, 0, Nat.zero_le _, rfl, rfl, by omega, Lib.hid rfl⟩
  case round =>
    obtain ⟨k, v, hk, rfl, rfl, hv, HV⟩ := hrel
    by_cases hlt : k < s.size
    · have hlt' : (k : Int) < (s.size : Int) := by omega
      have hkl : k < s.data.toList.length := by rw [HL.out]; exact hlt
      have hc := HD.out s[k] (List.getElem_mem hkl)
      have hw8 := w8_digit s[k] hc
      obtain ⟨d, hdd⟩ : ∃ d, s[k].toNat - 48 = d := ⟨_, rfl⟩
      rw [hdd] at hw8
      have hd9 : d ≤ 207 := by have := UInt8.toNat_lt s[k]; omega
      have HN : Hid (capv (s.data.toList.take (k + 1)) = min (10 * v + d) 1000000001) := Lib.hid (by
        rw [List.take_succ_eq_append_getElem hkl, capv_snoc, HV.out, ← hdd]; rfl)
      clear hdd hc
      go_wp2_with fail
      go_round
      case rel => exact ⟨k + 1, min (10 * v + d) 1000000001, by omega, by go_num, congrArg (Value.int .i64) (by omega), by omega, HN⟩
      case measure => simp [intOf]; omega
    · have hge : ¬ (k : Int) < (s.size : Int) := by omega
      obtain rfl : k = s.size := by omega
      have HV2 : Hid (capv s.data.toList = v) := Lib.hid (by rw [← HV.out, List.take_of_length_le (by rw [HL.out]; exact Nat.le_refl _)])
      go_wp2_with fail
      go_ret
      exact ⟨ret_i (by rw [HV2.out]), rfl⟩

theorem alloc_below (w : World) (cs : Array Value) (t : TypeId) : Below w.heap.size w (w.alloc (.cells cs t)) := (Below.refl _ w).alloc (Nat.le_refl _) _
set_option maxHeartbeats 1000000 in
theorem rtok_name (s : ByteArray) (h0 : 0 < s.size) (hk : cls s[0] = 3) (hs : s.size ≤ 8000) (w : World) :
    Calls Tryd.prog 30 #[.string s] w fun e w' => e = .returned (tokV (tokenOf 3 s.data.toList)) ∧ Below w.heap.size w w' := by
  have hl : s.data.toList.length = s.size := Array.length_toList
  have e0 : tokenOf 3 s.data.toList = if 12 < s.size then .error 3 else .ok ⟨1, s, 0, 0⟩ := by
    unfold tokenOf; rw [if_pos rfl, hl]
  have hL := letter_val s[0]
  have hD := digit_val s[0]
  rw [show isL s[0] = true by unfold isL; simp [hk]] at hL
  rw [show isD s[0] = false by unfold isD; simp [hk]] at hD
  have HL := Lib.hid hL
  have HD := Lib.hid hD
  rw [e0]
  clear e0 hl hk hL hD
  by_cases h : 12 < s.size
  · have h' : (12 : Int) < (s.size : Int) := by omega
    rw [if_pos h]
    clear h
    unfold tokV
    go_enter Tryd.func30, Tryd.ntmps30
    go_wp2_with fail
    refine (HL.out _).mono ?_
    rintro e w1 ⟨rfl, rfl⟩
    go_wp2_with fail
    refine (HD.out _).mono ?_
    rintro e w1 ⟨rfl, rfl⟩
    go_wp2_with fail
    refine bodyPost_ret (v := .tuple #[.agg #[i64 0, .string ⟨#[]⟩, i64 0, i64 0], i64 3]) ?_ rfl ⟨rfl, alloc_below _ _ _⟩
    simp [results, go_sem]
  · have h' : ¬ (12 : Int) < (s.size : Int) := by omega
    rw [if_neg h]
    clear h
    unfold tokV
    go_enter Tryd.func30, Tryd.ntmps30
    go_wp2_with fail
    refine (HL.out _).mono ?_
    rintro e w1 ⟨rfl, rfl⟩
    go_wp2_with fail
    refine (HD.out _).mono ?_
    rintro e w1 ⟨rfl, rfl⟩
    go_wp2_with fail
    refine bodyPost_ret (v := .tuple #[.agg #[i64 1, .string s, i64 0, i64 0], i64 0]) ?_ rfl ⟨rfl, alloc_below _ _ _⟩
    simp [results, go_sem]
set_option maxHeartbeats 1000000 in
theorem rtok_punct (s : ByteArray) (h0 : 0 < s.size) (hk : cls s[0] = 5) (w : World) :
    Calls Tryd.prog 30 #[.string s] w fun e w' => e = .returned (tokV (tokenOf 5 s.data.toList)) ∧ Below w.heap.size w w' := by
  have e0 : tokenOf 5 s.data.toList = .ok ⟨3, s, 0, 0⟩ := by
    unfold tokenOf; rw [if_neg (by decide), if_neg (by decide)]
  have hL := letter_val s[0]
  have hD := digit_val s[0]
  rw [show isL s[0] = false by unfold isL; simp [hk]] at hL
  rw [show isD s[0] = false by unfold isD; simp [hk]] at hD
  have HL := Lib.hid hL
  have HD := Lib.hid hD
  rw [e0]
  clear e0 hk hL hD
  unfold tokV
  go_enter Tryd.func30, Tryd.ntmps30
  go_wp2_with fail
  refine (HL.out _).mono ?_
  rintro e w1 ⟨rfl, rfl⟩
  go_wp2_with fail
  refine (HD.out _).mono ?_
  rintro e w1 ⟨rfl, rfl⟩
  go_wp2_with fail
  refine bodyPost_ret (v := .tuple #[.agg #[i64 3, .string s, i64 0, i64 0], i64 0]) ?_ rfl ⟨rfl, alloc_below _ _ _⟩
  simp [results, go_sem]
set_option maxHeartbeats 2000000 in
theorem rtok_num (s : ByteArray) (h0 : 0 < s.size) (hd : ∀ c ∈ s.data.toList, cls c = 4) (hs : s.size ≤ 8000) (w : World) :
    Calls Tryd.prog 30 #[.string s] w fun e w' => e = .returned (tokV (tokenOf 4 s.data.toList)) ∧ Below w.heap.size w w' := by
  have hl : s.data.toList.length = s.size := Array.length_toList
  have hk : cls s[0] = 4 := hd s[0] (List.getElem_mem (by rw [hl]; exact h0))
  have HVal := Lib.hid (value_val s hs hd)
  obtain ⟨z, hz⟩ : ∃ z, capv s.data.toList = z := ⟨_, rfl⟩
  have hz2 : z = min (num s.data.toList) 1000000001 := hz.symm
  have e0 : tokenOf 4 s.data.toList = if 1 < s.size ∧ s[0].toNat = 48 then .error 7 else if 1000000000 < z then .error 3 else .ok ⟨2, ⟨#[]⟩, z, 0⟩ := by
    unfold tokenOf
    rw [if_neg (by decide), if_pos rfl, hl]
    have e : s.data.toList.head?.map (·.toNat) = some s[0].toNat := by
      have hh : s.data.toList.head? = some s[0] := by
        rw [List.head?_eq_getElem?, List.getElem?_eq_getElem (by rw [hl]; exact h0)]; rfl
      rw [hh]; rfl
    rw [e]
    simp only [Option.some.injEq]
    by_cases hn : 1000000000 < num s.data.toList
    · rw [if_pos hn, if_pos (show 1000000000 < z by omega)]
    · rw [if_neg hn, if_neg (show ¬ 1000000000 < z by omega), show num s.data.toList = z by omega]
  rw [hz] at HVal
  have hL := letter_val s[0]
  have hD := digit_val s[0]
  rw [show isL s[0] = false by unfold isL; simp [hk]] at hL
  rw [show isD s[0] = true by unfold isD; simp [hk]] at hD
  have HL := Lib.hid hL
  have HD := Lib.hid hD
  have hzb : z ≤ 1000000001 := by omega
  rw [e0]
  clear e0 hk hL hD hl hz hz2 hd
  by_cases h1 : 1 < s.size ∧ s[0].toNat = 48
  · obtain ⟨h1, h48⟩ := h1
    have h1' : (1 : Int) < (s.size : Int) := by omega
    have h8 : ((s[0].toNat : Int) == 48) = true := by rw [beq_iff_eq]; omega
    rw [if_pos ⟨h1, h48⟩]
    clear h48 h1
    unfold tokV
    go_enter Tryd.func30, Tryd.ntmps30
    go_wp2_with fail
    refine (HL.out _).mono ?_
    rintro e w1 ⟨rfl, rfl⟩
    go_wp2_with fail
    refine (HD.out _).mono ?_
    rintro e w1 ⟨rfl, rfl⟩
    go_wp2_with fail
    refine bodyPost_ret (v := .tuple #[.agg #[i64 0, .string ⟨#[]⟩, i64 0, i64 0], i64 7]) ?_ rfl ⟨rfl, alloc_below _ _ _⟩
    simp [results, go_sem]
  · rw [if_neg h1]
    obtain ⟨b1, b2, hb⟩ : ∃ b1 b2 : Bool, decide ((1 : Int) < (s.size : Int)) = b1 ∧ ((s[0].toNat : Int) == 48) = b2 := ⟨_, _, rfl, rfl⟩
    have hbb : (b1 && b2) = false := by
      rw [← hb.1, ← hb.2, Bool.eq_false_iff]
      simp only [ne_eq, Bool.and_eq_true, decide_eq_true_eq, beq_iff_eq]
      omega
    obtain ⟨hb1, hb2⟩ := hb
    clear h1
    by_cases h9 : 1000000000 < z
    · have h9' : (1000000000 : Int) < (z : Int) := by omega
      rw [if_pos h9]
      unfold tokV
      clear h9
      cases b1 <;> cases b2
      case true.true => cases hbb
      all_goals
        clear hbb
        first
          | have h1' : (1 : Int) < (s.size : Int) := of_decide_eq_true hb1
          | have h1' : ¬ (1 : Int) < (s.size : Int) := of_decide_eq_false hb1
        clear hb1
        go_enter Tryd.func30, Tryd.ntmps30
        go_wp2_with fail
        refine (HL.out _).mono ?_
        rintro e w1 ⟨rfl, rfl⟩
        go_wp2_with fail
        refine (HD.out _).mono ?_
        rintro e w1 ⟨rfl, rfl⟩
        go_wp2_with fail
        refine (HVal.out _).mono ?_
        rintro e w1 ⟨rfl, rfl⟩
        go_wp2_with fail
        refine bodyPost_ret (v := .tuple #[.agg #[i64 0, .string ⟨#[]⟩, i64 0, i64 0], i64 3]) ?_ rfl ⟨rfl, alloc_below _ _ _⟩
        simp [results, go_sem]
    · have h9' : ¬ (1000000000 : Int) < (z : Int) := by omega
      rw [if_neg h9]
      unfold tokV
      clear h9
      cases b1 <;> cases b2
      case true.true => cases hbb
      all_goals
        clear hbb
        first
          | have h1' : (1 : Int) < (s.size : Int) := of_decide_eq_true hb1
          | have h1' : ¬ (1 : Int) < (s.size : Int) := of_decide_eq_false hb1
        clear hb1
        go_enter Tryd.func30, Tryd.ntmps30
        go_wp2_with fail
        refine (HL.out _).mono ?_
        rintro e w1 ⟨rfl, rfl⟩
        go_wp2_with fail
        refine (HD.out _).mono ?_
        rintro e w1 ⟨rfl, rfl⟩
        go_wp2_with fail
        refine (HVal.out _).mono ?_
        rintro e w1 ⟨rfl, rfl⟩
        go_wp2_with fail
        refine bodyPost_ret (v := .tuple #[.agg #[i64 2, .string ⟨#[]⟩, i64 (z : Nat), i64 0], i64 0]) ?_ rfl ⟨rfl, alloc_below _ _ _⟩
        simp [results, go_sem]
end Go.Proofs.YtmdogklgbifacaaDoor.Lx
