/- The reference of the lexer: its small functions. The reference of the lexer: End, value, Token. The reference of the lexer: value, Token. The reference's Lex. -/
import Derived.Test.YtjfcdfhcmkdicaaDoorLxC
import Derived.Test.YtjfcdfhcmkdicaaDoorLxA

/- The reference of the lexer: its small functions. -/
namespace Go.Proofs.YtjfcdfhcmkdicaaDoor.Lx
open Go.RowKit
set_option linter.unusedVariables false

theorem letter_val (c : UInt8) (w : World) : Calls Tryd.prog 56 #[ub c] w fun e w' => e = .returned (.bool (isL c)) ∧ w = w' := by
  have hi := isL_iff c
  obtain ⟨v, hv⟩ : ∃ v, isL c = v := ⟨_, rfl⟩
  rw [hv] at hi ⊢
  have HI := Lib.hid hi
  clear hi hv
  by_cases h1 : 97 ≤ c.toNat
  · have h1' : (97 : Int) ≤ (c.toNat : Int) := by omega
    go_enter Tryd.func56, Tryd.ntmps56
    go_wp2_with fail
    go_ret
    refine ⟨rb ?_, rfl⟩
    rw [HI.out, Bool.eq_iff_iff]; simp; omega
  · have h1' : ¬ (97 : Int) ≤ (c.toNat : Int) := by omega
    go_enter Tryd.func56, Tryd.ntmps56
    go_wp2_with fail
    go_ret
    refine ⟨rb ?_, rfl⟩
    rw [HI.out, Bool.eq_iff_iff]; simp; omega
theorem digit_val (c : UInt8) (w : World) : Calls Tryd.prog 57 #[ub c] w fun e w' => e = .returned (.bool (isD c)) ∧ w = w' := by
  have hi := isD_iff c
  obtain ⟨v, hv⟩ : ∃ v, isD c = v := ⟨_, rfl⟩
  rw [hv] at hi ⊢
  have HI := Lib.hid hi
  clear hi hv
  by_cases h1 : 48 ≤ c.toNat
  · have h1' : (48 : Int) ≤ (c.toNat : Int) := by omega
    go_enter Tryd.func57, Tryd.ntmps57
    go_wp2_with fail
    go_ret
    refine ⟨rb ?_, rfl⟩
    rw [HI.out, Bool.eq_iff_iff]; simp; omega
  · have h1' : ¬ (48 : Int) ≤ (c.toNat : Int) := by omega
    go_enter Tryd.func57, Tryd.ntmps57
    go_wp2_with fail
    go_ret
    refine ⟨rb ?_, rfl⟩
    rw [HI.out, Bool.eq_iff_iff]; simp; omega
theorem begins_val (c : UInt8) (w : World) : Calls Tryd.prog 37 #[ub c] w fun e w' => e = .returned (.bool (isB c)) ∧ w = w' := by
  have HL := letter_val c
  have HD := digit_val c
  have hi : isB c = (isL c || (isD c || decide (c.toNat = 59))) := by
    unfold isB
    rw [show decide (cls c = 5) = decide (c.toNat = 59) from by rw [Bool.eq_iff_iff]; simp [isP_iff]]
  obtain ⟨v, hv⟩ : ∃ v, isB c = v := ⟨_, rfl⟩
  obtain ⟨a, ha⟩ : ∃ a, isL c = a := ⟨_, rfl⟩
  obtain ⟨b, hb⟩ : ∃ b, isD c = b := ⟨_, rfl⟩
  rw [hv] at hi ⊢
  rw [ha] at HL hi
  rw [hb] at HD hi
  have HI := Lib.hid hi
  have HL := Lib.hid HL
  have HD := Lib.hid HD
  clear hi hv ha hb
  cases a with
  | true =>
    go_enter Tryd.func37, Tryd.ntmps37
    go_wp2_with fail
    refine (HL.out _).mono ?_
    rintro e w1 ⟨rfl, rfl⟩
    go_wp2_with fail
    refine (HD.out _).mono ?_
    rintro e w1 ⟨rfl, rfl⟩
    go_wp2_with fail
    go_ret
    exact ⟨rb (by rw [HI.out]; rfl), rfl⟩
  | false =>
    cases b with
    | true =>
      go_enter Tryd.func37, Tryd.ntmps37
      go_wp2_with fail
      refine (HL.out _).mono ?_
      rintro e w1 ⟨rfl, rfl⟩
      go_wp2_with fail
      refine (HD.out _).mono ?_
      rintro e w1 ⟨rfl, rfl⟩
      go_wp2_with fail
      go_ret
      exact ⟨rb (by rw [HI.out]; rfl), rfl⟩
    | false =>
      go_enter Tryd.func37, Tryd.ntmps37
      go_wp2_with fail
      refine (HL.out _).mono ?_
      rintro e w1 ⟨rfl, rfl⟩
      go_wp2_with fail
      refine (HD.out _).mono ?_
      rintro e w1 ⟨rfl, rfl⟩
      go_wp2_with fail
      go_ret
      refine ⟨rb ?_, rfl⟩
      rw [HI.out, Bool.eq_iff_iff]; simp; omega

set_option maxHeartbeats 1000000 in
theorem gap_val (s : ByteArray) (p : Nat) (hs : s.size ≤ maxLen) (hp : p ≤ s.size) (w : World) :
    Calls Tryd.prog 36 #[.string s, i64 (p : Nat)] w fun e w' => e = .returned (i64 ((p + gapLen (s.data.toList.drop p) : Nat) : Int)) ∧ w = w' := by
  unfold maxLen at hs
  have hl : s.data.toList.length = s.size := Array.length_toList
  have HL := Lib.hid hl; clear hl
  obtain ⟨T, hT⟩ : ∃ T, p + gapLen (s.data.toList.drop p) = T := ⟨_, rfl⟩
  rw [hT]
  have HT := Lib.hid hT; clear hT
  go_enter Tryd.func36, Tryd.ntmps36
  go_wp2_with fail
  go_loop [1] (fun i => ∃ q : Nat, q ≤ s.size ∧ i = i64 (q : Nat) ∧ Hid (q + gapLen (s.data.toList.drop q) = T)) (fun i => s.size - (intOf i).toNat)
  case atStart => exact ⟨p, hp, rfl, HT⟩
  case round =>
    obtain ⟨q, hq, rfl, HQ⟩ := hrel
    by_cases hlt : q < s.size
    · have hlt' : (q : Int) < (s.size : Int) := by omega
      have hdc : s.data.toList.drop q = s[q] :: s.data.toList.drop (q + 1) := by
        rw [List.drop_eq_getElem_cons (by rw [HL.out]; exact hlt)]; rfl
      obtain ⟨n, hn⟩ : ∃ n, s[q].toNat = n := ⟨_, rfl⟩
      have hb := blank_iff s[q]
      have hcm := com_iff s[q]
      rw [hn] at hb hcm
      have HN := Lib.hid hn
      have HD := Lib.hid hdc
      have HBl := Lib.hid hb
      have HCm := Lib.hid hcm
      clear hdc hb hcm
      by_cases h1 : n = 32 ∨ n = 9 ∨ n = 10
      · have HQ2 : Hid (q + 1 + gapLen (s.data.toList.drop (q + 1)) = T) := Lib.hid (by
          have hc := HBl.out.2 h1
          have := HQ.out
          rw [HD.out, gapLen_cons, if_pos (.inl hc), spanLen_blank hc, List.drop_succ_cons, List.drop_zero] at this
          omega)
        have e35 : ((n : Int) == 35) = false := by rw [beq_eq_false_iff_ne]; omega
        have e35' : ((n : Int) != 35) = true := by rw [bne_iff_ne]; omega
        rcases h1 with h1 | h1 | h1
        all_goals
          subst h1
          go_wp2_with fail
          go_round
          case rel => exact ⟨q + 1, by omega, by go_num, HQ2⟩
          case measure => simp [intOf]; omega
      · have a1 : ((n : Int) == 32) = false := by rw [beq_eq_false_iff_ne]; omega
        have a2 : ((n : Int) == 9) = false := by rw [beq_eq_false_iff_ne]; omega
        have a3 : ((n : Int) == 10) = false := by rw [beq_eq_false_iff_ne]; omega
        by_cases h2 : n = 35
        · have hc2 := HCm.out.2 h2
          subst h2
          obtain ⟨m, hm⟩ : ∃ m, run inCom (s.data.toList.drop q) = m := ⟨_, rfl⟩
          have hm1 : 1 ≤ m := by rw [← hm, HD.out]; exact run_pos (com_of hc2)
          have hmle := run_le inCom (s.data.toList.drop q)
          rw [hm, List.length_drop, HL.out] at hmle
          have HQ2 : Hid (q + m + gapLen (s.data.toList.drop (q + m)) = T) := Lib.hid (by
            have := HQ.out
            rw [HD.out, gapLen_cons, if_pos (.inr hc2), spanLen_com hc2, ← HD.out, hm, List.drop_drop] at this
            omega)
          have hT1 : Hid (∀ k, k < m → ∀ h : q + k < s.size, (((s[q + k]).toNat : Int) != 10) = true) := Lib.hid (fun k hk h => by
            rw [← hm] at hk
            have := runs_at inCom _ k hk
            rw [List.getElem_drop] at this
            have h3 : inCom s[q + k] = true := this
            unfold inCom at h3
            rw [decide_eq_true_eq] at h3
            rw [bne_iff_ne]; omega)
          have hT2 : Hid (∀ h : q + m < s.size, (((s[q + m]).toNat : Int) != 10) = false) := Lib.hid (fun h => by
            have := runs_end inCom (s.data.toList.drop q) (by rw [List.length_drop, HL.out, hm]; omega)
            simp only [hm, List.getElem_drop] at this
            have h3 : inCom s[q + m] = false := this
            unfold inCom at h3
            rw [decide_eq_false_iff_not] at h3
            rw [bne_eq_false_iff_eq]; omega)
          have hnx : ¬ ((q : Int) < 0) := by omega
          clear hm
          go_wp2_with fail
          go_loop [1] (fun i => ∃ k : Nat, k ≤ m ∧ i = i64 ((q + k : Nat) : Int)) (fun i => s.size - (intOf i).toNat)
          case atStart => exact ⟨0, Nat.zero_le _, rfl⟩
          case round =>
            obtain ⟨k, hk, rfl⟩ := hrel
            by_cases hlk : q + k < s.size
            · have hc : ((q + k : Nat) : Int) < (s.size : Int) := by omega
              by_cases hkT : k < m
              · have hv := hT1.out k hkT hlk
                go_wp2_with fail
                go_round
                case rel => exact ⟨k + 1, by omega, by go_num⟩
                case measure => simp [intOf]; omega
              · obtain rfl : k = m := by omega
                have hv := hT2.out hlk
                go_wp2_with fail
                go_round
                case rel => exact ⟨q + k, by omega, by go_num, HQ2⟩
                case measure => simp [intOf]; omega
            · have hc : ¬ ((q + k : Nat) : Int) < (s.size : Int) := by omega
              obtain rfl : k = m := by omega
              go_wp2_with fail
              go_round
              case rel => exact ⟨q + k, by omega, by go_num, HQ2⟩
              case measure => simp [intOf]; omega
        · have a4 : ((n : Int) == 35) = false := by rw [beq_eq_false_iff_ne]; omega
          obtain rfl : q = T := by
            have := HQ.out
            rw [HD.out, gapLen_cons, if_neg (fun h => h.elim (fun h => h1 (HBl.out.1 h)) (fun h => h2 (HCm.out.1 h)))] at this
            omega
          clear h1 h2
          go_wp2_with fail
          go_ret
          exact ⟨rfl, rfl⟩
    · have hge : ¬ (q : Int) < (s.size : Int) := by omega
      obtain rfl : q = T := by
        have := HQ.out
        rw [List.drop_of_length_le (by rw [HL.out]; omega), gapLen_nil] at this
        omega
      go_wp2_with fail
      go_ret
      exact ⟨rfl, rfl⟩
end Go.Proofs.YtjfcdfhcmkdicaaDoor.Lx

/- The reference of the lexer: End, value, Token. -/
namespace Go.Proofs.YtjfcdfhcmkdicaaDoor.Lx
open Go.RowKit
set_option linter.unusedVariables false

set_option maxRecDepth 100000 in
set_option maxHeartbeats 2000000 in
theorem end_val (s : ByteArray) (p : Nat) (hs : s.size ≤ maxLen) (hp : p < s.size) (w : World) :
    Calls Tryd.prog 38 #[.string s, i64 (p : Nat)] w fun e w' => e = .returned (i64 ((p + endLen (s.data.toList.drop p) : Nat) : Int)) ∧ w = w' := by
  unfold maxLen at hs
  have hl : s.data.toList.length = s.size := Array.length_toList
  have hdc : s.data.toList.drop p = s[p] :: s.data.toList.drop (p + 1) := by
    rw [List.drop_eq_getElem_cons (by rw [hl]; exact hp)]; rfl
  obtain ⟨m, hm⟩ : ∃ m, endLen (s.data.toList.drop p) = m := ⟨_, rfl⟩
  rw [hm]
  have hmm := hm
  rw [hdc] at hmm
  obtain ⟨hm1, hm2, hin, hout⟩ := endLen_run m hmm
  rw [← hdc, List.length_drop, hl] at hm2
  have hL := letter_val s[p]
  have hD := digit_val s[p]
  obtain ⟨a, ha⟩ : ∃ a, isL s[p] = a := ⟨_, rfl⟩
  obtain ⟨b, hb⟩ : ∃ b, isD s[p] = b := ⟨_, rfl⟩
  rw [ha, hb] at hin hout
  rw [ha] at hL
  rw [hb] at hD
  have hel : ∀ k (h : p + k < s.size) (h' : k < (s[p] :: s.data.toList.drop (p + 1)).length), (s[p] :: s.data.toList.drop (p + 1))[k] = s[p + k] := fun k h h' => by
    simp only [← hdc, List.getElem_drop]; rfl
  have hT1 : Hid (∀ k, 1 ≤ k → k < m → ∀ h : p + k < s.size, onB a b s[p + k] = true) := Lib.hid (fun k hk hkm h => by
    have h' : k < (s[p] :: s.data.toList.drop (p + 1)).length := by rw [← hdc, List.length_drop, hl]; omega
    have := hin k hk hkm h'
    rwa [hel k h h'] at this)
  have hT2 : Hid (∀ h : p + m < s.size, onB a b s[p + m] = false) := Lib.hid (fun h => by
    have h' : m < (s[p] :: s.data.toList.drop (p + 1)).length := by rw [← hdc, List.length_drop, hl]; omega
    have := hout h'
    rwa [hel m h h'] at this)
  have HL := Lib.hid hL
  have HD := Lib.hid hD
  have HLn := Lib.hid hl
  clear hm hmm hdc hin hout ha hb hel hL hD hl
  go_enter Tryd.func38, Tryd.ntmps38
  go_wp2_with fail
  refine (HL.out _).mono ?_
  rintro e w1 ⟨rfl, rfl⟩
  go_wp2_with fail
  refine (HD.out _).mono ?_
  rintro e w1 ⟨rfl, rfl⟩
  go_wp2_with fail
  go_loop [5] (fun i => ∃ k : Nat, 1 ≤ k ∧ k ≤ m ∧ i = i64 ((p + k : Nat) : Int)) (fun i => s.size - (intOf i).toNat)
  case atStart => exact ⟨1, by omega, hm1, by go_num⟩
  case round =>
    obtain ⟨k, hk1, hk, rfl⟩ := hrel
    by_cases hlt : p + k < s.size
    · have hc : ((p + k : Nat) : Int) < (s.size : Int) := by omega
      have HL1 := Lib.hid (letter_val s[p + k])
      have HD1 := Lib.hid (digit_val s[p + k])
      obtain ⟨v, hv⟩ : ∃ v, onB a b s[p + k] = v := ⟨_, rfl⟩
      have hv2 := hv
      unfold onB at hv2
      obtain ⟨x, hx⟩ : ∃ x, isL s[p + k] = x := ⟨_, rfl⟩
      obtain ⟨y, hy⟩ : ∃ y, isD s[p + k] = y := ⟨_, rfl⟩
      rw [hx, hy] at hv2
      rw [hx] at HL1
      rw [hy] at HD1
      have HV := Lib.hid hv
      have HV2 := Lib.hid hv2
      obtain ⟨d, hd⟩ : ∃ d, ((s[p + k].toNat : Int) == 95) = d := ⟨_, rfl⟩
      have hd2 : decide (s[p + k].toNat = 95) = d := by
        rw [← hd, Bool.eq_iff_iff]; simp; omega
      rw [hd2] at HV2
      have hkm : (v = true → k < m) ∧ (v = false → k = m) := by
        refine ⟨fun h => ?_, fun h => ?_⟩
        · rcases Nat.lt_or_ge k m with h1 | h1
          · exact h1
          · obtain rfl : k = m := by omega
            have := hT2.out hlt
            rw [HV.out, h] at this
            cases this
        · rcases Nat.lt_or_ge k m with h1 | h1
          · have := hT1.out k hk1 h1 hlt
            rw [HV.out, h] at this
            cases this
          · omega
      clear hd2
      have HKM := Lib.hid hkm
      clear hkm
      cases a <;> cases b <;> cases x <;> cases y <;> cases d
      all_goals
        first
          | (obtain rfl : v = true := by rw [← HV2.out]; rfl
             have hlt2 := HKM.out.1 rfl
             go_wp2_with fail
             refine (HL1.out _).mono ?_
             rintro e w1 ⟨rfl, rfl⟩
             go_wp2_with fail
             refine (HD1.out _).mono ?_
             rintro e w1 ⟨rfl, rfl⟩
             go_wp2_with fail
             go_round
             case rel => exact ⟨k + 1, by omega, by omega, by go_num⟩
             case measure => simp [intOf]; omega)
          | (obtain rfl : v = false := by rw [← HV2.out]; rfl
             obtain rfl := HKM.out.2 rfl
             go_wp2_with fail
             refine (HL1.out _).mono ?_
             rintro e w1 ⟨rfl, rfl⟩
             go_wp2_with fail
             refine (HD1.out _).mono ?_
             rintro e w1 ⟨rfl, rfl⟩
             go_wp2_with fail
             go_ret
             exact ⟨rfl, rfl⟩)
    · have hc : ¬ ((p + k : Nat) : Int) < (s.size : Int) := by omega
      obtain rfl : k = m := by omega
      go_wp2_with fail
      go_ret
      exact ⟨rfl, rfl⟩
end Go.Proofs.YtjfcdfhcmkdicaaDoor.Lx

/- The reference of the lexer: value, Token. -/
namespace Go.Proofs.YtjfcdfhcmkdicaaDoor.Lx
open Go.RowKit
set_option linter.unusedVariables false

set_option maxHeartbeats 1000000 in
theorem value_val (s : ByteArray) (hs : s.size ≤ 8000) (hd : ∀ c ∈ s.data.toList, cls c = 4) (w : World) :
    Calls Tryd.prog 58 #[.string s] w fun e w' => e = .returned (i64 (capv s.data.toList : Nat)) ∧ w = w' := by
  have hl : s.data.toList.length = s.size := Array.length_toList
  have HL := Lib.hid hl; clear hl
  have HD := Lib.hid hd; clear hd
  go_enter Tryd.func58, Tryd.ntmps58
  go_wp2_with fail
  go_loop [3, 4] (fun n i => ∃ k : Nat, ∃ v : Nat, k ≤ s.size ∧ i = i64 (k : Nat) ∧ n = i64 (v : Nat) ∧ v ≤ 1000000001 ∧ Hid (capv (s.data.toList.take k) = v)) (fun _ i => s.size - (intOf i).toNat)
  case atStart => exact ⟨0, 0, Nat.zero_le _, rfl, rfl, by omega, Lib.hid rfl⟩
  case round =>
    obtain ⟨k, v, hk, rfl, rfl, hv, HV⟩ := hrel
    by_cases hlt : k < s.size
    · have hlt' : (k : Int) < (s.size : Int) := by omega
      have hkl : k < s.data.toList.length := by rw [HL.out]; exact hlt
      have hc := HD.out s[k] (List.getElem_mem hkl)
      have hw8 := w8_digit s[k] hc
      obtain ⟨d, hdd⟩ : ∃ d, s[k].toNat - 48 = d := ⟨_, rfl⟩
      rw [hdd] at hw8
      have hd9 : d ≤ 207 := by have := UInt8.toNat_lt s[k]; omega
      have HN : Hid (capv (s.data.toList.take (k + 1)) = min (10 * v + d) 1000000001) := Lib.hid (by
        rw [List.take_succ_eq_append_getElem hkl, capv_snoc, HV.out, ← hdd]; rfl)
      clear hdd hc
      go_wp2_with fail
      go_round
      case rel => exact ⟨k + 1, min (10 * v + d) 1000000001, by omega, by go_num, congrArg (Value.int .i64) (by omega), by omega, HN⟩
      case measure => simp [intOf]; omega
    · have hge : ¬ (k : Int) < (s.size : Int) := by omega
      obtain rfl : k = s.size := by omega
      have HV2 : Hid (capv s.data.toList = v) := Lib.hid (by rw [← HV.out, List.take_of_length_le (by rw [HL.out]; exact Nat.le_refl _)])
      go_wp2_with fail
      go_ret
      exact ⟨ret_i (by rw [HV2.out]), rfl⟩

theorem alloc_below (w : World) (cs : Array Value) (t : TypeId) : Below w.heap.size w (w.alloc (.cells cs t)) := (Below.refl _ w).alloc (Nat.le_refl _) _
set_option maxHeartbeats 1000000 in
theorem rtok_name (s : ByteArray) (h0 : 0 < s.size) (hk : cls s[0] = 3) (hs : s.size ≤ 8000) (w : World) :
    Calls Tryd.prog 39 #[.string s] w fun e w' => e = .returned (tokV (tokenOf 3 s.data.toList)) ∧ Below w.heap.size w w' := by
  have hl : s.data.toList.length = s.size := Array.length_toList
  have e0 : tokenOf 3 s.data.toList = if 12 < s.size then .error 3 else .ok ⟨1, s, 0, 0⟩ := by
    unfold tokenOf; rw [if_pos rfl, hl]
  have hL := letter_val s[0]
  have hD := digit_val s[0]
  rw [show isL s[0] = true by unfold isL; simp [hk]] at hL
  rw [show isD s[0] = false by unfold isD; simp [hk]] at hD
  have HL := Lib.hid hL
  have HD := Lib.hid hD
  rw [e0]
  clear e0 hl hk hL hD
  by_cases h : 12 < s.size
  · have h' : (12 : Int) < (s.size : Int) := by omega
    rw [if_pos h]
    clear h
    unfold tokV
    go_enter Tryd.func39, Tryd.ntmps39
    go_wp2_with fail
    refine (HL.out _).mono ?_
    rintro e w1 ⟨rfl, rfl⟩
    go_wp2_with fail
    refine (HD.out _).mono ?_
    rintro e w1 ⟨rfl, rfl⟩
    go_wp2_with fail
    refine bodyPost_ret (v := .tuple #[.agg #[i64 0, .string ⟨#[]⟩, i64 0, i64 0], i64 3]) ?_ rfl ⟨rfl, alloc_below _ _ _⟩
    simp [results, go_sem]
  · have h' : ¬ (12 : Int) < (s.size : Int) := by omega
    rw [if_neg h]
    clear h
    unfold tokV
    go_enter Tryd.func39, Tryd.ntmps39
    go_wp2_with fail
    refine (HL.out _).mono ?_
    rintro e w1 ⟨rfl, rfl⟩
    go_wp2_with fail
    refine (HD.out _).mono ?_
    rintro e w1 ⟨rfl, rfl⟩
    go_wp2_with fail
    refine bodyPost_ret (v := .tuple #[.agg #[i64 1, .string s, i64 0, i64 0], i64 0]) ?_ rfl ⟨rfl, alloc_below _ _ _⟩
    simp [results, go_sem]
set_option maxHeartbeats 1000000 in
theorem rtok_punct (s : ByteArray) (h0 : 0 < s.size) (hk : cls s[0] = 5) (w : World) :
    Calls Tryd.prog 39 #[.string s] w fun e w' => e = .returned (tokV (tokenOf 5 s.data.toList)) ∧ Below w.heap.size w w' := by
  have e0 : tokenOf 5 s.data.toList = .ok ⟨3, s, 0, 0⟩ := by
    unfold tokenOf; rw [if_neg (by decide), if_neg (by decide)]
  have hL := letter_val s[0]
  have hD := digit_val s[0]
  rw [show isL s[0] = false by unfold isL; simp [hk]] at hL
  rw [show isD s[0] = false by unfold isD; simp [hk]] at hD
  have HL := Lib.hid hL
  have HD := Lib.hid hD
  rw [e0]
  clear e0 hk hL hD
  unfold tokV
  go_enter Tryd.func39, Tryd.ntmps39
  go_wp2_with fail
  refine (HL.out _).mono ?_
  rintro e w1 ⟨rfl, rfl⟩
  go_wp2_with fail
  refine (HD.out _).mono ?_
  rintro e w1 ⟨rfl, rfl⟩
  go_wp2_with fail
  refine bodyPost_ret (v := .tuple #[.agg #[i64 3, .string s, i64 0, i64 0], i64 0]) ?_ rfl ⟨rfl, alloc_below _ _ _⟩
  simp [results, go_sem]
set_option maxHeartbeats 2000000 in
theorem rtok_num (s : ByteArray) (h0 : 0 < s.size) (hd : ∀ c ∈ s.data.toList, cls c = 4) (hs : s.size ≤ 8000) (w : World) :
    Calls Tryd.prog 39 #[.string s] w fun e w' => e = .returned (tokV (tokenOf 4 s.data.toList)) ∧ Below w.heap.size w w' := by
  have hl : s.data.toList.length = s.size := Array.length_toList
  have hk : cls s[0] = 4 := hd s[0] (List.getElem_mem (by rw [hl]; exact h0))
  have HVal := Lib.hid (value_val s hs hd)
  obtain ⟨z, hz⟩ : ∃ z, capv s.data.toList = z := ⟨_, rfl⟩
  have hz2 : z = min (num s.data.toList) 1000000001 := hz.symm
  have e0 : tokenOf 4 s.data.toList = if 1 < s.size ∧ s[0].toNat = 48 then .error 7 else if 1000000000 < z then .error 3 else .ok ⟨2, ⟨#[]⟩, z, 0⟩ := by
    unfold tokenOf
    rw [if_neg (by decide), if_pos rfl, hl]
    have e : s.data.toList.head?.map (·.toNat) = some s[0].toNat := by
      have hh : s.data.toList.head? = some s[0] := by
        rw [List.head?_eq_getElem?, List.getElem?_eq_getElem (by rw [hl]; exact h0)]; rfl
      rw [hh]; rfl
    rw [e]
    simp only [Option.some.injEq]
    by_cases hn : 1000000000 < num s.data.toList
    · rw [if_pos hn, if_pos (show 1000000000 < z by omega)]
    · rw [if_neg hn, if_neg (show ¬ 1000000000 < z by omega), show num s.data.toList = z by omega]
  rw [hz] at HVal
  have hL := letter_val s[0]
  have hD := digit_val s[0]
  rw [show isL s[0] = false by unfold isL; simp [hk]] at hL
  rw [show isD s[0] = true by unfold isD; simp [hk]] at hD
  have HL := Lib.hid hL
  have HD := Lib.hid hD
  have hzb : z ≤ 1000000001 := by omega
  rw [e0]
  clear e0 hk hL hD hl hz hz2 hd
  by_cases h1 : 1 < s.size ∧ s[0].toNat = 48
  · obtain ⟨h1, h48⟩ := h1
    have h1' : (1 : Int) < (s.size : Int) := by omega
    have h8 : ((s[0].toNat : Int) == 48) = true := by rw [beq_iff_eq]; omega
    rw [if_pos ⟨h1, h48⟩]
    clear h48 h1
    unfold tokV
    go_enter Tryd.func39, Tryd.ntmps39
    go_wp2_with fail
    refine (HL.out _).mono ?_
    rintro e w1 ⟨rfl, rfl⟩
    go_wp2_with fail
    refine (HD.out _).mono ?_
    rintro e w1 ⟨rfl, rfl⟩
    go_wp2_with fail
    refine bodyPost_ret (v := .tuple #[.agg #[i64 0, .string ⟨#[]⟩, i64 0, i64 0], i64 7]) ?_ rfl ⟨rfl, alloc_below _ _ _⟩
    simp [results, go_sem]
  · rw [if_neg h1]
    obtain ⟨b1, b2, hb⟩ : ∃ b1 b2 : Bool, decide ((1 : Int) < (s.size : Int)) = b1 ∧ ((s[0].toNat : Int) == 48) = b2 := ⟨_, _, rfl, rfl⟩
    have hbb : (b1 && b2) = false := by
      rw [← hb.1, ← hb.2, Bool.eq_false_iff]
      simp only [ne_eq, Bool.and_eq_true, decide_eq_true_eq, beq_iff_eq]
      omega
    obtain ⟨hb1, hb2⟩ := hb
    clear h1
    by_cases h9 : 1000000000 < z
    · have h9' : (1000000000 : Int) < (z : Int) := by omega
      rw [if_pos h9]
      unfold tokV
      clear h9
      cases b1 <;> cases b2
      case true.true => cases hbb
      all_goals
        clear hbb
        first
          | have h1' : (1 : Int) < (s.size : Int) := of_decide_eq_true hb1
          | have h1' : ¬ (1 : Int) < (s.size : Int) := of_decide_eq_false hb1
        clear hb1
        go_enter Tryd.func39, Tryd.ntmps39
        go_wp2_with fail
        refine (HL.out _).mono ?_
        rintro e w1 ⟨rfl, rfl⟩
        go_wp2_with fail
        refine (HD.out _).mono ?_
        rintro e w1 ⟨rfl, rfl⟩
        go_wp2_with fail
        refine (HVal.out _).mono ?_
        rintro e w1 ⟨rfl, rfl⟩
        go_wp2_with fail
        refine bodyPost_ret (v := .tuple #[.agg #[i64 0, .string ⟨#[]⟩, i64 0, i64 0], i64 3]) ?_ rfl ⟨rfl, alloc_below _ _ _⟩
        simp [results, go_sem]
    · have h9' : ¬ (1000000000 : Int) < (z : Int) := by omega
      rw [if_neg h9]
      unfold tokV
      clear h9
      cases b1 <;> cases b2
      case true.true => cases hbb
      all_goals
        clear hbb
        first
          | have h1' : (1 : Int) < (s.size : Int) := of_decide_eq_true hb1
          | have h1' : ¬ (1 : Int) < (s.size : Int) := of_decide_eq_false hb1
        clear hb1
        go_enter Tryd.func39, Tryd.ntmps39
        go_wp2_with fail
        refine (HL.out _).mono ?_
        rintro e w1 ⟨rfl, rfl⟩
        go_wp2_with fail
        refine (HD.out _).mono ?_
        rintro e w1 ⟨rfl, rfl⟩
        go_wp2_with fail
        refine (HVal.out _).mono ?_
        rintro e w1 ⟨rfl, rfl⟩
        go_wp2_with fail
        refine bodyPost_ret (v := .tuple #[.agg #[i64 2, .string ⟨#[]⟩, i64 (z : Nat), i64 0], i64 0]) ?_ rfl ⟨rfl, alloc_below _ _ _⟩
        simp [results, go_sem]
end Go.Proofs.YtjfcdfhcmkdicaaDoor.Lx

/- The reference's Lex. -/
namespace Go.Proofs.YtjfcdfhcmkdicaaDoor.Lx
open Go.RowKit
set_option linter.unusedVariables false

theorem lexE_skip : ∀ (n : Nat) (l : List UInt8) (p : Nat) (acc : List Tok), l.length ≤ n → lexE acc (spans l p) = lexE acc (spans (l.drop (gapLen l)) (p + gapLen l))
  | n, [], p, acc, _ => by rw [gapLen_nil]; rfl
  | 0, c :: r, p, acc, h => absurd h (by simp)
  | n + 1, c :: r, p, acc, h => by
    rw [gapLen_cons]
    split
    · rename_i hc
      rw [spans_cons]
      have h1 := spanLen_pos c r
      have ih := lexE_skip n ((c :: r).drop (spanLen (c :: r))) (p + spanLen (c :: r)) acc (by rw [List.length_drop]; simp only [List.length_cons] at *; omega)
      have hst : stepS acc ⟨p, cls c, ⟨((c :: r).take (spanLen (c :: r))).toArray⟩⟩ = .ok acc := by unfold stepS; rw [if_pos hc]
      simp only [lexE]
      rw [hst]
      simp only
      rw [ih, List.drop_drop, Nat.add_assoc]
    · rfl
theorem gapLen_stop : ∀ (n : Nat) (l : List UInt8), l.length ≤ n → ∀ c r, l.drop (gapLen l) = c :: r → ¬ (cls c = 1 ∨ cls c = 2)
  | n, [], _, c, r, h => by rw [gapLen_nil] at h; cases h
  | 0, d :: t, h, _, _, _ => absurd h (by simp)
  | n + 1, d :: t, h, c, r, e => by
    rw [gapLen_cons] at e
    split at e
    · have h1 := spanLen_pos d t
      rw [← List.drop_drop] at e
      exact gapLen_stop n _ (by rw [List.length_drop]; simp only [List.length_cons] at *; omega) c r e
    · rename_i hc
      rw [List.drop_zero] at e
      cases e
      exact hc
theorem gapLen_le : ∀ (n : Nat) (l : List UInt8), l.length ≤ n → gapLen l ≤ l.length
  | n, [], _ => by rw [gapLen_nil]; exact Nat.le_refl _
  | 0, d :: t, h => absurd h (by simp)
  | n + 1, d :: t, h => by
    rw [gapLen_cons]
    split
    · have h1 := spanLen_pos d t
      have h2 := spanLen_le (d :: t)
      have := gapLen_le n ((d :: t).drop (spanLen (d :: t))) (by rw [List.length_drop]; simp only [List.length_cons] at *; omega)
      rw [List.length_drop] at this
      omega
    · exact Nat.zero_le _

/-- The loop of the reference's Lex, at offset q. -/
def RL (s : ByteArray) (F : Nat) (w : World) (out at_ : Value) (wr : World) : Prop :=
  ∃ (q : Nat) (acc : List Tok) (A : Option Addr) (c : Nat), at_ = i64 (q : Nat) ∧ q ≤ s.size ∧ out = .slice A acc.length c ∧ acc.length ≤ 2000 ∧ lexE [] (spans s.data.toList 0) = lexE acc (spans (s.data.toList.drop q) q) ∧
    (∀ h : q < s.size, ¬ (cls s[q] = 1 ∨ cls s[q] = 2)) ∧ wr.ownsRow F 49 4 (.slice A acc.length c) acc.length (acc.flatMap decT) ∧ Below F w wr

theorem token_ref (k : Nat) (s : ByteArray) (h0 : 0 < s.size) (hk : cls s[0] = k) (hk2 : k = 3 ∨ k = 4 ∨ k = 5) (hd : k = 4 → ∀ c ∈ s.data.toList, cls c = 4) (hs : s.size ≤ 8000) (w : World) :
    Calls Tryd.prog 39 #[.string s] w fun e w' => e = .returned (tokV (tokenOf k s.data.toList)) ∧ Below w.heap.size w w' := by
  rcases hk2 with rfl | rfl | rfl
  · exact rtok_name s h0 hk hs w
  · exact rtok_num s h0 (hd rfl) hs w
  · exact rtok_punct s h0 hk w

theorem rl_next {s : ByteArray} {F : Nat} {w wr : World} {p : Nat} {acc : List Tok} {A : Option Addr} {c : Nat} (hp : p ≤ s.size) (ha : acc.length ≤ 2000) (hE : lexE [] (spans s.data.toList 0) = lexE acc (spans (s.data.toList.drop p) p))
    (hR : wr.ownsRow F 49 4 (.slice A acc.length c) acc.length (acc.flatMap decT)) (hB : Below F w wr) : RL s F w (.slice A acc.length c) (i64 ((p + gapLen (s.data.toList.drop p) : Nat) : Int)) wr := by
  have hl : s.data.toList.length = s.size := Array.length_toList
  have hg := gapLen_le _ (s.data.toList.drop p) (Nat.le_refl _)
  rw [List.length_drop, hl] at hg
  refine ⟨p + gapLen (s.data.toList.drop p), acc, A, c, rfl, by omega, rfl, ha, ?_, fun h => ?_, hR, hB⟩
  · rw [hE, lexE_skip _ _ _ _ (Nat.le_refl _), List.drop_drop]
  · refine gapLen_stop _ (s.data.toList.drop p) (Nat.le_refl _) _ (s.data.toList.drop (p + gapLen (s.data.toList.drop p) + 1)) ?_
    rw [List.drop_drop, List.drop_eq_getElem_cons (by rw [hl]; exact h)]
    rfl

set_option maxRecDepth 100000 in
set_option maxHeartbeats 2000000 in
theorem rlex_val (s : ByteArray) (hs : s.size ≤ maxLen) (w : World) :
    Calls Tryd.prog 22 #[.string s] w (LexPost w (LEX s.data.toList)) := by
  unfold maxLen at hs
  have hl : s.data.toList.length = s.size := Array.length_toList
  by_cases hbig : 8000 < s.size
  · have hb' : (8000 : Int) < (s.size : Int) := by omega
    have he : LEX s.data.toList = ⟨[], 2, 0⟩ := by unfold LEX; rw [if_pos (by rw [hl]; exact hbig)]
    rw [he]
    clear he hl hbig
    go_enter Tryd.func22, Tryd.ntmps22
    go_wp2_with fail
    go_ret3
    exact ⟨none, 0, 0, rfl, Toks.nil_ _, Below.refl _ _⟩
  · have hb' : ¬ (8000 : Int) < (s.size : Int) := by omega
    have he : LEX s.data.toList = resOf (lexE [] (spans s.data.toList 0)) := by unfold LEX; rw [if_neg (by rw [hl]; exact hbig)]
    rw [he]
    have HL := Lib.hid hl
    clear he hl
    have hg0 := gap_val s 0 (by unfold maxLen; omega) (Nat.zero_le _)
    have hR0 := Lib.hid (rl_next (s := s) (F := w.heap.size) (w := w) (wr := w) (p := 0) (acc := []) (A := none) (c := 0) (Nat.zero_le _) (by simp) (by rw [List.drop_zero]) ⟨rfl, .inl ⟨rfl, rfl⟩⟩ (Below.refl _ _))
    obtain ⟨g0, hg⟩ : ∃ g0, 0 + gapLen (s.data.toList.drop 0) = g0 := ⟨_, rfl⟩
    rw [hg] at hg0 hR0
    have HG0 := Lib.hid hg0
    clear hg hg0
    go_enter Tryd.func22, Tryd.ntmps22
    go_wp2_with fail
    refine (HG0.out _).mono ?_
    rintro e w1 ⟨rfl, rfl⟩
    go_wp2_with fail
    go_loopw [5, 6] (fun out at_ wr => RL s w.heap.size w out at_ wr) (fun _ at_ _ => s.size - (intOf at_).toNat)
    case atStart => exact hR0.out
    case round =>
      obtain ⟨q, acc, A, c, rfl, hq, rfl, hacc, hE, hst, hR, hB⟩ := hrel
      clear HG0 hR0
      have HE := Lib.hid hE
      have HR := Lib.hid hR
      have HB := Lib.hid hB
      have HSt := Lib.hid hst
      clear hE hR hB hst
      by_cases hlt : q < s.size
      · have hlt' : (q : Int) < (s.size : Int) := by omega
        have hbg := begins_val s[q]
        obtain ⟨v, hv⟩ : ∃ v, isB s[q] = v := ⟨_, rfl⟩
        rw [hv] at hbg
        have HBg := Lib.hid hbg
        have HV := Lib.hid hv
        clear hbg hv
        have hql : q < s.data.toList.length := by rw [HL.out]; exact hlt
        have hdc : s.data.toList.drop q = s[q] :: s.data.toList.drop (q + 1) := by
          rw [List.drop_eq_getElem_cons hql]; rfl
        have HD := Lib.hid hdc
        clear hdc
        cases v with
        | false =>
          have hc0 : cls s[q] = 0 := by
            have h1 := HSt.out hlt
            have h2 := HV.out
            unfold isB isL isD at h2
            simp only [Bool.or_eq_false_iff, decide_eq_false_iff_not] at h2
            have h3 := cls_le s[q]
            omega
          have HL2 : Hid (lexE [] (spans s.data.toList 0) = .error (7, q)) := Lib.hid (by
            rw [HE.out, HD.out, spans_cons]
            simp only [lexE]
            rw [show stepS acc _ = .error (7, q) from by unfold stepS; rw [if_neg (HSt.out hlt), if_pos hc0]])
          clear hc0
          go_wp2_with fail
          refine (HBg.out _).mono ?_
          rintro e w1 ⟨rfl, rfl⟩
          go_wp2_with fail
          go_ret3
          exact ⟨none, 0, 0, by rw [HL2.out]; rfl, by rw [HL2.out]; exact Toks.nil_ _, HB.out⟩
        | true =>
          by_cases hfull : acc.length = 2000
          · have HL2 : Hid (lexE [] (spans s.data.toList 0) = .error (2, q)) := Lib.hid (by
              rw [HE.out, HD.out, spans_cons]
              simp only [lexE]
              have h0 : cls s[q] ≠ 0 := fun h => by
                have h2 := HV.out
                unfold isB isL isD at h2
                rw [h] at h2
                cases h2
              rw [show stepS acc _ = .error (2, q) from by unfold stepS; rw [if_neg (HSt.out hlt), if_neg h0, if_pos hfull]])
            have hf : (2000 : Int) ≤ (acc.length : Int) := by omega
            clear hfull
            go_wp2_with fail
            refine (HBg.out _).mono ?_
            rintro e w1 ⟨rfl, rfl⟩
            go_wp2_with fail
            go_ret3
            exact ⟨none, 0, 0, by rw [HL2.out]; rfl, by rw [HL2.out]; exact Toks.nil_ _, HB.out⟩
          · have hf : ¬ (2000 : Int) ≤ (acc.length : Int) := by omega
            obtain ⟨k, hk⟩ : ∃ k, cls s[q] = k := ⟨_, rfl⟩
            have h345 : k = 3 ∨ k = 4 ∨ k = 5 := by
              have h2 := HV.out
              unfold isB isL isD at h2
              rw [hk] at h2
              simp only [Bool.or_eq_true, decide_eq_true_eq] at h2
              exact h2
            obtain ⟨T, hT⟩ : ∃ T, spanLen (s.data.toList.drop q) = T := ⟨_, rfl⟩
            have hT1 : 1 ≤ T := by rw [← hT, HD.out]; exact spanLen_pos _ _
            have hT2 : q + T ≤ s.size := by
              have := spanLen_le (s.data.toList.drop q)
              rw [hT, List.length_drop, HL.out] at this
              omega
            have hend := end_val s q (by unfold maxLen; omega) hlt
            rw [HD.out, endLen_span (by omega), ← HD.out, hT] at hend
            have hokx : okS ⟨q, cls s[q], s.extract q (q + T)⟩ := by
              rw [extract_eq, ← hT, HD.out]
              exact okS_head (by rw [← HD.out, List.length_drop, HL.out]; omega)
            have hhead : spans (s.data.toList.drop q) q = ⟨q, k, s.extract q (q + T)⟩ :: spans (s.data.toList.drop (q + T)) (q + T) := by
              rw [extract_eq, ← hT, ← List.drop_drop, HD.out, spans_cons, hk]
            rw [hk] at hokx
            have hxs : (s.extract q (q + T)).size = T := by
              rw [ByteArray.size_extract]; omega
            have hx0 : ∀ h : 0 < (s.extract q (q + T)).size, cls (s.extract q (q + T))[0] = k := fun h => by
              rw [ByteArray.getElem_extract]
              exact hk
            have HSl := slice_str s q T hT2
            obtain ⟨tx, htx⟩ : ∃ tx, s.extract q (q + T) = tx := ⟨_, rfl⟩
            rw [htx] at hokx hhead hxs
            simp only [htx] at hx0 HSl
            have hx1 : 0 < tx.size := by rw [hxs]; omega
            have hTok := token_ref k tx hx1 (hx0 hx1) h345 hokx.2.2.1 hokx.2.2.2.1
            have hstep := stepS_tok (acc := acc) (p := q) (k := k) (t := tx) (by omega) (by omega) hfull
            have hE2 := HE.out
            rw [hhead] at hE2
            simp only [lexE] at hE2
            obtain ⟨r, hr⟩ : ∃ r, tokenOf k tx.data.toList = r := ⟨_, rfl⟩
            rw [hr] at hTok hstep
            have HTE := Lib.hid (fun e he => tokenOf_err (k := k) (l := tx.data.toList) (e := e) (hr.trans he))
            have HEnd := Lib.hid hend
            clear hT hend hokx hhead hxs hx0 htx hr
            have hlt2 : acc.length < 2000 := by omega
            clear hfull h345 hk
            cases r with
            | error er =>
              have her := HTE.out er rfl
              have en : ((er : Int) != 0) = true := by rw [bne_iff_ne]; omega
              simp only [tokV] at hTok
              rw [hstep] at hE2
              have HT := Lib.hid hTok
              have HL2 : Hid (lexE [] (spans s.data.toList 0) = .error (er, q)) := Lib.hid hE2
              clear hTok hE2 hstep her HTE
              go_wp2_with fail
              refine (HBg.out _).mono ?_
              rintro e w1 ⟨rfl, rfl⟩
              go_wp2_with fail
              refine (HEnd.out _).mono ?_
              rintro e w1 ⟨rfl, rfl⟩
              go_wp2_with fail
              refine (HT.out _).mono ?_
              rintro e w3 ⟨rfl, hb3⟩
              have HB3 := Lib.hid (below_trans' HB.out hb3)
              clear hb3
              go_wp2_with fail
              go_ret3
              exact ⟨none, 0, 0, by rw [HL2.out]; rfl, by rw [HL2.out]; exact Toks.nil_ _, HB3.out.alloc HB3.out.size _⟩
            | ok t =>
              simp only [tokV] at hTok
              rw [hstep] at hE2
              have HT := Lib.hid hTok
              have HL2 := Lib.hid hE2
              have HGp := Lib.hid (gap_val s (q + T) (by unfold maxLen; omega) hT2)
              obtain ⟨i0, hi, hz0, hz1, hz2⟩ := info_parts info_tok
              clear hTok hE2 hstep HTE
              go_wp2_with fail
              refine (HBg.out _).mono ?_
              rintro e w1 ⟨rfl, rfl⟩
              go_wp2_with fail
              refine (HEnd.out _).mono ?_
              rintro e w1 ⟨rfl, rfl⟩
              go_wp2_with fail
              refine (HT.out _).mono ?_
              rintro e w3 ⟨rfl, hb3⟩
              have HB3 := Lib.hid (below_trans' HB.out hb3)
              have R3 := Lib.hid (own_keep HR.out hb3)
              clear hb3
              obtain ⟨W2, hW2⟩ : ∃ W2, (w3.alloc (.cells #[i64 (t.kind : Nat), .string t.text, i64 (t.n : Nat), i64 (q : Nat)] 49)).alloc (.cells #[i64 (t.kind : Nat), .string t.text, i64 (t.n : Nat), i64 (q : Nat)] 49) = W2 := ⟨_, rfl⟩
              have hB12 : Below w3.heap.size w3 W2 := by rw [← hW2]; exact ((Below.refl _ w3).alloc (Nat.le_refl _) _).alloc (by simp) _
              have R8 := Lib.hid (own_keep R3.out hB12)
              have HRf : Hid (Rd W2 W2.heap.size 4 (some ⟨w3.heap.size + 1, 0, none⟩) 1 (decT { t with pos := q })) := by
                have hs2 : w3.heap.size + 2 ≤ W2.heap.size := by rw [← hW2]; simp
                have h0 := rd_fresh (w3.alloc (.cells #[i64 (t.kind : Nat), .string t.text, i64 (t.n : Nat), i64 (q : Nat)] 49)) 49 #[i64 (t.kind : Nat), .string t.text, i64 (t.n : Nat), i64 (q : Nat)] 4 1 (decT { t with pos := q }) rfl rfl
                rw [hW2, World.size_alloc] at h0
                exact Lib.hid (h0.more (by omega))
              have HB2 := Lib.hid (below_trans' HB3.out hB12)
              clear hB12
              go_wp2_with (first
                | (at_builtin; (try rw [hW2]); refine wpList_append_rd _ rfl (.tmp 48) (.tmp 50) _ rfl w.heap.size 49 i0 _ 4 40 Tryd.underlying45 hi hz0 hz1 hz2 rfl (by omega) _ acc.length _ rfl R8.out _ (some ⟨w3.heap.size + 1, 0, none⟩) 1 1 _ rfl HRf.out (one_decT _) (by simp only [maxLen]; omega) (by omega) HB2.out.size ?_
                   intro Aa ca w4 hown1 hfm hg1
                   have HO := Lib.hid hown1
                   have HB4 := Lib.hid (own_below R8.out hg1 HB2.out (Nat.le_refl _) HB2.out.size)
                   clear hown1 hfm hg1))
              refine (HGp.out _).mono ?_
              rintro e w5 ⟨rfl, rfl⟩
              have hlen : (acc ++ [{ t with pos := q }]).length = acc.length + 1 := by simp
              have hfl : (acc ++ [{ t with pos := q }]).flatMap decT = acc.flatMap decT ++ decT { t with pos := q } := by simp
              have hN := rl_next (s := s) (F := w.heap.size) (w := w) (wr := w4) (p := q + T) (acc := acc ++ [{ t with pos := q }]) (A := Aa) (c := ca) hT2 (by rw [hlen]; omega) HL2.out (by rw [hlen, hfl]; exact HO.out) HB4.out
              rw [hlen] at hN
              have HN := Lib.hid hN
              have hgt := gapLen_le _ (s.data.toList.drop (q + T)) (Nat.le_refl _)
              rw [List.length_drop, HL.out] at hgt
              obtain ⟨g, hgg⟩ : ∃ g, gapLen (s.data.toList.drop (q + T)) = g := ⟨_, rfl⟩
              rw [hgg] at HN hgt ⊢
              clear hlen hfl hN hgg
              go_wp2_with fail
              go_roundw
              case rel =>
                have := HN.out
                rw [show (q + T + g : Nat) = q + T + g from rfl] at this
                simpa using this
              case measure => simp [intOf]; omega
      · have hge : ¬ (q : Int) < (s.size : Int) := by omega
        have HL2 : Hid (lexE [] (spans s.data.toList 0) = .ok acc) := Lib.hid (by
          rw [HE.out, List.drop_of_length_le (by rw [HL.out]; omega), spans_nil]; rfl)
        go_wp2_with fail
        go_ret3
        exact ⟨A, acc.length, c, by rw [HL2.out]; rfl, by rw [HL2.out]; exact own_toks HR.out, HB.out⟩
end Go.Proofs.YtjfcdfhcmkdicaaDoor.Lx
