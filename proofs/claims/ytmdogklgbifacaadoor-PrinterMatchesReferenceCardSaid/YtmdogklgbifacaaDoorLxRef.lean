/- The reference of the lexer: its small functions. -/
import Derived.Test.YtmdogklgbifacaaDoorLxTok
namespace Go.Proofs.YtmdogklgbifacaaDoor.Lx
open Go.RowKit
set_option linter.unusedVariables false

def isL (c : UInt8) : Bool := decide (cls c = 3)
def isD (c : UInt8) : Bool := decide (cls c = 4)
def isB (c : UInt8) : Bool := isL c || (isD c || decide (cls c = 5))
theorem isL_iff (c : UInt8) : isL c = (decide (97 ≤ c.toNat) && decide (c.toNat ≤ 122)) := by
  unfold isL cls
  rw [Bool.eq_iff_iff]
  simp only [decide_eq_true_eq, Bool.and_eq_true]
  constructor
  · intro h
    (repeat' split at h) <;> first | omega | assumption
  · intro h
    rw [if_neg (by omega), if_neg (by omega), if_pos h]
theorem isD_iff (c : UInt8) : isD c = (decide (48 ≤ c.toNat) && decide (c.toNat ≤ 57)) := by
  unfold isD cls
  rw [Bool.eq_iff_iff]
  simp only [decide_eq_true_eq, Bool.and_eq_true]
  constructor
  · intro h
    (repeat' split at h) <;> first | omega | assumption
  · intro h
    rw [if_neg (by omega), if_neg (by omega), if_neg (by omega), if_pos h]
theorem isP_iff (c : UInt8) : cls c = 5 ↔ c.toNat = 59 := by
  unfold cls
  constructor
  · intro h
    (repeat' split at h) <;> first | omega | assumption
  · intro h
    rw [if_neg (by omega), if_neg (by omega), if_neg (by omega), if_neg (by omega), if_pos h]
theorem letter_val (c : UInt8) (w : World) : Calls Tryd.prog 49 #[ub c] w fun e w' => e = .returned (.bool (isL c)) ∧ w = w' := by
  have hi := isL_iff c
  obtain ⟨v, hv⟩ : ∃ v, isL c = v := ⟨_, rfl⟩
  rw [hv] at hi ⊢
  have HI := Lib.hid hi
  clear hi hv
  by_cases h1 : 97 ≤ c.toNat
  · have h1' : (97 : Int) ≤ (c.toNat : Int) := by omega
    go_enter Tryd.func49, Tryd.ntmps49
    go_wp2_with fail
    go_ret
    refine ⟨rb ?_, rfl⟩
    rw [HI.out, Bool.eq_iff_iff]; simp; omega
  · have h1' : ¬ (97 : Int) ≤ (c.toNat : Int) := by omega
    go_enter Tryd.func49, Tryd.ntmps49
    go_wp2_with fail
    go_ret
    refine ⟨rb ?_, rfl⟩
    rw [HI.out, Bool.eq_iff_iff]; simp; omega
theorem digit_val (c : UInt8) (w : World) : Calls Tryd.prog 50 #[ub c] w fun e w' => e = .returned (.bool (isD c)) ∧ w = w' := by
  have hi := isD_iff c
  obtain ⟨v, hv⟩ : ∃ v, isD c = v := ⟨_, rfl⟩
  rw [hv] at hi ⊢
  have HI := Lib.hid hi
  clear hi hv
  by_cases h1 : 48 ≤ c.toNat
  · have h1' : (48 : Int) ≤ (c.toNat : Int) := by omega
    go_enter Tryd.func50, Tryd.ntmps50
    go_wp2_with fail
    go_ret
    refine ⟨rb ?_, rfl⟩
    rw [HI.out, Bool.eq_iff_iff]; simp; omega
  · have h1' : ¬ (48 : Int) ≤ (c.toNat : Int) := by omega
    go_enter Tryd.func50, Tryd.ntmps50
    go_wp2_with fail
    go_ret
    refine ⟨rb ?_, rfl⟩
    rw [HI.out, Bool.eq_iff_iff]; simp; omega
theorem begins_val (c : UInt8) (w : World) : Calls Tryd.prog 28 #[ub c] w fun e w' => e = .returned (.bool (isB c)) ∧ w = w' := by
  have HL := letter_val c
  have HD := digit_val c
  have hi : isB c = (isL c || (isD c || decide (c.toNat = 59))) := by
    unfold isB
    rw [show decide (cls c = 5) = decide (c.toNat = 59) from by rw [Bool.eq_iff_iff]; simp [isP_iff]]
  obtain ⟨v, hv⟩ : ∃ v, isB c = v := ⟨_, rfl⟩
  obtain ⟨a, ha⟩ : ∃ a, isL c = a := ⟨_, rfl⟩
  obtain ⟨b, hb⟩ : ∃ b, isD c = b := ⟨_, rfl⟩
  rw [hv] at hi ⊢
  rw [ha] at HL hi
  rw [hb] at HD hi
  have HI := Lib.hid hi
  have HL := Lib.hid HL
  have HD := Lib.hid HD
  clear hi hv ha hb
  cases a with
  | true =>
    go_enter Tryd.func28, Tryd.ntmps28
    go_wp2_with fail
    refine (HL.out _).mono ?_
    rintro e w1 ⟨rfl, rfl⟩
    go_wp2_with fail
    refine (HD.out _).mono ?_
    rintro e w1 ⟨rfl, rfl⟩
    go_wp2_with fail
    go_ret
    exact ⟨rb (by rw [HI.out]; rfl), rfl⟩
  | false =>
    cases b with
    | true =>
      go_enter Tryd.func28, Tryd.ntmps28
      go_wp2_with fail
      refine (HL.out _).mono ?_
      rintro e w1 ⟨rfl, rfl⟩
      go_wp2_with fail
      refine (HD.out _).mono ?_
      rintro e w1 ⟨rfl, rfl⟩
      go_wp2_with fail
      go_ret
      exact ⟨rb (by rw [HI.out]; rfl), rfl⟩
    | false =>
      go_enter Tryd.func28, Tryd.ntmps28
      go_wp2_with fail
      refine (HL.out _).mono ?_
      rintro e w1 ⟨rfl, rfl⟩
      go_wp2_with fail
      refine (HD.out _).mono ?_
      rintro e w1 ⟨rfl, rfl⟩
      go_wp2_with fail
      go_ret
      refine ⟨rb ?_, rfl⟩
      rw [HI.out, Bool.eq_iff_iff]; simp; omega

/-- How many bytes of gaps a text begins with. -/
def gapLen (l : List UInt8) : Nat :=
  match l with
  | [] => 0
  | c :: r => if cls c = 1 ∨ cls c = 2 then spanLen (c :: r) + gapLen ((c :: r).drop (spanLen (c :: r))) else 0
termination_by l.length
decreasing_by
  have := spanLen_pos c r
  simp only [List.length_drop, List.length_cons]
  omega
theorem gapLen_nil : gapLen [] = 0 := by rw [gapLen]
theorem gapLen_cons (c : UInt8) (r : List UInt8) : gapLen (c :: r) = if cls c = 1 ∨ cls c = 2 then spanLen (c :: r) + gapLen ((c :: r).drop (spanLen (c :: r))) else 0 := by rw [gapLen]
theorem spanLen_blank {c : UInt8} (h : cls c = 1) (r : List UInt8) : spanLen (c :: r) = 1 := by
  simp only [spanLen]; rw [if_neg (by omega), if_neg (by omega), if_neg (by omega)]
theorem spanLen_com {c : UInt8} (h : cls c = 2) (r : List UInt8) : spanLen (c :: r) = run inCom (c :: r) := by
  simp only [spanLen]; rw [if_pos h]
theorem blank_iff (c : UInt8) : cls c = 1 ↔ (c.toNat = 32 ∨ c.toNat = 9 ∨ c.toNat = 10) := by
  unfold cls
  constructor
  · intro h
    (repeat' split at h) <;> first | omega | assumption
  · intro h
    rw [if_pos h]
theorem com_iff (c : UInt8) : cls c = 2 ↔ c.toNat = 35 := by
  unfold cls
  constructor
  · intro h
    (repeat' split at h) <;> first | omega | assumption
  · intro h
    rw [if_neg (by omega), if_pos h]

set_option maxHeartbeats 1000000 in
theorem gap_val (s : ByteArray) (p : Nat) (hs : s.size ≤ maxLen) (hp : p ≤ s.size) (w : World) :
    Calls Tryd.prog 27 #[.string s, i64 (p : Nat)] w fun e w' => e = .returned (i64 ((p + gapLen (s.data.toList.drop p) : Nat) : Int)) ∧ w = w' := by
  unfold maxLen at hs
  have hl : s.data.toList.length = s.size := Array.length_toList
  have HL := Lib.hid hl; clear hl
  obtain ⟨T, hT⟩ : ∃ T, p + gapLen (s.data.toList.drop p) = T := ⟨_, rfl⟩
  rw [hT]
  have HT := Lib.hid hT; clear hT
  go_enter Tryd.func27, Tryd.ntmps27
  go_wp2_with fail
  go_loop [1] (fun i => ∃ q : Nat, q ≤ s.size ∧ i = i64 (q : Nat) ∧ Hid (q + gapLen (s.data.toList.drop q) = T)) (fun i => s.size - (intOf i).toNat)
  case atStart => exact ⟨p, hp, rfl, HT⟩
  case round =>
    obtain ⟨q, hq, rfl, HQ⟩ := hrel
    by_cases hlt : q < s.size
    · have hlt' : (q : Int) < (s.size : Int) := by omega
      have hdc : s.data.toList.drop q = s[q] :: s.data.toList.drop (q + 1) := by
        rw [List.drop_eq_getElem_cons (by rw [HL.out]; exact hlt)]; rfl
      obtain ⟨n, hn⟩ : ∃ n, s[q].toNat = n := ⟨_, rfl⟩
      have hb := blank_iff s[q]
      have hcm := com_iff s[q]
      rw [hn] at hb hcm
      have HN := Lib.hid hn
      have HD := Lib.hid hdc
      have HBl := Lib.hid hb
      have HCm := Lib.hid hcm
      clear hdc hb hcm
      by_cases h1 : n = 32 ∨ n = 9 ∨ n = 10
      · have HQ2 : Hid (q + 1 + gapLen (s.data.toList.drop (q + 1)) = T) := Lib.hid (by
          have hc := HBl.out.2 h1
          have := HQ.out
          rw [HD.out, gapLen_cons, if_pos (.inl hc), spanLen_blank hc, List.drop_succ_cons, List.drop_zero] at this
          omega)
        have e35 : ((n : Int) == 35) = false := by rw [beq_eq_false_iff_ne]; omega
        have e35' : ((n : Int) != 35) = true := by rw [bne_iff_ne]; omega
        rcases h1 with h1 | h1 | h1
        all_goals
          subst h1
          go_wp2_with fail
          go_round
          case rel => exact ⟨q + 1, by omega, by go_num, HQ2⟩
          case measure => simp [intOf]; omega
      · have a1 : ((n : Int) == 32) = false := by rw [beq_eq_false_iff_ne]; omega
        have a2 : ((n : Int) == 9) = false := by rw [beq_eq_false_iff_ne]; omega
        have a3 : ((n : Int) == 10) = false := by rw [beq_eq_false_iff_ne]; omega
        by_cases h2 : n = 35
        · have hc2 := HCm.out.2 h2
          subst h2
          obtain ⟨m, hm⟩ : ∃ m, run inCom (s.data.toList.drop q) = m := ⟨_, rfl⟩
          have hm1 : 1 ≤ m := by rw [← hm, HD.out]; exact run_pos (com_of hc2)
          have hmle := run_le inCom (s.data.toList.drop q)
          rw [hm, List.length_drop, HL.out] at hmle
          have HQ2 : Hid (q + m + gapLen (s.data.toList.drop (q + m)) = T) := Lib.hid (by
            have := HQ.out
            rw [HD.out, gapLen_cons, if_pos (.inr hc2), spanLen_com hc2, ← HD.out, hm, List.drop_drop] at this
            omega)
          have hT1 : Hid (∀ k, k < m → ∀ h : q + k < s.size, (((s[q + k]).toNat : Int) != 10) = true) := Lib.hid (fun k hk h => by
            rw [← hm] at hk
            have := runs_at inCom _ k hk
            rw [List.getElem_drop] at this
            have h3 : inCom s[q + k] = true := this
            unfold inCom at h3
            rw [decide_eq_true_eq] at h3
            rw [bne_iff_ne]; omega)
          have hT2 : Hid (∀ h : q + m < s.size, (((s[q + m]).toNat : Int) != 10) = false) := Lib.hid (fun h => by
            have := runs_end inCom (s.data.toList.drop q) (by rw [List.length_drop, HL.out, hm]; omega)
            simp only [hm, List.getElem_drop] at this
            have h3 : inCom s[q + m] = false := this
            unfold inCom at h3
            rw [decide_eq_false_iff_not] at h3
            rw [bne_eq_false_iff_eq]; omega)
          have hnx : ¬ ((q : Int) < 0) := by omega
          clear hm
          go_wp2_with fail
          go_loop [1] (fun i => ∃ k : Nat, k ≤ m ∧ i = i64 ((q + k : Nat) : Int)) (fun i => s.size - (intOf i).toNat)
          case atStart => exact ⟨0, Nat.zero_le _, rfl⟩
          case round =>
            obtain ⟨k, hk, rfl⟩ := hrel
            by_cases hlk : q + k < s.size
            · have hc : ((q + k : Nat) : Int) < (s.size : Int) := by omega
              by_cases hkT : k < m
              · have hv := hT1.out k hkT hlk
                go_wp2_with fail
                go_round
                case rel => exact ⟨k + 1, by omega, by go_num⟩
                case measure => simp [intOf]; omega
              · obtain rfl : k = m := by omega
                have hv := hT2.out hlk
                go_wp2_with fail
                go_round
                case rel => exact ⟨q + k, by omega, by go_num, HQ2⟩
                case measure => simp [intOf]; omega
            · have hc : ¬ ((q + k : Nat) : Int) < (s.size : Int) := by omega
              obtain rfl : k = m := by omega
              go_wp2_with fail
              go_round
              case rel => exact ⟨q + k, by omega, by go_num, HQ2⟩
              case measure => simp [intOf]; omega
        · have a4 : ((n : Int) == 35) = false := by rw [beq_eq_false_iff_ne]; omega
          obtain rfl : q = T := by
            have := HQ.out
            rw [HD.out, gapLen_cons, if_neg (fun h => h.elim (fun h => h1 (HBl.out.1 h)) (fun h => h2 (HCm.out.1 h)))] at this
            omega
          clear h1 h2
          go_wp2_with fail
          go_ret
          exact ⟨rfl, rfl⟩
    · have hge : ¬ (q : Int) < (s.size : Int) := by omega
      obtain rfl : q = T := by
        have := HQ.out
        rw [List.drop_of_length_le (by rw [HL.out]; omega), gapLen_nil] at this
        omega
      go_wp2_with fail
      go_ret
      exact ⟨rfl, rfl⟩
end Go.Proofs.YtmdogklgbifacaaDoor.Lx
