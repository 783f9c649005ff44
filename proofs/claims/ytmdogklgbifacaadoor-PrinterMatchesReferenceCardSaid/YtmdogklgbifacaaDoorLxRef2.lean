/- The reference of the lexer: End, value, Token. -/
import Derived.Test.YtmdogklgbifacaaDoorLxRef
namespace Go.Proofs.YtmdogklgbifacaaDoor.Lx
open Go.RowKit
set_option linter.unusedVariables false

/-- How many bytes the token, or the wrong byte, has. -/
def endLen : List UInt8 → Nat
  | [] => 1
  | c :: r => if cls c = 3 then run inNam (c :: r) else if cls c = 4 then run inNum (c :: r) else 1
theorem endLen_span {c : UInt8} (h : cls c ≠ 2) (r : List UInt8) : endLen (c :: r) = spanLen (c :: r) := by
  simp only [endLen, spanLen]; rw [if_neg h]
theorem inNam_of (c : UInt8) : inNam c = (isL c || (isD c || decide (c.toNat = 95))) := rfl
theorem inNum_of (c : UInt8) : inNum c = isD c := rfl

/-- What goes on, by the first byte. -/
def onB (a b : Bool) (c : UInt8) : Bool := (a && (isL c || (isD c || decide (c.toNat = 95)))) || (b && isD c)
theorem endLen_run {c : UInt8} {r : List UInt8} (m : Nat) (hm : endLen (c :: r) = m) : 1 ≤ m ∧ m ≤ (c :: r).length ∧ (∀ k, 1 ≤ k → (h : k < m) → (h' : k < (c :: r).length) → onB (isL c) (isD c) (c :: r)[k] = true) ∧ ((h : m < (c :: r).length) → onB (isL c) (isD c) (c :: r)[m] = false) := by
  by_cases h3 : cls c = 3
  · have e : endLen (c :: r) = run inNam (c :: r) := by simp only [endLen]; rw [if_pos h3]
    have hL : isL c = true := by unfold isL; simp [h3]
    have hD : isD c = false := by unfold isD; simp [h3]
    rw [e] at hm
    rw [hL, hD]
    have ho : ∀ d, onB true false d = inNam d := fun d => by rw [inNam_of]; unfold onB; simp
    refine ⟨by rw [← hm]; exact run_pos (nam_of h3), by rw [← hm]; exact run_le _ _, fun k hk h h' => ?_, fun h => ?_⟩
    · rw [ho]; exact runs_at inNam _ k (by rw [hm]; exact h)
    · rw [ho]
      have := runs_end inNam (c :: r) (by rw [hm]; exact h)
      simp only [hm] at this
      exact this
  · by_cases h4 : cls c = 4
    · have e : endLen (c :: r) = run inNum (c :: r) := by simp only [endLen]; rw [if_neg h3, if_pos h4]
      have hL : isL c = false := by unfold isL; simp [h4]
      have hD : isD c = true := by unfold isD; simp [h4]
      rw [e] at hm
      rw [hL, hD]
      have ho : ∀ d, onB false true d = inNum d := fun d => by rw [inNum_of]; unfold onB; simp
      refine ⟨by rw [← hm]; exact run_pos (num_of h4), by rw [← hm]; exact run_le _ _, fun k hk h h' => ?_, fun h => ?_⟩
      · rw [ho]; exact runs_at inNum _ k (by rw [hm]; exact h)
      · rw [ho]
        have := runs_end inNum (c :: r) (by rw [hm]; exact h)
        simp only [hm] at this
        exact this
    · have e : endLen (c :: r) = 1 := by simp only [endLen]; rw [if_neg h3, if_neg h4]
      have hL : isL c = false := by unfold isL; simp [h3]
      have hD : isD c = false := by unfold isD; simp [h4]
      rw [hL, hD]
      refine ⟨by omega, by simp only [List.length_cons]; omega, fun k hk h h' => absurd h (by omega), fun h => rfl⟩

set_option maxRecDepth 100000 in
set_option maxHeartbeats 2000000 in
theorem end_val (s : ByteArray) (p : Nat) (hs : s.size ≤ maxLen) (hp : p < s.size) (w : World) :
    Calls Tryd.prog 29 #[.string s, i64 (p : Nat)] w fun e w' => e = .returned (i64 ((p + endLen (s.data.toList.drop p) : Nat) : Int)) ∧ w = w' := by
  unfold maxLen at hs
  have hl : s.data.toList.length = s.size := Array.length_toList
  have hdc : s.data.toList.drop p = s[p] :: s.data.toList.drop (p + 1) := by
    rw [List.drop_eq_getElem_cons (by rw [hl]; exact hp)]; rfl
  obtain ⟨m, hm⟩ : ∃ m, endLen (s.data.toList.drop p) = m := ⟨_, rfl⟩
  rw [hm]
  have hmm := hm
  rw [hdc] at hmm
  obtain ⟨hm1, hm2, hin, hout⟩ := endLen_run m hmm
  rw [← hdc, List.length_drop, hl] at hm2
  have hL := letter_val s[p]
  have hD := digit_val s[p]
  obtain ⟨a, ha⟩ : ∃ a, isL s[p] = a := ⟨_, rfl⟩
  obtain ⟨b, hb⟩ : ∃ b, isD s[p] = b := ⟨_, rfl⟩
  rw [ha, hb] at hin hout
  rw [ha] at hL
  rw [hb] at hD
  have hel : ∀ k (h : p + k < s.size) (h' : k < (s[p] :: s.data.toList.drop (p + 1)).length), (s[p] :: s.data.toList.drop (p + 1))[k] = s[p + k] := fun k h h' => by
    simp only [← hdc, List.getElem_drop]; rfl
  have hT1 : Hid (∀ k, 1 ≤ k → k < m → ∀ h : p + k < s.size, onB a b s[p + k] = true) := Lib.hid (fun k hk hkm h => by
    have h' : k < (s[p] :: s.data.toList.drop (p + 1)).length := by rw [← hdc, List.length_drop, hl]; omega
    have := hin k hk hkm h'
    rwa [hel k h h'] at this)
  have hT2 : Hid (∀ h : p + m < s.size, onB a b s[p + m] = false) := Lib.hid (fun h => by
    have h' : m < (s[p] :: s.data.toList.drop (p + 1)).length := by rw [← hdc, List.length_drop, hl]; omega
    have := hout h'
    rwa [hel m h h'] at this)
  have HL := Lib.hid hL
  have HD := Lib.hid hD
  have HLn := Lib.hid hl
  clear hm hmm hdc hin hout ha hb hel hL hD hl
  go_enter Tryd.func29, Tryd.ntmps29
  go_wp2_with fail
  refine (HL.out _).mono ?_
  rintro e w1 ⟨rfl, rfl⟩
  go_wp2_with fail
  refine (HD.out _).mono ?_
  rintro e w1 ⟨rfl, rfl⟩
  go_wp2_with fail
  go_loop [5] (fun i => ∃ k : Nat, 1 ≤ k ∧ k ≤ m ∧ i = i64 ((p + k : Nat) : Int)) (fun i => s.size - (intOf i).toNat)
  case atStart => exact ⟨1, by omega, hm1, by go_num⟩
  case round =>
    obtain ⟨k, hk1, hk, rfl⟩ := hrel
    by_cases hlt : p + k < s.size
    · have hc : ((p + k : Nat) : Int) < (s.size : Int) := by omega
      have HL1 := Lib.hid (letter_val s[p + k])
      have HD1 := Lib.hid (digit_val s[p + k])
      obtain ⟨v, hv⟩ : ∃ v, onB a b s[p + k] = v := ⟨_, rfl⟩
      have hv2 := hv
      unfold onB at hv2
      obtain ⟨x, hx⟩ : ∃ x, isL s[p + k] = x := ⟨_, rfl⟩
      obtain ⟨y, hy⟩ : ∃ y, isD s[p + k] = y := ⟨_, rfl⟩
      rw [hx, hy] at hv2
      rw [hx] at HL1
      rw [hy] at HD1
      have HV := Lib.hid hv
      have HV2 := Lib.hid hv2
      obtain ⟨d, hd⟩ : ∃ d, ((s[p + k].toNat : Int) == 95) = d := ⟨_, rfl⟩
      have hd2 : decide (s[p + k].toNat = 95) = d := by
        rw [← hd, Bool.eq_iff_iff]; simp; omega
      rw [hd2] at HV2
      have hkm : (v = true → k < m) ∧ (v = false → k = m) := by
        refine ⟨fun h => ?_, fun h => ?_⟩
        · rcases Nat.lt_or_ge k m with h1 | h1
          · exact h1
          · obtain rfl : k = m := by omega
            have := hT2.out hlt
            rw [HV.out, h] at this
            cases this
        · rcases Nat.lt_or_ge k m with h1 | h1
          · have := hT1.out k hk1 h1 hlt
            rw [HV.out, h] at this
            cases this
          · omega
      clear hd2
      have HKM := Lib.hid hkm
      clear hkm
      cases a <;> cases b <;> cases x <;> cases y <;> cases d
      all_goals
        first
          | (obtain rfl : v = true := by rw [← HV2.out]; rfl
             have hlt2 := HKM.out.1 rfl
             go_wp2_with fail
             refine (HL1.out _).mono ?_
             rintro e w1 ⟨rfl, rfl⟩
             go_wp2_with fail
             refine (HD1.out _).mono ?_
             rintro e w1 ⟨rfl, rfl⟩
             go_wp2_with fail
             go_round
             case rel => exact ⟨k + 1, by omega, by omega, by go_num⟩
             case measure => simp [intOf]; omega)
          | (obtain rfl : v = false := by rw [← HV2.out]; rfl
             obtain rfl := HKM.out.2 rfl
             go_wp2_with fail
             refine (HL1.out _).mono ?_
             rintro e w1 ⟨rfl, rfl⟩
             go_wp2_with fail
             refine (HD1.out _).mono ?_
             rintro e w1 ⟨rfl, rfl⟩
             go_wp2_with fail
             go_ret
             exact ⟨rfl, rfl⟩)
    · have hc : ¬ ((p + k : Nat) : Int) < (s.size : Int) := by omega
      obtain rfl : k = m := by omega
      go_wp2_with fail
      go_ret
      exact ⟨rfl, rfl⟩
end Go.Proofs.YtmdogklgbifacaaDoor.Lx
