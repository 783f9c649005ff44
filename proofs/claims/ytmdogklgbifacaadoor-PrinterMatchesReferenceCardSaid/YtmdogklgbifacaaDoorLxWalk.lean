/- The small walks of package lexer. -/
import Derived.Test.YtmdogklgbifacaaDoorProg
import Derived.Test.YtmdogklgbifacaaDoorShelf
import Derived.Lib.SmallJoins
import Derived.Test.YtmdogklgbifacaaDoorLxPlain
import Derived.Test.YtmdogklgbifacaaDoorCom
namespace Go.Proofs.YtmdogklgbifacaaDoor.Lx
open Go.RowKit
set_option linter.unusedVariables false

abbrev i64 (x : Int) : Value := .int .i64 x
abbrev r32 (c : UInt8) : Value := .int .i32 (c.toNat : Int)
theorem ret_i {a b : Int} (h : a = b) : Ending.returned (i64 a) = .returned (i64 b) := by rw [h]

theorem of_val (c : UInt8) (w : World) : Calls Tryd.prog 66 #[r32 c] w fun e w' => e = .returned (i64 (cls c : Nat)) ∧ w = w' := by
  obtain ⟨n, hn⟩ : ∃ n, c.toNat = n := ⟨_, rfl⟩
  have hc : cls c = (if n = 32 ∨ n = 9 ∨ n = 10 then 1 else if n = 35 then 2 else if 97 ≤ n ∧ n ≤ 122 then 3 else if 48 ≤ n ∧ n ≤ 57 then 4 else if n = 59 then 5 else 0) := by unfold cls; rw [hn]
  rw [hc]
  show Calls Tryd.prog 66 #[.int .i32 (c.toNat : Int)] w _
  rw [hn]
  clear hc hn
  by_cases h1 : n = 32 ∨ n = 9 ∨ n = 10
  · rw [if_pos h1]
    rcases h1 with rfl | rfl | rfl
    all_goals
      go_enter Tryd.func66, Tryd.ntmps66
      go_wp2_with fail
      go_ret
      exact ⟨rfl, rfl⟩
  · rw [if_neg h1]
    have a1 : ((n : Int) == 32) = false := by rw [beq_eq_false_iff_ne]; omega
    have a2 : ((n : Int) == 9) = false := by rw [beq_eq_false_iff_ne]; omega
    have a3 : ((n : Int) == 10) = false := by rw [beq_eq_false_iff_ne]; omega
    clear h1
    by_cases h2 : n = 35
    · subst h2
      rw [if_pos rfl]
      go_enter Tryd.func66, Tryd.ntmps66
      go_wp2_with fail
      go_ret
      exact ⟨rfl, rfl⟩
    · rw [if_neg h2]
      have a4 : ((n : Int) == 35) = false := by rw [beq_eq_false_iff_ne]; omega
      clear h2
      by_cases h3 : 97 ≤ n ∧ n ≤ 122
      · rw [if_pos h3]
        have b1 : (97 : Int) ≤ (n : Int) := by omega
        have b2 : (n : Int) ≤ 122 := by omega
        clear h3
        go_enter Tryd.func66, Tryd.ntmps66
        go_wp2_with fail
        go_ret
        exact ⟨rfl, rfl⟩
      · rw [if_neg h3]
        have h3' : ¬ ((97 : Int) ≤ (n : Int) ∧ (n : Int) ≤ 122) := by omega
        clear h3
        by_cases h4 : 48 ≤ n ∧ n ≤ 57
        · rw [if_pos h4]
          have b1 : ¬ (97 : Int) ≤ (n : Int) := by omega
          have b2 : (48 : Int) ≤ (n : Int) := by omega
          have b3 : (n : Int) ≤ 57 := by omega
          clear h4 h3'
          go_enter Tryd.func66, Tryd.ntmps66
          go_wp2_with fail
          go_ret
          exact ⟨rfl, rfl⟩
        · rw [if_neg h4]
          by_cases h5 : n = 59
          · subst h5
            rw [if_pos rfl]
            clear h4 h3'
            go_enter Tryd.func66, Tryd.ntmps66
            go_wp2_with fail
            go_ret
            exact ⟨rfl, rfl⟩
          · rw [if_neg h5]
            have a5 : ((n : Int) == 59) = false := by rw [beq_eq_false_iff_ne]; omega
            clear h5
            by_cases k1 : 97 ≤ n
            · have b1 : (97 : Int) ≤ (n : Int) := by omega
              have b2 : ¬ (n : Int) ≤ 122 := by omega
              have b3 : (48 : Int) ≤ (n : Int) := by omega
              have b4 : ¬ (n : Int) ≤ 57 := by omega
              clear h3' h4 k1
              go_enter Tryd.func66, Tryd.ntmps66
              go_wp2_with fail
              go_ret
              exact ⟨rfl, rfl⟩
            · by_cases k2 : 48 ≤ n
              · have b1 : ¬ (97 : Int) ≤ (n : Int) := by omega
                have b3 : (48 : Int) ≤ (n : Int) := by omega
                have b4 : ¬ (n : Int) ≤ 57 := by omega
                clear h3' h4 k1 k2
                go_enter Tryd.func66, Tryd.ntmps66
                go_wp2_with fail
                go_ret
                exact ⟨rfl, rfl⟩
              · have b1 : ¬ (97 : Int) ≤ (n : Int) := by omega
                have b3 : ¬ (48 : Int) ≤ (n : Int) := by omega
                clear h3' h4 k1 k2
                go_enter Tryd.func66, Tryd.ntmps66
                go_wp2_with fail
                go_ret
                exact ⟨rfl, rfl⟩

theorem inName_val (c : UInt8) (w : World) : Calls Tryd.prog 69 #[r32 c] w fun e w' => e = .returned (.bool (inNam c)) ∧ w = w' := by
  have HO := Lib.hid (of_val c)
  have hi : inNam c = (decide (cls c = 3) || (decide (cls c = 4) || decide (c.toNat = 95))) := rfl
  obtain ⟨k, hk⟩ : ∃ k, cls c = k := ⟨_, rfl⟩
  rw [hk] at HO hi
  obtain ⟨v, hv⟩ : ∃ v, inNam c = v := ⟨_, rfl⟩
  rw [hv] at hi ⊢
  have HI := Lib.hid hi
  clear hi hv hk
  by_cases h3 : k = 3
  · subst h3
    go_enter Tryd.func69, Tryd.ntmps69
    go_wp2_with fail
    refine (HO.out _).mono ?_
    rintro e w1 ⟨rfl, rfl⟩
    go_wp2_with fail
    go_ret
    exact ⟨rb (by rw [HI.out]; simp), rfl⟩
  · have e3 : ((k : Int) == 3) = false := by rw [beq_eq_false_iff_ne]; omega
    by_cases h4 : k = 4
    · subst h4
      clear h3
      go_enter Tryd.func69, Tryd.ntmps69
      go_wp2_with fail
      refine (HO.out _).mono ?_
      rintro e w1 ⟨rfl, rfl⟩
      go_wp2_with fail
      refine (HO.out _).mono ?_
      rintro e w1 ⟨rfl, rfl⟩
      go_wp2_with fail
      go_ret
      exact ⟨rb (by rw [HI.out]; simp), rfl⟩
    · have e4 : ((k : Int) == 4) = false := by rw [beq_eq_false_iff_ne]; omega
      have HK : Hid (v = decide (c.toNat = 95)) := by
        refine Lib.hid ?_
        rw [HI.out]; simp [h3, h4]
      clear h3 h4
      go_enter Tryd.func69, Tryd.ntmps69
      go_wp2_with fail
      refine (HO.out _).mono ?_
      rintro e w1 ⟨rfl, rfl⟩
      go_wp2_with fail
      refine (HO.out _).mono ?_
      rintro e w1 ⟨rfl, rfl⟩
      go_wp2_with fail
      go_ret
      refine ⟨rb ?_, rfl⟩
      rw [HK.out, Bool.eq_iff_iff]
      simp
      omega
theorem com_val (c : UInt8) (w : World) : Calls Tryd.prog 68 #[r32 c] w fun e w' => e = .returned (.bool (inCom c)) ∧ w = w' := by
  have hi : inCom c = decide (c.toNat ≠ 10) := rfl
  obtain ⟨v, hv⟩ : ∃ v, inCom c = v := ⟨_, rfl⟩
  rw [hv] at hi ⊢
  have HI := Lib.hid hi
  clear hi hv
  go_enter Tryd.func68, Tryd.ntmps68
  go_wp2_with fail
  go_ret
  refine ⟨rb ?_, rfl⟩
  rw [HI.out, Bool.eq_iff_iff]
  simp
  omega
theorem num_val (c : UInt8) (w : World) : Calls Tryd.prog 70 #[r32 c] w fun e w' => e = .returned (.bool (inNum c)) ∧ w = w' := by
  have HO := Lib.hid (of_val c)
  have hi : inNum c = decide (cls c = 4) := rfl
  obtain ⟨k, hk⟩ : ∃ k, cls c = k := ⟨_, rfl⟩
  rw [hk] at HO hi
  obtain ⟨v, hv⟩ : ∃ v, inNum c = v := ⟨_, rfl⟩
  rw [hv] at hi ⊢
  have HI := Lib.hid hi
  clear hi hv hk
  go_enter Tryd.func70, Tryd.ntmps70
  go_wp2_with fail
  refine (HO.out _).mono ?_
  rintro e w1 ⟨rfl, rfl⟩
  go_wp2_with fail
  go_ret
  refine ⟨rb ?_, rfl⟩
  rw [HI.out, Bool.eq_iff_iff]
  simp
  omega
end Go.Proofs.YtmdogklgbifacaaDoor.Lx
