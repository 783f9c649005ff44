/- The law's gaps. -/
import Derived.Test.YtgfolnmaakbkcaaDoorLxThy5
import Derived.Test.YtgfolnmaakbkcaaDoorLxCut
namespace Go.Proofs.YtgfolnmaakbkcaaDoor.Lx
open Go.RowKit
set_option linter.unusedVariables false

def gapB (last : Bool) (l : List UInt8) : Bool := match gapsF false l with | none => false | some c => last || !c
theorem byte_eq (b : UInt8) (k : Nat) (v : Bool) (h : decide (b.toNat = k) = v) : ((b.toNat : Int) == (k : Int)) = v := by
  rw [← h]
  by_cases e : b.toNat = k
  · rw [decide_eq_true e, beq_iff_eq]; omega
  · rw [decide_eq_false e, beq_eq_false_iff_ne]; omega

set_option maxRecDepth 100000 in
set_option maxHeartbeats 1000000 in
theorem gaps_val (s : ByteArray) (last : Bool) (hs : s.size ≤ maxLen) (w : World) :
    Calls Tryd.prog 14 #[.string s, .bool last] w fun e w' => e = .returned (.bool (gapB last s.data.toList)) ∧ w = w' := by
  have hl : s.data.toList.length = s.size := Array.length_toList
  have hs' := hs
  unfold maxLen at hs'
  have HL := Lib.hid hl
  clear hl
  go_enter Tryd.func14, Tryd.ntmps14
  go_wp2_with fail
  go_loopw [5, 6] (fun u i wr => ∃ (k : Nat) (c : Bool), k ≤ s.size ∧ i = i64 (k : Nat) ∧ u = .bool c ∧ Hid (gapsF false s.data.toList = gapsF c (s.data.toList.drop k)) ∧ w = wr) (fun _ i _ => s.size - (intOf i).toNat)
  case atStart => exact ⟨0, false, Nat.zero_le _, rfl, rfl, Lib.hid rfl, rfl⟩
  case round =>
    obtain ⟨k, c, hk, rfl, rfl, HG, rfl⟩ := hrel
    by_cases hlt : k < s.size
    · have hlt' : (k : Int) < (s.size : Int) := by omega
      obtain ⟨b, hb⟩ : ∃ b, s[k] = b := ⟨_, rfl⟩
      have hg := HG.out
      rw [List.drop_eq_getElem_cons (by rw [HL.out]; exact hlt)] at hg
      have hbb : s.data.toList[k]'(by rw [HL.out]; exact hlt) = b := hb
      rw [hbb] at hg
      simp only [gapsF] at hg
      by_cases h10 : b.toNat = 10
      · have e10 : ((b.toNat : Int) == 10) = true := byte_eq b 10 _ (decide_eq_true h10)
        rw [if_pos h10] at hg
        clear h10
        have HG2 := Lib.hid hg
        clear hg hbb
        go_wp2_with fail
        case roundEnd =>
          refine ⟨⟨k + 1, false, by omega, rfl, rfl, Lib.hid (HG2.out), trivial⟩, ?_⟩
          simp only [intOf]; omega
      · have e10 : ((b.toNat : Int) == 10) = false := byte_eq b 10 _ (decide_eq_false h10)
        rw [if_neg h10] at hg
        clear h10
        by_cases h35 : b.toNat = 35
        · have e35 : ((b.toNat : Int) == 35) = true := byte_eq b 35 _ (decide_eq_true h35)
          rw [if_pos h35] at hg
          clear h35
          have HG2 := Lib.hid hg
          clear hg hbb
          go_wp2_with fail
          case roundEnd =>
            refine ⟨⟨k + 1, true, by omega, rfl, rfl, Lib.hid (HG2.out), trivial⟩, ?_⟩
            simp only [intOf]; omega
        · have e35 : ((b.toNat : Int) == 35) = false := byte_eq b 35 _ (decide_eq_false h35)
          rw [if_neg h35] at hg
          clear h35
          cases c with
          | true =>
            rw [if_neg (by simp)] at hg
            have HG2 := Lib.hid hg
            clear hg hbb
            go_wp2_with fail
            case roundEnd =>
              refine ⟨⟨k + 1, true, by omega, rfl, rfl, Lib.hid (HG2.out), trivial⟩, ?_⟩
              simp only [intOf]; omega
          | false =>
            by_cases h32 : b.toNat = 32
            · have e32 : ((b.toNat : Int) != 32) = false := by rw [bne_eq_false_iff_eq]; omega
              rw [if_neg (fun h => h.2.1 h32)] at hg
              clear h32
              have HG2 := Lib.hid hg
              clear hg hbb
              go_wp2_with fail
              case roundEnd =>
                refine ⟨⟨k + 1, false, by omega, rfl, rfl, Lib.hid (HG2.out), trivial⟩, ?_⟩
                simp only [intOf]; omega
            · have e32 : ((b.toNat : Int) != 32) = true := by rw [bne_iff_ne]; omega
              by_cases h9 : b.toNat = 9
              · have e9 : ((b.toNat : Int) != 9) = false := by rw [bne_eq_false_iff_eq]; omega
                rw [if_neg (fun h => h.2.2 h9)] at hg
                clear h32 h9
                have HG2 := Lib.hid hg
                clear hg hbb
                go_wp2_with fail
                case roundEnd =>
                  refine ⟨⟨k + 1, false, by omega, rfl, rfl, Lib.hid (HG2.out), trivial⟩, ?_⟩
                  simp only [intOf]; omega
              · have e9 : ((b.toNat : Int) != 9) = true := by rw [bne_iff_ne]; omega
                rw [if_pos ⟨rfl, h32, h9⟩] at hg
                have HG2 : Hid (gapB last s.data.toList = false) := Lib.hid (by unfold gapB; rw [hg])
                clear hg hbb h32 h9
                go_wp2_with fail
                go_ret
                rw [HG2.out]
                exact ⟨rfl, rfl⟩
    · have hlt' : ¬ (k : Int) < (s.size : Int) := by omega
      obtain rfl : k = s.size := by omega
      have hg := HG.out
      rw [List.drop_of_length_le (by rw [HL.out]; exact Nat.le_refl _)] at hg
      simp only [gapsF] at hg
      have HG2 : Hid (gapB last s.data.toList = (last || !c)) := Lib.hid (by unfold gapB; rw [hg])
      clear hg
      cases last with
      | true =>
        go_wp2_with fail
        go_ret
        rw [HG2.out]
        exact ⟨rfl, rfl⟩
      | false =>
        go_wp2_with fail
        go_ret
        rw [HG2.out]
        exact ⟨rfl, rfl⟩
end Go.Proofs.YtgfolnmaakbkcaaDoor.Lx
