/- The reference's words and names. -/
import Derived.Test.YtmdogklgbifacaaDoorPrWord
import Derived.Test.YtmdogklgbifacaaDoorPrArgs
namespace Go.Proofs.YtmdogklgbifacaaDoor.Pr
open Go.RowKit Go.Proofs.YtmdogklgbifacaaDoor.Lx
set_option linter.unusedVariables false

def kwV : Array Value := (kw.map fun k => Value.string ⟨k.toArray⟩).toArray
set_option maxRecDepth 100000 in
theorem words_val (w : World) :
    Calls Tryd.prog 73 #[] w fun e w' => e = .returned (.slice (some ⟨w.heap.size, 0, none⟩) 21 21) ∧ w' = w.alloc (.cells kwV 9) := by
  go_enter Tryd.func73, Tryd.ntmps73
  go_wp2_with fail
  go_ret
  exact ⟨rfl, rfl⟩
set_option maxRecDepth 100000 in
set_option maxHeartbeats 2000000 in
theorem rname_val (s : ByteArray) (hs : s.size ≤ maxLen) (w : World) :
    Calls Tryd.prog 48 #[.string s] w fun e w' => e = .returned (.bool (nameB s)) ∧ Below w.heap.size w w' := by
  have hs' := hs
  unfold maxLen at hs'
  have HW := Lib.hid words_val
  have HL : Hid (s.data.toList.length = s.size) := Lib.hid Array.length_toList
  go_enter Tryd.func48, Tryd.ntmps48
  go_wp2_with fail
  go_loopw [3] (fun i wr => ∃ (k : Nat), k ≤ s.size ∧ i = i64 (k : Nat) ∧ Hid (chsB 0 s.data.toList = chsB k (s.data.toList.drop k)) ∧ w = wr) (fun i _ => s.size - (intOf i).toNat)
  case atStart => exact ⟨0, Nat.zero_le _, rfl, Lib.hid rfl, rfl⟩
  case round =>
    obtain ⟨k, hk, rfl, HG, rfl⟩ := hrel
    by_cases hlt : k < s.size
    · have hlt' : (k : Int) < (s.size : Int) := by omega
      have hg := HG.out
      rw [List.drop_eq_getElem_cons (by rw [HL.out]; exact hlt)] at hg
      obtain ⟨b, hb⟩ : ∃ b, s[k] = b := ⟨_, rfl⟩
      have hbb : s.data.toList[k]'(by rw [HL.out]; exact hlt) = b := hb
      rw [hbb] at hg
      simp only [chsB] at hg
      clear hbb
      by_cases q1 : b.toNat < 97
      · have f1 : (b.toNat : Int) < 97 := by omega
        have hch0 : chB k b = (decide (k ≠ 0) && (decide (b.toNat = 95) || decide (48 ≤ b.toNat ∧ b.toNat ≤ 57))) := by
          unfold chB; rw [cls3_dec, decide_eq_false (fun h => by omega), Bool.false_or, cls4_dec]
        by_cases q2 : k = 0
        · have f2 : ((k : Int) == 0) = true := by rw [beq_iff_eq]; omega
          have hch : chB k b = false := by rw [hch0, decide_eq_false (fun h => h q2), Bool.false_and]
          clear q1 q2 hch0
          rw [hch, Bool.false_and] at hg
          have HG2 : Hid (nameB s = false) := Lib.hid (by unfold nameB; rw [hg]; simp)
          clear hg hch
          go_wp2_with fail
          go_ret
          rw [HG2.out]
          exact ⟨rfl, Below.refl _ _⟩
        · have f2 : ((k : Int) == 0) = false := by rw [beq_eq_false_iff_ne]; omega
          rw [decide_eq_true q2, Bool.true_and] at hch0
          by_cases q3 : b.toNat = 95
          · have f3 : ((b.toNat : Int) != 95) = false := by rw [bne_eq_false_iff_eq]; omega
            have f4 : ¬ (b.toNat : Int) < 48 := by omega
            have f5 : (57 : Int) < (b.toNat : Int) := by omega
            have hch : chB k b = true := by rw [hch0, decide_eq_true q3, Bool.true_or]
            clear q1 q2 q3 hch0
            rw [hch, Bool.true_and] at hg
            have HG2 := Lib.hid hg
            clear hg hch
            go_wp2_with fail
            case roundEnd =>
              refine ⟨⟨k + 1, by omega, rfl, Lib.hid HG2.out, trivial⟩, ?_⟩
              simp only [intOf]; omega
          · have f3 : ((b.toNat : Int) != 95) = true := by rw [bne_iff_ne]; omega
            rw [decide_eq_false q3, Bool.false_or] at hch0
            by_cases q4 : b.toNat < 48
            · have f4 : (b.toNat : Int) < 48 := by omega
              have hch : chB k b = false := by rw [hch0, decide_eq_false (fun h => by omega)]
              clear q1 q2 q3 q4 hch0
              rw [hch, Bool.false_and] at hg
              have HG2 : Hid (nameB s = false) := Lib.hid (by unfold nameB; rw [hg]; simp)
              clear hg hch
              go_wp2_with fail
              go_ret
              rw [HG2.out]
              exact ⟨rfl, Below.refl _ _⟩
            · have f4 : ¬ (b.toNat : Int) < 48 := by omega
              by_cases q5 : 57 < b.toNat
              · have f5 : (57 : Int) < (b.toNat : Int) := by omega
                have hch : chB k b = false := by rw [hch0, decide_eq_false (fun h => by omega)]
                clear q1 q2 q3 q4 q5 hch0
                rw [hch, Bool.false_and] at hg
                have HG2 : Hid (nameB s = false) := Lib.hid (by unfold nameB; rw [hg]; simp)
                clear hg hch
                go_wp2_with fail
                go_ret
                rw [HG2.out]
                exact ⟨rfl, Below.refl _ _⟩
              · have f5 : ¬ (57 : Int) < (b.toNat : Int) := by omega
                have hch : chB k b = true := by rw [hch0, decide_eq_true (by omega)]
                clear q1 q2 q3 q4 q5 hch0
                rw [hch, Bool.true_and] at hg
                have HG2 := Lib.hid hg
                clear hg hch
                go_wp2_with fail
                case roundEnd =>
                  refine ⟨⟨k + 1, by omega, rfl, Lib.hid HG2.out, trivial⟩, ?_⟩
                  simp only [intOf]; omega
      · have f1 : ¬ (b.toNat : Int) < 97 := by omega
        by_cases q2 : b.toNat ≤ 122
        · have f2 : ¬ (122 : Int) < (b.toNat : Int) := by omega
          have hch : chB k b = true := by unfold chB; rw [cls3_dec, decide_eq_true (by omega), Bool.true_or]
          clear q1 q2
          rw [hch, Bool.true_and] at hg
          have HG2 := Lib.hid hg
          clear hg hch
          go_wp2_with fail
          case roundEnd =>
            refine ⟨⟨k + 1, by omega, rfl, Lib.hid HG2.out, trivial⟩, ?_⟩
            simp only [intOf]; omega
        · have f2 : (122 : Int) < (b.toNat : Int) := by omega
          have hch0 : chB k b = decide (k ≠ 0 ∧ False) := by
            unfold chB; rw [cls3_dec, decide_eq_false (fun h => by omega), Bool.false_or, cls4_dec, decide_eq_false (fun h => by omega : ¬ b.toNat = 95), decide_eq_false (fun h => by omega : ¬ (48 ≤ b.toNat ∧ b.toNat ≤ 57))]
            simp
          have hch : chB k b = false := by rw [hch0]; simp
          have f3 : ((b.toNat : Int) != 95) = true := by rw [bne_iff_ne]; omega
          have f4 : ¬ (b.toNat : Int) < 48 := by omega
          have f5 : (57 : Int) < (b.toNat : Int) := by omega
          clear q1 q2 hch0
          by_cases q3 : k = 0
          · have f6 : ((k : Int) == 0) = true := by rw [beq_iff_eq]; omega
            clear q3
            rw [hch, Bool.false_and] at hg
            have HG2 : Hid (nameB s = false) := Lib.hid (by unfold nameB; rw [hg]; simp)
            clear hg hch
            go_wp2_with fail
            go_ret
            rw [HG2.out]
            exact ⟨rfl, Below.refl _ _⟩
          · have f6 : ((k : Int) == 0) = false := by rw [beq_eq_false_iff_ne]; omega
            clear q3
            rw [hch, Bool.false_and] at hg
            have HG2 : Hid (nameB s = false) := Lib.hid (by unfold nameB; rw [hg]; simp)
            clear hg hch
            go_wp2_with fail
            go_ret
            rw [HG2.out]
            exact ⟨rfl, Below.refl _ _⟩
    · have hlt' : ¬ (k : Int) < (s.size : Int) := by omega
      obtain rfl : k = s.size := by omega
      have hg := HG.out
      rw [List.drop_of_length_le (by rw [HL.out]; exact Nat.le_refl _)] at hg
      have HR : Hid (nameB s = (decide (s.size ≠ 0) && (decide (s.size ≤ 12) && !wordB s))) := Lib.hid (by unfold nameB; rw [hg]; simp [chsB])
      clear hg
      go_wp2_with fail
      refine (HW.out _).mono ?_
      rintro e w1 ⟨rfl, hw1⟩
      have HB1 : Hid (Below w.heap.size w w1) := Lib.hid (by rw [hw1]; exact (Below.refl _ w).alloc (Nat.le_refl _) _)
      have BX : Hid (Blk w1 w.heap.size 9 kwV) := Lib.hid (by rw [hw1]; exact Blk.new w _ _)
      clear hw1
      go_wp2_with fail
      go_loopw [6] (fun i wr => ∃ (j : Nat), j ≤ 21 ∧ i = i64 (j : Nat) ∧ Hid (wordB s = (kw.drop j).any fun k => s.toList == k) ∧ w1 = wr) (fun i _ => 21 - (intOf i).toNat)
      case atStart => exact ⟨0, by omega, rfl, Lib.hid rfl, rfl⟩
      case round =>
        obtain ⟨j, hj, rfl, HG, rfl⟩ := hrel
        by_cases hjl : j < 21
        · have hjl' : (j : Int) < 21 := by omega
          have hjk : j < kw.length := hjl
          have hg := HG.out
          rw [List.drop_eq_getElem_cons hjk, List.any_cons] at hg
          obtain ⟨kj, hkj⟩ : ∃ kj, kw[j] = kj := ⟨_, rfl⟩
          rw [hkj] at hg
          have hc : w1.cell? ⟨w.heap.size, j, none⟩ = some (.string ⟨kj.toArray⟩) := by
            rw [BX.out.cell j, ← hkj]
            unfold kwV
            rw [List.getElem?_toArray, List.getElem?_map, List.getElem?_eq_getElem hjk]
            rfl
          have hkb : (⟨kj.toArray⟩ : ByteArray).toList = kj := by rw [Lib.toList_data]
          obtain ⟨K, hK⟩ : ∃ K : ByteArray, ⟨kj.toArray⟩ = K := ⟨_, rfl⟩
          rw [hK] at hc hkb
          obtain ⟨v, hv⟩ : ∃ v, (s.toList == kj) = v := ⟨_, rfl⟩
          rw [hv] at hg
          have hv' : (K.toList == s.toList) = v := by rw [hkb, ← hv]; exact BEq.comm
          clear hK hkb hkj hjk hv hjl
          cases v with
          | true =>
            have HG2 : Hid (nameB s = false) := Lib.hid (by rw [HR.out, hg]; simp)
            clear hg
            go_wp2_with fail
            go_ret
            rw [HG2.out]
            exact ⟨rfl, HB1.out⟩
          | false =>
            have HG2 := Lib.hid hg
            clear hg
            go_wp2_with fail
            case roundEnd =>
              refine ⟨⟨j + 1, by omega, rfl, Lib.hid (HG2.out.trans (Bool.false_or _)), trivial⟩, ?_⟩
              simp only [intOf]; omega
        · have hjl' : ¬ (j : Int) < 21 := by omega
          obtain rfl : j = 21 := by omega
          have hg := HG.out
          have hwf : wordB s = false := by rw [hg]; rfl
          rw [hwf] at HR
          by_cases h0 : s.size = 0
          · have f1 : ¬ (1 : Int) ≤ (s.size : Int) := by omega
            have HG2 : Hid (nameB s = false) := Lib.hid (by rw [HR.out, decide_eq_false (fun h => h h0)]; rfl)
            clear hg hwf h0
            go_wp2_with fail
            go_ret
            rw [HG2.out]
            exact ⟨rfl, HB1.out⟩
          · have f1 : (1 : Int) ≤ (s.size : Int) := by omega
            by_cases h12 : s.size ≤ 12
            · have f2 : (s.size : Int) ≤ 12 := by omega
              have HG2 : Hid (nameB s = true) := Lib.hid (by rw [HR.out, decide_eq_true h0, decide_eq_true h12]; rfl)
              clear hg hwf h0 h12
              go_wp2_with fail
              go_ret
              rw [HG2.out]
              exact ⟨rfl, HB1.out⟩
            · have f2 : ¬ (s.size : Int) ≤ 12 := by omega
              have HG2 : Hid (nameB s = false) := Lib.hid (by rw [HR.out, decide_eq_true h0, decide_eq_false h12]; rfl)
              clear hg hwf h0 h12
              go_wp2_with fail
              go_ret
              rw [HG2.out]
              exact ⟨rfl, HB1.out⟩
end Go.Proofs.YtmdogklgbifacaaDoor.Pr
