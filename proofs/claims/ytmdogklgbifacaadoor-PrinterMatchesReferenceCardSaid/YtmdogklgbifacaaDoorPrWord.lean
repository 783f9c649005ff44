/- parser.isWord, parser.isName. -/
import Derived.Test.YtmdogklgbifacaaDoorProg
import Derived.Test.YtmdogklgbifacaaDoorCom
import Derived.KernelRfl
import Derived.Test.YtmdogklgbifacaaDoorLxOk
namespace Go.Proofs.YtmdogklgbifacaaDoor.Pr
open Go.RowKit Go.Proofs.YtmdogklgbifacaaDoor.Lx
set_option linter.unusedVariables false

def kw : List (List UInt8) := [[109, 101, 115, 104], [100, 97, 116, 97], [114, 97, 110, 103, 101], [114, 111, 111, 116], [97, 116], [110, 111, 100, 101], [102, 97, 115, 116], [115, 108, 111, 119], [98, 97, 116, 116, 101, 114, 121], [109, 111, 118, 101], [102, 97, 105, 108], [115, 116, 97, 114, 116], [114, 101, 97, 100], [106, 97, 109], [114, 97, 100, 105, 117, 115], [99, 104, 97, 110, 110, 101, 108], [102, 111, 114], [114, 101, 112, 108, 97, 121], [112, 114, 111, 103, 114, 97, 109], [115, 105, 122, 101], [114, 117, 110]]
def wordB (s : ByteArray) : Bool := kw.any fun k => s.toList == k
set_option maxRecDepth 100000 in
set_option maxHeartbeats 2000000 in
theorem isWord_val (s : ByteArray) (w : World) :
    Calls Tryd.prog 86 #[.string s] w fun e w' => e = .returned (.bool (wordB s)) ∧ w = w' := by
  go_enter Tryd.func86, Tryd.ntmps86
  go_wp2_with fail
  all_goals first
    | (rename_i h1 h2; exact absurd (h1.symm.trans h2) (by decide))
    | (go_ret; refine ⟨?_, rfl⟩; simp [wordB, kw, *])

theorem cls3_dec (c : UInt8) : decide (Lx.cls c = 3) = decide (97 ≤ c.toNat ∧ c.toNat ≤ 122) := by
  rw [decide_eq_decide]
  unfold Lx.cls
  constructor
  · intro h; split at h <;> first | (cases h; done) | (split at h <;> first | (cases h; done) | (split at h <;> first | (rename_i q; exact q) | (split at h <;> first | (cases h; done) | (split at h <;> cases h))))
  · intro h; rw [if_neg (by omega), if_neg (by omega), if_pos h]
theorem cls4_dec (c : UInt8) : decide (Lx.cls c = 4) = decide (48 ≤ c.toNat ∧ c.toNat ≤ 57) := by
  rw [decide_eq_decide]
  constructor
  · intro h
    unfold Lx.cls at h
    split at h
    · cases h
    · split at h
      · cases h
      · split at h
        · cases h
        · split at h
          · rename_i q; exact q
          · split at h <;> cases h
  · intro h; unfold Lx.cls; rw [if_neg (by omega), if_neg (by omega), if_neg (by omega), if_pos h]
def chB (i : Nat) (c : UInt8) : Bool := decide (Lx.cls c = 3) || (decide (i ≠ 0) && (decide (c.toNat = 95) || decide (Lx.cls c = 4)))
def chsB : Nat → List UInt8 → Bool
  | _, [] => true
  | i, c :: r => chB i c && chsB (i + 1) r
def nameB (s : ByteArray) : Bool := (decide (s.size ≠ 0) && (decide (s.size ≤ 12) && !wordB s)) && chsB 0 s.data.toList
set_option maxRecDepth 100000 in
set_option maxHeartbeats 2000000 in
theorem isName_val (s : ByteArray) (hs : s.size ≤ maxLen) (w : World) :
    Calls Tryd.prog 61 #[.string s] w fun e w' => e = .returned (.bool (nameB s)) ∧ Below w.heap.size w w' := by
  have HV := Lib.hid (isWord_val s)
  by_cases h0 : s.size = 0
  · have HG2 : Hid (nameB s = false) := Lib.hid (by unfold nameB; rw [decide_eq_false (fun h => h h0)]; rfl)
    have e2 : s.toList = [] := by
      rw [Lib.toList_data]
      exact List.eq_nil_of_length_eq_zero (Array.length_toList.trans h0)
    have hne : (s.toList == []) = true := by rw [e2]; rfl
    clear h0 e2
    go_enter Tryd.func61, Tryd.ntmps61
    go_wp2_with fail
    go_ret
    rw [HG2.out]
    exact ⟨rfl, Below.refl _ _⟩
  by_cases h12 : 12 < s.size
  · have HG2 : Hid (nameB s = false) := Lib.hid (by unfold nameB; rw [decide_eq_true h0, decide_eq_false (show ¬ s.size ≤ 12 by omega)]; rfl)
    have hb1 : (12 : Int) < (s.size : Int) := by omega
    have hne : (s.toList == []) = false := by
      rw [beq_eq_false_iff_ne]
      intro e
      have e2 : s = ⟨#[]⟩ := Lx.bytes_of_list (e.trans (by rw [ByteArray.toList, ByteArray.toList.loop]; rfl))
      exact h0 (by rw [e2]; rfl)
    clear h0 h12
    go_enter Tryd.func61, Tryd.ntmps61
    go_wp2_with fail
    go_ret
    rw [HG2.out]
    exact ⟨rfl, Below.refl _ _⟩
  have hb1 : ¬ (12 : Int) < (s.size : Int) := by omega
  have hne : (s.toList == []) = false := by
    rw [beq_eq_false_iff_ne]
    intro e
    have e2 : s = ⟨#[]⟩ := Lx.bytes_of_list (e.trans (by rw [ByteArray.toList, ByteArray.toList.loop]; rfl))
    exact h0 (by rw [e2]; rfl)
  obtain ⟨wv, hwv⟩ : ∃ v, wordB s = v := ⟨_, rfl⟩
  rw [hwv] at HV
  cases wv with
  | true =>
    have HG2 : Hid (nameB s = false) := Lib.hid (by unfold nameB; rw [hwv, Bool.not_true, Bool.and_false, Bool.and_false, Bool.false_and])
    go_enter Tryd.func61, Tryd.ntmps61
    go_wp2_with fail
    refine (HV.out _).mono ?_
    rintro e w1 ⟨rfl, rfl⟩
    go_wp2_with fail
    go_ret
    rw [HG2.out]
    exact ⟨rfl, Below.refl _ _⟩
  | false =>
    go_enter Tryd.func61, Tryd.ntmps61
    go_wp2_with fail
    refine (HV.out _).mono ?_
    rintro e w1 ⟨rfl, rfl⟩
    go_wp2_with fail
    rw [Lib.run_convert_string_bytes w 9 35 5 s Tryd.underlying9 Tryd.underlying35 Tryd.underlying5]
    simp only [Result.andThen]
    rw [Oper.upon_value]
    have hcell : ∀ j, j < s.size → ∀ b, s.data.toList[j]? = some b → (Lib.bytesWorld w 5 s).cell? ⟨w.heap.size, j, none⟩ = some (.int .u8 (b.toNat : Int)) := fun j hj b hb => by
      rw [Lib.bytesWorld_cell w _ s j hj, List.getD, hb]; rfl
    have hbl : Below w.heap.size w (Lib.bytesWorld w 5 s) := Lib.bytesWorld_below _ _ _
    obtain ⟨wB, hwB⟩ : ∃ wB, Lib.bytesWorld w 5 s = wB := ⟨_, rfl⟩
    rw [hwB] at hcell hbl ⊢
    obtain ⟨cap, hcap⟩ : ∃ cap, grownCap w s.size 0 5 = cap := ⟨_, rfl⟩
    rw [hcap]
    have HC := Lib.hid hcell
    have HBL := Lib.hid hbl
    clear hcell hbl hwB hcap
    go_wp2_with fail
    go_loopw [20] (fun i wr => ∃ (k : Nat), k ≤ s.size ∧ i = i64 (k : Nat) ∧ Hid (chsB 0 s.data.toList = chsB k (s.data.toList.drop k)) ∧ wB = wr) (fun i _ => s.size - (intOf i).toNat)
    case atStart => exact ⟨0, Nat.zero_le _, rfl, Lib.hid rfl, rfl⟩
    case round =>
      obtain ⟨k, hk, rfl, HG, rfl⟩ := hrel
      by_cases hlt : k < s.size
      · have hlt' : (k : Int) < (s.size : Int) := by omega
        have hl : s.data.toList.length = s.size := Array.length_toList
        have hg := HG.out
        rw [List.drop_eq_getElem_cons (by rw [hl]; exact hlt)] at hg
        have hc := HC.out k hlt _ (List.getElem?_eq_getElem (by rw [hl]; exact hlt))
        obtain ⟨b, hb⟩ : ∃ b, s.data.toList[k]'(by rw [hl]; exact hlt) = b := ⟨_, rfl⟩
        rw [hb] at hc hg
        simp only [chsB] at hg
        have HG2 := Lib.hid hg
        have HX := Lib.hid hb
        by_cases q1 : b.toNat < 97
        · have f1 : ¬ (97 : Int) ≤ (b.toNat : Int) := by omega
          have hch0 : chB k b = (decide (k ≠ 0) && (decide (b.toNat = 95) || decide (48 ≤ b.toNat ∧ b.toNat ≤ 57))) := by
            unfold chB; rw [cls3_dec, decide_eq_false (fun h => by omega), Bool.false_or, cls4_dec]
          by_cases q2 : k = 0
          · have f2 : ((k : Int) == 0) = true := by rw [beq_iff_eq]; omega
            have hch : chB k b = false := by rw [hch0, decide_eq_false (fun h => h q2), Bool.false_and]
            clear q1 q2 hch0
            rw [hch, Bool.false_and] at hg
            have HG2 : Hid (nameB s = false) := Lib.hid (by unfold nameB; rw [hg]; simp)
            clear hg hb hl hch HX
            go_wp2_with fail
            go_ret
            rw [HG2.out]
            exact ⟨rfl, HBL.out⟩
          · have f2 : ((k : Int) == 0) = false := by rw [beq_eq_false_iff_ne]; omega
            rw [decide_eq_true q2, Bool.true_and] at hch0
            by_cases q3 : b.toNat = 95
            · have f3 : ((b.toNat : Int) != 95) = false := by rw [bne_eq_false_iff_eq]; omega
              have hch : chB k b = true := by rw [hch0, decide_eq_true q3, Bool.true_or]
              clear q1 q2 q3 hch0
              rw [hch, Bool.true_and] at hg
              have HG2 := Lib.hid hg
              clear hg hb hl hch HX
              go_wp2_with fail
              case roundEnd =>
                refine ⟨⟨k + 1, by omega, rfl, Lib.hid HG2.out, trivial⟩, ?_⟩
                simp only [intOf]; omega
            · have f3 : ((b.toNat : Int) != 95) = true := by rw [bne_iff_ne]; omega
              rw [decide_eq_false q3, Bool.false_or] at hch0
              by_cases q4 : b.toNat < 48
              · have f4 : (b.toNat : Int) < 48 := by omega
                have hch : chB k b = false := by rw [hch0, decide_eq_false (fun h => by omega)]
                clear q1 q2 q3 q4 hch0
                rw [hch, Bool.false_and] at hg
                have HG2 : Hid (nameB s = false) := Lib.hid (by unfold nameB; rw [hg]; simp)
                clear hg hb hl hch HX
                go_wp2_with fail
                go_ret
                rw [HG2.out]
                exact ⟨rfl, HBL.out⟩
              · have f4 : ¬ (b.toNat : Int) < 48 := by omega
                by_cases q5 : 57 < b.toNat
                · have f5 : (57 : Int) < (b.toNat : Int) := by omega
                  have hch : chB k b = false := by rw [hch0, decide_eq_false (fun h => by omega)]
                  clear q1 q2 q3 q4 q5 hch0
                  rw [hch, Bool.false_and] at hg
                  have HG2 : Hid (nameB s = false) := Lib.hid (by unfold nameB; rw [hg]; simp)
                  clear hg hb hl hch HX
                  go_wp2_with fail
                  go_ret
                  rw [HG2.out]
                  exact ⟨rfl, HBL.out⟩
                · have f5 : ¬ (57 : Int) < (b.toNat : Int) := by omega
                  have hch : chB k b = true := by rw [hch0, decide_eq_true (by omega)]
                  clear q1 q2 q3 q4 q5 hch0
                  rw [hch, Bool.true_and] at hg
                  have HG2 := Lib.hid hg
                  clear hg hb hl hch HX
                  go_wp2_with fail
                  case roundEnd =>
                    refine ⟨⟨k + 1, by omega, rfl, Lib.hid HG2.out, trivial⟩, ?_⟩
                    simp only [intOf]; omega
        · have f1 : (97 : Int) ≤ (b.toNat : Int) := by omega
          by_cases q2 : b.toNat ≤ 122
          · have f2 : (b.toNat : Int) ≤ 122 := by omega
            have hch : chB k b = true := by unfold chB; rw [cls3_dec, decide_eq_true (by omega), Bool.true_or]
            clear q1 q2
            rw [hch, Bool.true_and] at hg
            have HG2 := Lib.hid hg
            clear hg hb hl hch HX
            go_wp2_with fail
            case roundEnd =>
              refine ⟨⟨k + 1, by omega, rfl, Lib.hid HG2.out, trivial⟩, ?_⟩
              simp only [intOf]; omega
          · have f2 : ¬ (b.toNat : Int) ≤ 122 := by omega
            have hch0 : chB k b = decide (k ≠ 0 ∧ False) := by
              unfold chB; rw [cls3_dec, decide_eq_false (fun h => by omega), Bool.false_or, cls4_dec, decide_eq_false (fun h => by omega : ¬ b.toNat = 95), decide_eq_false (fun h => by omega : ¬ (48 ≤ b.toNat ∧ b.toNat ≤ 57))]
              simp
            have hch : chB k b = false := by rw [hch0]; simp
            have f3 : ((b.toNat : Int) != 95) = true := by rw [bne_iff_ne]; omega
            have f4 : ¬ (b.toNat : Int) < 48 := by omega
            have f5 : (57 : Int) < (b.toNat : Int) := by omega
            clear q1 q2 hch0
            by_cases q3 : k = 0
            · have f6 : ((k : Int) == 0) = true := by rw [beq_iff_eq]; omega
              clear q3
              rw [hch, Bool.false_and] at hg
              have HG2 : Hid (nameB s = false) := Lib.hid (by unfold nameB; rw [hg]; simp)
              clear hg hb hl hch HX
              go_wp2_with fail
              go_ret
              rw [HG2.out]
              exact ⟨rfl, HBL.out⟩
            · have f6 : ((k : Int) == 0) = false := by rw [beq_eq_false_iff_ne]; omega
              clear q3
              rw [hch, Bool.false_and] at hg
              have HG2 : Hid (nameB s = false) := Lib.hid (by unfold nameB; rw [hg]; simp)
              clear hg hb hl hch HX
              go_wp2_with fail
              go_ret
              rw [HG2.out]
              exact ⟨rfl, HBL.out⟩
      · have hlt' : ¬ (k : Int) < (s.size : Int) := by omega
        obtain rfl : k = s.size := by omega
        have hl : s.data.toList.length = s.size := Array.length_toList
        have hg := HG.out
        rw [List.drop_of_length_le (by omega)] at hg
        have HG2 : Hid (nameB s = true) := Lib.hid (by unfold nameB; rw [hg, hwv, decide_eq_true h0, decide_eq_true (by omega)]; rfl)
        clear hg hl
        go_wp2_with fail
        go_ret
        rw [HG2.out]
        exact ⟨rfl, HBL.out⟩
end Go.Proofs.YtmdogklgbifacaaDoor.Pr
