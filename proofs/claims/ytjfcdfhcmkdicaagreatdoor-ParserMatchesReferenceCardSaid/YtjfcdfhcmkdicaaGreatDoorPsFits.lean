/- The reference: does a token fit a part of a form? -/
import Derived.Test.YtjfcdfhcmkdicaaGreatDoorPsB
import Derived.Test.YtjfcdfhcmkdicaaGreatDoorPrA
namespace Go.Proofs.YtjfcdfhcmkdicaaGreatDoor.Ps
open Go.RowKit Go.Proofs.YtjfcdfhcmkdicaaGreatDoor.Lx Go.Proofs.YtjfcdfhcmkdicaaGreatDoor.Pr
set_option linter.unusedVariables false

set_option maxRecDepth 100000 in
set_option maxHeartbeats 1000000 in
theorem fits_val (t : Tok) (hs : t.text.size ≤ maxLen) (p : List UInt8) (w : World) :
    Calls Tryz.prog 72 #[.agg (tokA t), .string ⟨p.toArray⟩] w fun e w' => e = .returned (.bool (fitsB t p)) ∧ Below w.heap.size w w' := by
  obtain ⟨tk, tx, tn, tp⟩ := t
  obtain ⟨S, hS⟩ : ∃ S : ByteArray, ⟨p.toArray⟩ = S := ⟨_, rfl⟩
  have hSl : S.toList = p := by rw [← hS, Lib.toList_data]
  rw [hS]
  unfold tokA
  dsimp only
  obtain ⟨v35, h35⟩ : ∃ v, (p == [35]) = v := ⟨_, rfl⟩
  obtain ⟨v110, h110⟩ : ∃ v, (p == [110]) = v := ⟨_, rfl⟩
  obtain ⟨v100, h100⟩ : ∃ v, (p == [100]) = v := ⟨_, rfl⟩
  have g35 : (S.toList == [35]) = v35 := by rw [hSl, h35]
  have g110 : (S.toList == [110]) = v110 := by rw [hSl, h110]
  have g100 : (S.toList == [100]) = v100 := by rw [hSl, h100]
  have BT := Lib.hid (Blk.new w 49 #[.int .i64 (tk : Nat), .string tx, .int .i64 (tn : Nat), .int .i64 (tp : Nat)])
  have HB : Hid (Below w.heap.size w (w.alloc (.cells #[.int .i64 (tk : Nat), .string tx, .int .i64 (tn : Nat), .int .i64 (tp : Nat)] 49))) := Lib.hid ((Below.refl _ _).alloc (Nat.le_refl _) _)
  have e2 : ((tk : Int) == 2) = decide (tk = 2) := by by_cases h : tk = 2 <;> simp [h]; omega
  have e1 : ((tk : Int) == 1) = decide (tk = 1) := by by_cases h : tk = 1 <;> simp [h]; omega
  have HR := Lib.hid (rname_val tx hs)
  cases v35 with
  | true =>
    have hf : fitsB ⟨tk, tx, tn, tp⟩ p = ((tk : Int) == 2) := by unfold fitsB; rw [if_pos (beq_iff_eq.1 h35), e2]
    rw [hf]
    clear hf e1 e2 h35 h110 h100 g110 g100 hS hSl
    go_enter Tryz.func72, Tryz.ntmps72
    go_wp2_with fail
    go_ret
    exact ⟨rfl, HB.out⟩
  | false =>
    have n35 : ¬ p = [35] := beq_eq_false_iff_ne.1 h35
    cases v110 with
    | true =>
      have hf : fitsB ⟨tk, tx, tn, tp⟩ p = (((tk : Int) == 1) && nameB tx) := by unfold fitsB; rw [if_neg n35, if_pos (beq_iff_eq.1 h110), e1]
      rw [hf]
      obtain ⟨v, hv⟩ : ∃ v, ((tk : Int) == 1) = v := ⟨_, rfl⟩
      rw [hv]
      clear hf e1 e2 h35 h110 h100 g100 hS hSl n35
      cases v with
      | true =>
        go_enter Tryz.func72, Tryz.ntmps72
        go_wp2_with fail
        refine (HR.out _).mono ?_
        rintro q1 w1 ⟨rfl, hb1⟩
        have HB1 := Lib.hid (below_trans' HB.out hb1)
        clear hb1
        go_wp2_with fail
        go_ret
        exact ⟨rfl, HB1.out⟩
      | false =>
        go_enter Tryz.func72, Tryz.ntmps72
        go_wp2_with fail
        go_ret
        exact ⟨rfl, HB.out⟩
    | false =>
      have n110 : ¬ p = [110] := beq_eq_false_iff_ne.1 h110
      cases v100 with
      | true =>
        obtain ⟨a, ha⟩ : ∃ v, (tx.data.toList == bFast) = v := ⟨_, rfl⟩
        obtain ⟨b, hb⟩ : ∃ v, (tx.data.toList == bSlow) = v := ⟨_, rfl⟩
        have ga : (tx.toList == [102, 97, 115, 116]) = a := by rw [Lib.toList_data]; exact ha
        have gb : (tx.toList == [115, 108, 111, 119]) = b := by rw [Lib.toList_data]; exact hb
        obtain ⟨v, hv⟩ : ∃ v, ((tk : Int) == 1) = v := ⟨_, rfl⟩
        have hf : fitsB ⟨tk, tx, tn, tp⟩ p = (v && (a || b)) := by unfold fitsB; rw [if_neg n35, if_neg n110, if_pos (beq_iff_eq.1 h100), ← hv, e1, ← ha, ← hb]
        rw [hf]
        clear hf e1 e2 h35 h110 h100 hS hSl n35 n110 ha hb
        cases v <;> cases a <;> cases b
        all_goals
          go_enter Tryz.func72, Tryz.ntmps72
          go_wp2_with fail
          go_ret
          exact ⟨rfl, HB.out⟩
      | false =>
        have n100 : ¬ p = [100] := beq_eq_false_iff_ne.1 h100
        obtain ⟨a, ha⟩ : ∃ v, (tx.data.toList == p) = v := ⟨_, rfl⟩
        have ga : (tx.toList == S.toList) = a := by rw [hSl, Lib.toList_data]; exact ha
        obtain ⟨v, hv⟩ : ∃ v, ((tk : Int) != 2) = v := ⟨_, rfl⟩
        have e3 : decide (tk ≠ 2) = v := by rw [← hv]; unfold bne; rw [e2]; by_cases h : tk = 2 <;> simp [h]
        have hf : fitsB ⟨tk, tx, tn, tp⟩ p = (v && a) := by unfold fitsB; rw [if_neg n35, if_neg n110, if_neg n100, e3, ← ha]
        rw [hf]
        clear hf e1 e2 e3 h35 h110 h100 hS hSl n35 n110 n100 ha
        cases v <;> cases a
        all_goals
          go_enter Tryz.func72, Tryz.ntmps72
          go_wp2_with fail
          go_ret
          exact ⟨rfl, HB.out⟩
end Go.Proofs.YtjfcdfhcmkdicaaGreatDoor.Ps
