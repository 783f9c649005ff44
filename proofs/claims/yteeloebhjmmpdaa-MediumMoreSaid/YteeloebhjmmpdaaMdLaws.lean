/- The walks of the laws of chapter 17: the reference; who is caught. -/
import Derived.Test.YteeloebhjmmpdaaPlLaws
import Derived.Test.YteeloebhjmmpdaaMdHead
namespace Go.Proofs.Yteeloebhjmmpdaa.Md
open Go.RowKit Go.Proofs.Yteeloebhjmmpdaa.Pl
set_option linter.unusedVariables false

set_option maxRecDepth 100000 in
set_option maxHeartbeats 2000000 in
theorem mediumMatchesReference_walk (A : Option Addr) (n c : Nat) (ra : List Ac) (P : Option Addr) (m d : Nat) (ps : List Pt) (r : Int) (J : Option Addr) (k e : Nat) (js : List Jm) (asn : Int) (w : World)
    (g0 : IsActs w A n c ra) (g1 : IsPlaces w P m d ps) (g2 : (Lit.int .i64 r).wf = true) (g3 : IsJams w J k e js) (g4 : (Lit.int .i64 asn).wf = true) :
    Calls Try.prog 10 #[.slice A n c, .slice P m d, i64 r, .slice J k e, i64 asn] w fun e w' => e = .returned (.bool true) ∧ Below w.heap.size w w' := by
  have hn := small_of g0
  have hm := small_of g1
  have hk := small_of g3
  obtain ⟨hl, hR, _, _, _⟩ := g0
  obtain ⟨hl1, hP, _, _, _⟩ := g1
  obtain ⟨hl3, hJ, _, _, _⟩ := g3
  clear g2 g4
  have HL := Lib.hid hl; clear hl
  have HM := Lib.hid hl1; clear hl1
  have HJ := Lib.hid hl3; clear hl3
  cases hf : fewB n m k
  · have HF := Lib.hid hf; clear hf
    go_enter Try.func10, Try.ntmps10
    go_wp2_with fail
    refine (head_val _).mono ?_
    rintro e w1 ⟨rfl, hb1⟩
    go_wp2_with fail
    refine (few_val A P J n c m d k _ _ HF.out hn hm hk _).mono ?_
    rintro e w' ⟨rfl, rfl⟩
    go_wp2_with fail
    go_ret
    exact ⟨rfl, hb1⟩
  · have HF := Lib.hid hf; clear hf
    cases hok : okm ra ps r asn
    · have HO := Lib.hid hok; clear hok
      go_enter Try.func10, Try.ntmps10
      go_wp2_with fail
      refine (head_val _).mono ?_
      rintro e w1 ⟨rfl, hb1⟩
      go_wp2_with fail
      refine (few_val A P J n c m d k _ _ HF.out hn hm hk _).mono ?_
      rintro e w' ⟨rfl, rfl⟩
      go_wp2_with fail
      refine (mdCatch_bad A n c P m d w.heap.size J k _ ra ps r asn HO.out _ (hR.below hb1) (hP.below hb1) hb1.size HL.out HM.out hn hm).mono ?_
      rintro e w2 ⟨rfl, hb2⟩
      have hB2 := below_trans' hb1 hb2
      go_wp2_with fail
      refine (refMCatch_bad A n c P m d w.heap.size J k _ ra ps r asn HO.out _ (hR.below hB2) (hP.below hB2) hB2.size HL.out HM.out hn hm).mono ?_
      rintro e w3 ⟨rfl, hb3⟩
      have hB3 := below_trans' hB2 hb3
      go_wp2_with fail
      refine (refMSame_val none 0 0 none 0 0 0 [] [] true (by decide) _ Rd.nil_ Rd.nil_ (Nat.zero_le _) (by decide) (by decide)).mono ?_
      rintro e w4 ⟨rfl, hb4⟩
      go_wp2_with fail
      go_ret
      exact ⟨rfl, below_trans' hB3 hb4⟩
    · obtain rfl : n = m := by
        have := hok
        rw [okm_frame, HL.out, HM.out] at this
        simp only [Bool.and_eq_true] at this
        exact (frame_true this.1).1
      have HO := Lib.hid hok; clear hok
      go_enter Try.func10, Try.ntmps10
      go_wp2_with fail
      refine (head_val _).mono ?_
      rintro e w1 ⟨rfl, hb1⟩
      go_wp2_with fail
      refine (few_val A P J n c n d k _ _ HF.out hn hm hk _).mono ?_
      rintro e w' ⟨rfl, rfl⟩
      go_wp2_with fail
      refine (mdCatch_good A n c P d w.heap.size J k _ ra ps r js asn HO.out _ (hR.below hb1) (hP.below hb1) (hJ.below hb1) hb1.size HL.out HM.out HJ.out hk).mono ?_
      rintro e w2 ⟨G, rfl, hG, hb2⟩
      have HG := Lib.hid hG; clear hG
      have hB2 := below_trans' hb1 hb2
      go_wp2_with fail
      refine (refMCatch_good A n c P d w.heap.size J k _ ra ps r js asn HO.out _ (hR.below hB2) (hP.below hB2) (hJ.below hB2) hB2.size HL.out HM.out HJ.out hk).mono ?_
      rintro e w3 ⟨X, q, rfl, hX, hb3⟩
      have hB3 := below_trans' hB2 hb3
      have HG3 := Lib.hid (HG.out.up hb3)
      have HX := Lib.hid hX; clear hX
      go_wp2_with fail
      refine (refMSame_val _ n n X n q w3.heap.size _ _ true (by simp) _ HG3.out HX.out (Nat.le_refl _) hn hn).mono ?_
      rintro e w4 ⟨rfl, hb4⟩
      go_wp2_with fail
      go_ret
      exact ⟨rfl, below_trans' hB3 hb4⟩
end Go.Proofs.Yteeloebhjmmpdaa.Md
