/- The walk of the statement that the parser is its reference. -/
import Derived.Test.YtjfcdfhcmkdicaaGreatDoorPsHeadQ
import Derived.Test.YtjfcdfhcmkdicaaGreatDoorPsRParse
import Derived.Test.YtjfcdfhcmkdicaaGreatDoorPsRStrip
namespace Go.Proofs.YtjfcdfhcmkdicaaGreatDoor.Ps
open Go.RowKit Go.Proofs.YtjfcdfhcmkdicaaGreatDoor.Lx Go.Proofs.YtjfcdfhcmkdicaaGreatDoor.Pr
set_option linter.unusedVariables false

theorem few_le {l : List Cm} (h : fewB l = true) : l.length ≤ 310 := by
  unfold fewB at h
  rw [Bool.and_eq_true] at h
  exact of_decide_eq_true h.1
theorem same_key {xs ys : List Cm} {r : List (Int × ByteArray × List Int × Int)} (hx : xs.map keyQ = r) (hy : ys.map keyQ = r) : sameC xs ys = true := decide_eq_true (hx.trans hy.symm)
set_option maxRecDepth 100000 in
set_option maxHeartbeats 2000000 in
theorem parserMatchesReference_walk (s : ByteArray) (A : Option Addr) (n c : Nat) (l : List Cm) (w : World) (hs : s.size ≤ maxLen) (_hz : s.size ≤ 140737488351232) (h : IsCms w A n c l) (hv : Lx.Vars w) :
    Calls Tryz.prog 3 #[.string s, .slice A n c] w fun e w' => e = .returned (.bool true) ∧ Below w.heap.size w w' := by
  have HH := Lib.hid (qhead_val w hv)
  have HV := Lib.hid hv
  have HI := Lib.hid h
  have HF := Lib.hid (fun W (q : Below w.heap.size w W) => few_val A n c l W (h.up q))
  have HPA := Lib.hid (fun W (q : Below w.heap.size w W) => parse_val s hs W (HV.out.up q))
  have HRP := Lib.hid (fun W => rparse_val s hs W)
  have hnl := h.1
  obtain ⟨f, hf⟩ : ∃ v, fewB l = v := ⟨_, rfl⟩
  rw [hf] at HF
  clear h hs hv
  go_enter Tryz.func3, Tryz.ntmps3
  go_wp2_with fail
  refine HH.out.mono ?_
  rintro e1 w1 ⟨rfl, hb1⟩
  have HB1 := Lib.hid hb1
  clear hb1 HH
  by_cases hlong : 8010 < s.size
  · have hl1 : (8010 : Int) < (s.size : Int) := by omega
    go_wp2_with fail
    go_ret
    exact ⟨rfl, HB1.out⟩
  · have hl1 : ¬ (8010 : Int) < (s.size : Int) := by omega
    cases f with
    | false =>
      go_wp2_with fail
      refine (HF.out _ HB1.out).mono ?_
      rintro e2 w2 ⟨rfl, rfl⟩
      go_wp2_with fail
      go_ret
      exact ⟨rfl, HB1.out⟩
    | true =>
      have hl310 := few_le hf
      go_wp2_with fail
      refine (HF.out _ HB1.out).mono ?_
      rintro e2 w2 ⟨rfl, rfl⟩
      go_wp2_with fail
      refine (HPA.out _ HB1.out).mono ?_
      rintro e3 w3 ⟨B, m, d, xs, D, k, q, ds, rfl, hx, hd, hb3, hk, hds⟩
      have HB3 := Lib.hid (below_trans' HB1.out hb3)
      have HX := Lib.hid hx
      have HD := Lib.hid hd
      have HK := Lib.hid hk
      have HDS := Lib.hid hds
      clear hx hd hb3 hk hds
      go_wp2_with fail
      refine (HRP.out _).mono ?_
      rintro e4 w4 ⟨B', m', d', ys, D', k', q', es, rfl, hy, he, hb4, hk', hes⟩
      have HB4 := Lib.hid (below_trans' HB3.out hb4)
      have HSV := Lib.hid (same_val _ _ _ _ _ _ _ _ w4 (HX.out.up hb4) hy)
      rw [same_key HK.out hk'] at HSV
      have HD4 := Lib.hid (HD.out.up hb4)
      have HE4 := Lib.hid he
      have HEE : Hid (decide (ds = es) = true) := Lib.hid (decide_eq_true (HDS.out.trans hes.symm))
      clear hy he hb4 hk' hes
      go_wp2_with fail
      refine HSV.out.mono ?_
      rintro e5 w5 ⟨rfl, hb5⟩
      have HB5 := Lib.hid (below_trans' HB4.out hb5)
      have HDV := Lib.hid (sameDiags_val _ _ _ _ _ _ _ _ w5 (HD4.out.up hb5) (HE4.out.up hb5))
      rw [HEE.out] at HDV
      clear hb5
      go_wp2_with fail
      refine HDV.out.mono ?_
      rintro e6 w6 ⟨rfl, hb6⟩
      have HB6 := Lib.hid (below_trans' HB5.out hb6)
      have HVV := Lib.hid (valid_val A n c l w6 (HI.out.up HB6.out))
      obtain ⟨v, hvl⟩ : ∃ v, validB l = v := ⟨_, rfl⟩
      rw [hvl] at HVV
      clear hb6
      go_wp2_with fail
      refine HVV.out.mono ?_
      rintro e7 w7 ⟨rfl, hb7⟩
      have HB7 := Lib.hid (below_trans' HB6.out hb7)
      have HRV := Lib.hid (rvalid_val A n c l w7 (HI.out.up HB7.out))
      rw [hvl] at HRV
      clear hb7 hvl
      have hvv : (v == v) = true := by cases v <;> rfl
      go_wp2_with fail
      refine HRV.out.mono ?_
      rintro e8 w8 ⟨rfl, hb8⟩
      have HB8 := Lib.hid (below_trans' HB7.out hb8)
      have HS1 := Lib.hid (strip_val A n c l w8 (HI.out.up HB8.out) (by omega))
      clear hb8
      go_wp2_with fail
      refine HS1.out.mono ?_
      rintro e9 w9 ⟨E1, g1, rfl, hi9, hb9⟩
      have HB9 := Lib.hid (below_trans' HB8.out hb9)
      have HI9 := Lib.hid hi9
      have HS2 := Lib.hid (rstrip_val A n c l w9 (HI.out.up HB9.out) (by omega))
      clear hi9 hb9
      go_wp2_with fail
      refine HS2.out.mono ?_
      rintro e10 w10 ⟨E2, g2, rfl, hi10, hb10⟩
      have HB10 := Lib.hid (below_trans' HB9.out hb10)
      have HSW := Lib.hid (same_val _ _ _ _ _ _ _ _ w10 (HI9.out.up hb10) hi10)
      rw [show sameC (l.map bareC) (l.map bareC) = true from decide_eq_true rfl] at HSW
      clear hi10 hb10
      go_wp2_with fail
      refine HSW.out.mono ?_
      rintro e11 w11 ⟨rfl, hb11⟩
      have HB11 := Lib.hid (below_trans' HB10.out hb11)
      clear hb11
      go_wp2_with fail
      go_ret
      exact ⟨rfl, HB11.out⟩
end Go.Proofs.YtjfcdfhcmkdicaaGreatDoor.Ps
