/- The walk of the statement that what is printed parses to what it was printed from. -/
import Derived.Test.YtmdogklgbifacaaDoorPsParse
import Derived.Test.YtmdogklgbifacaaDoorPsStrip
import Derived.Test.YtmdogklgbifacaaDoorPsSame
import Derived.Test.YtmdogklgbifacaaDoorPrC
import Derived.Test.YtmdogklgbifacaaDoorPrDiff
namespace Go.Proofs.YtmdogklgbifacaaDoor.Pr
open Go.RowKit Go.Proofs.YtmdogklgbifacaaDoor.Lx Go.Proofs.YtmdogklgbifacaaDoor.Ps
set_option linter.unusedVariables false

theorem keys_back {l xs : List Cm} (hv : validB l = true) (h : xs.map keyQ = (cmdsAt 0 l).map keyR) : xs.map keyC = l.map keyC := by
  have h1 : xs.map keyC = (xs.map keyQ).map (fun x => (x.1, x.2.1, x.2.2.1)) := by rw [List.map_map]; rfl
  have h2 : (cmdsAt 0 l).map keyP = ((cmdsAt 0 l).map keyR).map (fun x => (x.1, x.2.1, x.2.2.1)) := by rw [List.map_map]; rfl
  rw [h1, h, ← h2]
  exact cmdsAt_key l 0 (valid_all hv).2
set_option maxRecDepth 100000 in
set_option maxHeartbeats 2000000 in
theorem printerInverse_walk (A : Option Addr) (n c : Nat) (l : List Cm) (w : World) (h : IsCms w A n c l) (hv : VarP w) :
    Calls Tryd.prog 9 #[.slice A n c] w fun e w' => e = .returned (.bool true) ∧ Below w.heap.size w w' := by
  have HH := Lib.hid (head_val w hv)
  have HV := Lib.hid hv
  have HI := Lib.hid h
  have HF := Lib.hid (fun W (q : Below w.heap.size w W) => few_val A n c l W (h.up q))
  obtain ⟨f, hf⟩ : ∃ v, fewB l = v := ⟨_, rfl⟩
  rw [hf] at HF
  have hn := h.1
  clear h hv
  cases f with
  | false =>
    clear hf hn
    go_enter Tryd.func9, Tryd.ntmps9
    go_wp2_with fail
    refine HH.out.mono ?_
    rintro e1 w1 ⟨rfl, hb1⟩
    have HB1 := Lib.hid hb1
    clear hb1
    go_wp2_with fail
    refine (HF.out _ HB1.out).mono ?_
    rintro e2 w2 ⟨rfl, rfl⟩
    go_wp2_with fail
    go_ret
    exact ⟨rfl, HB1.out⟩
  | true =>
    have hl310 := few_len hf
    have hn310 : n ≤ 310 := by omega
    have HP := Lib.hid (fun W (q : Below w.heap.size w W) => print_val A n c l W (HI.out.up q) (HV.out.up q))
    rw [print_law] at HP
    rcases rprint_cases l with ⟨x1, x2⟩ | ⟨x1, _, x2⟩ | ⟨x1, x8, x2000, x2⟩
    · rw [x2] at HP
      dsimp only at HP
      clear x1 x2
      go_enter Tryd.func9, Tryd.ntmps9
      go_wp2_with fail
      refine HH.out.mono ?_
      rintro e1 w1 ⟨rfl, hb1⟩
      have HB1 := Lib.hid hb1
      clear hb1
      go_wp2_with fail
      refine (HF.out _ HB1.out).mono ?_
      rintro e2 w2 ⟨rfl, rfl⟩
      go_wp2_with fail
      refine (HP.out _ HB1.out).mono ?_
      rintro e3 w3 ⟨rfl, hb3⟩
      have HB3 := Lib.hid (below_trans' HB1.out hb3)
      clear hb3
      go_wp2_with fail
      go_ret
      exact ⟨rfl, HB3.out⟩
    · rw [x2] at HP
      dsimp only at HP
      clear x1 x2
      go_enter Tryd.func9, Tryd.ntmps9
      go_wp2_with fail
      refine HH.out.mono ?_
      rintro e1 w1 ⟨rfl, hb1⟩
      have HB1 := Lib.hid hb1
      clear hb1
      go_wp2_with fail
      refine (HF.out _ HB1.out).mono ?_
      rintro e2 w2 ⟨rfl, rfl⟩
      go_wp2_with fail
      refine (HP.out _ HB1.out).mono ?_
      rintro e3 w3 ⟨rfl, hb3⟩
      have HB3 := Lib.hid (below_trans' HB1.out hb3)
      clear hb3
      go_wp2_with fail
      go_ret
      exact ⟨rfl, HB3.out⟩
    · rw [x2] at HP
      dsimp only at HP
      obtain ⟨T, hT⟩ : ∃ T : ByteArray, (⟨(outL l).toArray⟩ : ByteArray) = T := ⟨_, rfl⟩
      have hTl : T.data.toList = outL l := by rw [← hT]
      have hTs : T.size ≤ maxLen := by
        have : T.size = (outL l).length := by rw [← hT]; rfl
        unfold maxLen; omega
      have HPA := Lib.hid (fun W (q : Below w.heap.size w W) => parse_val T hTs W (HV.out.up q).err)
      have HPL := Lib.hid (parse_out x1 x8 x2000)
      have HX1 := Lib.hid x1
      rw [hT] at HP
      clear x1 x2 x8 x2000 hT hTs
      go_enter Tryd.func9, Tryd.ntmps9
      go_wp2_with fail
      refine HH.out.mono ?_
      rintro e1 w1 ⟨rfl, hb1⟩
      have HB1 := Lib.hid hb1
      clear hb1
      go_wp2_with fail
      refine (HF.out _ HB1.out).mono ?_
      rintro e2 w2 ⟨rfl, rfl⟩
      go_wp2_with fail
      refine (HP.out _ HB1.out).mono ?_
      rintro e3 w3 ⟨rfl, hb3⟩
      have HB3 := Lib.hid (below_trans' HB1.out hb3)
      clear hb3
      go_wp2_with fail
      refine (HPA.out _ HB3.out).mono ?_
      rintro e4 w4 ⟨B, m, d, xs, D, k, f, ds, rfl, hx, hd, hb4, hk, hds⟩
      rw [hTl, HPL.out] at hk hds
      dsimp only at hk hds
      subst hds
      have hk0 : k = 0 := hd.1.symm
      subst hk0
      have hbk := keys_back HX1.out hk
      have hm310 : m ≤ 310 := by
        have h1 := congrArg List.length hbk
        rw [List.length_map, List.length_map] at h1
        have h2 := hx.1
        omega
      have HB4 := Lib.hid (below_trans' HB3.out hb4)
      have HS1 := Lib.hid (strip_val B m d xs w4 hx (by omega))
      have HSM : Hid (sameC (xs.map bareC) (l.map bareC) = true) := Lib.hid (by rw [same_bare]; exact decide_eq_true hbk)
      clear hx hd hb4 hk hbk
      go_wp2_with fail
      refine HS1.out.mono ?_
      rintro e5 w5 ⟨E, g, rfl, hi5, hb5⟩
      have HB5 := Lib.hid (below_trans' HB4.out hb5)
      have HI5 := Lib.hid hi5
      have HS2 := Lib.hid (strip_val A n c l w5 (HI.out.up HB5.out) (by omega))
      clear hi5 hb5
      go_wp2_with fail
      refine HS2.out.mono ?_
      rintro e6 w6 ⟨E2, g2, rfl, hi6, hb6⟩
      have HB6 := Lib.hid (below_trans' HB5.out hb6)
      have HSV := Lib.hid (same_val _ _ _ _ _ _ _ _ w6 (HI5.out.up hb6) hi6)
      rw [HSM.out] at HSV
      clear hi6 hb6
      go_wp2_with fail
      refine HSV.out.mono ?_
      rintro e7 w7 ⟨rfl, hb7⟩
      have HB7 := Lib.hid (below_trans' HB6.out hb7)
      clear hb7
      go_wp2_with fail
      go_ret
      exact ⟨rfl, HB7.out⟩
end Go.Proofs.YtmdogklgbifacaaDoor.Pr
