/- The law PrinterDiffers. -/
import Derived.Test.YtmdogklgbifacaaDoorPsSame
import Derived.Test.YtmdogklgbifacaaDoorPsLine
namespace Go.Proofs.YtmdogklgbifacaaDoor.Pr
open Go.RowKit Go.Proofs.YtmdogklgbifacaaDoor.Lx Go.Proofs.YtmdogklgbifacaaDoor.Ps
set_option linter.unusedVariables false

theorem key_bare : ∀ (a b : List Cm), ((a.map bareC).map keyA = (b.map bareC).map keyA) ↔ a.map keyC = b.map keyC := by
  intro a b
  have hf : ∀ l : List Cm, (l.map bareC).map keyA = (l.map keyC).map fun k => (k.1, k.2.1, k.2.2, (0 : Int)) := by
    intro l; rw [List.map_map, List.map_map]; rfl
  rw [hf a, hf b]
  constructor
  · intro h
    refine (List.map_inj_right (fun x y e => ?_)).1 h
    simp only [Prod.mk.injEq, and_true] at e
    exact Prod.ext e.1 (Prod.ext e.2.1 e.2.2)
  · intro h; rw [h]
theorem same_bare (a b : List Cm) : sameC (a.map bareC) (b.map bareC) = decide (a.map keyC = b.map keyC) := by
  unfold sameC
  rw [decide_eq_decide]
  exact key_bare a b
theorem rprint_ok {l : List Cm} (h : (rprintL l).2 = 0) : validB l = true ∧ (outL l).length ≤ 8000 ∧ tokL l ≤ 2000 ∧ rprintL l = (outL l, 0) := by
  rcases rprint_cases l with ⟨x1, x2⟩ | ⟨x1, x2, x3⟩ | x
  · rw [x2] at h; cases h
  · rw [x3] at h; cases h
  · exact x
set_option maxRecDepth 100000 in
set_option maxHeartbeats 2000000 in
theorem printerDiffers_walk (A : Option Addr) (n c : Nat) (a : List Cm) (B : Option Addr) (m d : Nat) (b : List Cm) (w : World) (ha : IsCms w A n c a) (hb : IsCms w B m d b) (hv : VarP w) :
    Calls Tryd.prog 6 #[.slice A n c, .slice B m d] w fun e w' => e = .returned (.bool true) ∧ Below w.heap.size w w' := by
  have HH := Lib.hid (head_val w hv)
  have HV := Lib.hid hv
  have HIa := Lib.hid ha
  have HIb := Lib.hid hb
  have HFA := Lib.hid (fun W (h : Below w.heap.size w W) => few_val A n c a W (ha.up h))
  have HFB := Lib.hid (fun W (h : Below w.heap.size w W) => few_val B m d b W (hb.up h))
  obtain ⟨fa, hfa⟩ : ∃ v, fewB a = v := ⟨_, rfl⟩
  obtain ⟨fb, hfb⟩ : ∃ v, fewB b = v := ⟨_, rfl⟩
  rw [hfa] at HFA
  rw [hfb] at HFB
  have hna := ha.1
  have hnb := hb.1
  clear ha hb hv
  cases fa with
  | false =>
    clear hfa hfb hna hnb
    go_enter Tryd.func6, Tryd.ntmps6
    go_wp2_with fail
    refine HH.out.mono ?_
    rintro e1 w1 ⟨rfl, hb1⟩
    have HB1 := Lib.hid hb1
    clear hb1
    go_wp2_with fail
    refine (HFA.out _ HB1.out).mono ?_
    rintro e2 w2 ⟨rfl, rfl⟩
    go_wp2_with fail
    go_ret
    exact ⟨rfl, HB1.out⟩
  | true =>
    cases fb with
    | false =>
      clear hfa hfb hna hnb
      go_enter Tryd.func6, Tryd.ntmps6
      go_wp2_with fail
      refine HH.out.mono ?_
      rintro e1 w1 ⟨rfl, hb1⟩
      have HB1 := Lib.hid hb1
      clear hb1
      go_wp2_with fail
      refine (HFA.out _ HB1.out).mono ?_
      rintro e2 w2 ⟨rfl, rfl⟩
      go_wp2_with fail
      refine (HFB.out _ HB1.out).mono ?_
      rintro e3 w3 ⟨rfl, rfl⟩
      go_wp2_with fail
      go_ret
      exact ⟨rfl, HB1.out⟩
    | true =>
      have hn3 : n ≤ 100000 := by rw [← hna]; have := few_len hfa; omega
      have hm3 : m ≤ 100000 := by rw [← hnb]; have := few_len hfb; omega
      have HPA := Lib.hid (fun W (h : Below w.heap.size w W) => print_val A n c a W (HIa.out.up h) (HV.out.up h))
      have HPB := Lib.hid (fun W (h : Below w.heap.size w W) => print_val B m d b W (HIb.out.up h) (HV.out.up h))
      rw [print_law] at HPA HPB
      have HSA := Lib.hid (fun W (h : Below w.heap.size w W) => strip_val A n c a W (HIa.out.up h) hn3)
      have HSB := Lib.hid (fun W (h : Below w.heap.size w W) => strip_val B m d b W (HIb.out.up h) hm3)
      have HL : Hid ((rprintL a).2 = 0 → (rprintL b).2 = 0 → decide (a.map keyC = b.map keyC) = ((⟨(rprintL a).1.toArray⟩ : ByteArray).toList == (⟨(rprintL b).1.toArray⟩ : ByteArray).toList)) := Lib.hid (by
        intro ea eb
        obtain ⟨a1, a2, a3, a4⟩ := rprint_ok ea
        obtain ⟨b1, b2, b3, b4⟩ := rprint_ok eb
        rw [Lib.toList_data, Lib.toList_data, a4, b4, Bool.eq_iff_iff]
        simp only [decide_eq_true_eq, beq_iff_eq]
        exact (same_text a1 b1 a2 a3 b2 b3).symm)
      obtain ⟨⟨ta, ea⟩, hra⟩ : ∃ q, rprintL a = q := ⟨_, rfl⟩
      obtain ⟨⟨tb, eb⟩, hrb⟩ : ∃ q, rprintL b = q := ⟨_, rfl⟩
      rw [hra] at HPA HL
      rw [hrb] at HPB HL
      dsimp only at HPA HPB HL
      obtain ⟨SA, hSA⟩ : ∃ T : ByteArray, ⟨ta.toArray⟩ = T := ⟨_, rfl⟩
      obtain ⟨SB, hSB⟩ : ∃ T : ByteArray, ⟨tb.toArray⟩ = T := ⟨_, rfl⟩
      rw [hSA] at HPA HL
      rw [hSB] at HPB HL
      clear hra hrb hSA hSB hfa hfb hna hnb hn3 hm3
      go_enter Tryd.func6, Tryd.ntmps6
      go_wp2_with fail
      refine HH.out.mono ?_
      rintro e1 w1 ⟨rfl, hb1⟩
      have HB1 := Lib.hid hb1
      clear hb1
      go_wp2_with fail
      refine (HFA.out _ HB1.out).mono ?_
      rintro e2 w2 ⟨rfl, rfl⟩
      go_wp2_with fail
      refine (HFB.out _ HB1.out).mono ?_
      rintro e3 w3 ⟨rfl, rfl⟩
      go_wp2_with fail
      refine (HPA.out _ HB1.out).mono ?_
      rintro e3 w3 ⟨rfl, hb3⟩
      have HB3 := Lib.hid (below_trans' HB1.out hb3)
      clear hb3
      go_wp2_with fail
      refine (HPB.out _ HB3.out).mono ?_
      rintro e4 w4 ⟨rfl, hb4⟩
      have HB4 := Lib.hid (below_trans' HB3.out hb4)
      clear hb4
      by_cases hea : ea = 0
      · by_cases heb : eb = 0
        · subst hea heb
          have HL2 := Lib.hid (HL.out rfl rfl)
          go_wp2_with fail
          refine (HSA.out _ HB4.out).mono ?_
          rintro e5 w5 ⟨A5, c5, rfl, hi5, hb5⟩
          have HB5 := Lib.hid (below_trans' HB4.out hb5)
          have HI5 := Lib.hid hi5
          clear hb5 hi5
          go_wp2_with fail
          refine (HSB.out _ HB5.out).mono ?_
          rintro e6 w6 ⟨A6, c6, rfl, hi6, hb6⟩
          have HB6 := Lib.hid (below_trans' HB5.out hb6)
          have HSM := Lib.hid (same_val A5 n c5 _ A6 m c6 _ w6 (HI5.out.up hb6) hi6)
          rw [same_bare, HL2.out] at HSM
          obtain ⟨q, hq⟩ : ∃ q, (SA.toList == SB.toList) = q := ⟨_, rfl⟩
          rw [hq] at HSM
          clear hb6 hi6 HL2 HL
          go_wp2_with fail
          refine HSM.out.mono ?_
          rintro e7 w7 ⟨rfl, hb7⟩
          have HB7 := Lib.hid (below_trans' HB6.out hb7)
          clear hb7
          go_wp2_with fail
          go_ret
          exact ⟨by simp, HB7.out⟩
        · subst hea
          have f1 : ((eb : Int) != 0) = true := by rw [bne_iff_ne]; omega
          go_wp2_with fail
          go_ret
          exact ⟨rfl, HB4.out⟩
      · have f1 : ((ea : Int) != 0) = true := by rw [bne_iff_ne]; omega
        go_wp2_with fail
        go_ret
        exact ⟨rfl, HB4.out⟩
end Go.Proofs.YtmdogklgbifacaaDoor.Pr
