/- The walk of the statement that each line of the canonical text is the text of one command. -/
import Derived.Test.YtmdogklgbifacaaDoorPsLawI
import Derived.Test.YtmdogklgbifacaaDoorPsLines
namespace Go.Proofs.YtmdogklgbifacaaDoor.Pr
open Go.RowKit Go.Proofs.YtmdogklgbifacaaDoor.Lx Go.Proofs.YtmdogklgbifacaaDoor.Ps
set_option linter.unusedVariables false

theorem keys_len {l xs : List Cm} (h : xs.map keyQ = (cmdsAt 0 l).map keyR) : xs.length = l.length := by
  have := congrArg List.length h
  rwa [List.length_map, List.length_map, cmdsAt_len] at this
theorem keys_pos {l xs : List Cm} (h : xs.map keyQ = (cmdsAt 0 l).map keyR) {k : Nat} (hk : k < xs.length) : xs[k].pos = ((outL (l.take k)).length : Nat) := by
  have hk2 : k < (cmdsAt 0 l).length := by rw [cmdsAt_len, ← keys_len h]; exact hk
  have h1 : (xs.map keyQ)[k]? = ((cmdsAt 0 l).map keyR)[k]? := by rw [h]
  rw [List.getElem?_map, List.getElem?_map, List.getElem?_eq_getElem hk, List.getElem?_eq_getElem hk2] at h1
  injection h1 with h1
  have h2 : xs[k].pos = (((cmdsAt 0 l)[k]).pos : Nat) := congrArg (fun x => x.2.2.2) h1
  rw [h2, cmdsAt_pos l 0 k hk2, Nat.zero_add]
set_option maxRecDepth 100000 in
set_option maxHeartbeats 2000000 in
theorem printerLines_walk (A : Option Addr) (n c : Nat) (l : List Cm) (w : World) (h : IsCms w A n c l) (hv : VarP w) :
    Calls Tryd.prog 8 #[.slice A n c] w fun e w' => e = .returned (.bool true) ∧ Below w.heap.size w w' := by
  have HH := Lib.hid (head_val w hv)
  have HV := Lib.hid hv
  have HI := Lib.hid h
  have HF := Lib.hid (fun W (q : Below w.heap.size w W) => few_val A n c l W (h.up q))
  obtain ⟨f, hf⟩ : ∃ v, fewB l = v := ⟨_, rfl⟩
  rw [hf] at HF
  have hn := h.1
  clear h hv
  cases f with
  | false =>
    clear hf hn
    go_enter Tryd.func8, Tryd.ntmps8
    go_wp2_with fail
    refine HH.out.mono ?_
    rintro e1 w1 ⟨rfl, hb1⟩
    have HB1 := Lib.hid hb1
    clear hb1
    go_wp2_with fail
    refine (HF.out _ HB1.out).mono ?_
    rintro e2 w2 ⟨rfl, rfl⟩
    go_wp2_with fail
    go_ret
    exact ⟨rfl, HB1.out⟩
  | true =>
    have hl310 := few_len hf
    have hn310 : n ≤ 310 := by omega
    have HP := Lib.hid (fun W (q : Below w.heap.size w W) => print_val A n c l W (HI.out.up q) (HV.out.up q))
    rw [print_law] at HP
    rcases rprint_cases l with ⟨x1, x2⟩ | ⟨x1, _, x2⟩ | ⟨x1, x8, x2000, x2⟩
    · rw [x2] at HP
      dsimp only at HP
      clear x1 x2
      go_enter Tryd.func8, Tryd.ntmps8
      go_wp2_with fail
      refine HH.out.mono ?_
      rintro e1 w1 ⟨rfl, hb1⟩
      have HB1 := Lib.hid hb1
      clear hb1
      go_wp2_with fail
      refine (HF.out _ HB1.out).mono ?_
      rintro e2 w2 ⟨rfl, rfl⟩
      go_wp2_with fail
      refine (HP.out _ HB1.out).mono ?_
      rintro e3 w3 ⟨rfl, hb3⟩
      have HB3 := Lib.hid (below_trans' HB1.out hb3)
      clear hb3
      go_wp2_with fail
      go_ret
      exact ⟨rfl, HB3.out⟩
    · rw [x2] at HP
      dsimp only at HP
      clear x1 x2
      go_enter Tryd.func8, Tryd.ntmps8
      go_wp2_with fail
      refine HH.out.mono ?_
      rintro e1 w1 ⟨rfl, hb1⟩
      have HB1 := Lib.hid hb1
      clear hb1
      go_wp2_with fail
      refine (HF.out _ HB1.out).mono ?_
      rintro e2 w2 ⟨rfl, rfl⟩
      go_wp2_with fail
      refine (HP.out _ HB1.out).mono ?_
      rintro e3 w3 ⟨rfl, hb3⟩
      have HB3 := Lib.hid (below_trans' HB1.out hb3)
      clear hb3
      go_wp2_with fail
      go_ret
      exact ⟨rfl, HB3.out⟩
    · rw [x2] at HP
      dsimp only at HP
      obtain ⟨T, hT⟩ : ∃ T : ByteArray, (⟨(outL l).toArray⟩ : ByteArray) = T := ⟨_, rfl⟩
      have hTl : T.data.toList = outL l := by rw [← hT]
      have hTs : T.size ≤ maxLen := by
        have : T.size = (outL l).length := by rw [← hT]; rfl
        unfold maxLen; omega
      have HPA := Lib.hid (fun W (q : Below w.heap.size w W) => parse_val T hTs W (HV.out.up q).err)
      have HPL := Lib.hid (parse_out x1 x8 x2000)
      have HX1 := Lib.hid x1
      rw [hT] at HP
      have HX8 := Lib.hid x8
      clear x1 x2 x8 x2000 hT hTs
      go_enter Tryd.func8, Tryd.ntmps8
      go_wp2_with fail
      refine HH.out.mono ?_
      rintro e1 w1 ⟨rfl, hb1⟩
      have HB1 := Lib.hid hb1
      clear hb1
      go_wp2_with fail
      refine (HF.out _ HB1.out).mono ?_
      rintro e2 w2 ⟨rfl, rfl⟩
      go_wp2_with fail
      refine (HP.out _ HB1.out).mono ?_
      rintro e3 w3 ⟨rfl, hb3⟩
      have HB3 := Lib.hid (below_trans' HB1.out hb3)
      clear hb3
      go_wp2_with fail
      refine (HPA.out _ HB3.out).mono ?_
      rintro e4 w4 ⟨B, m, d, xs, D, k, f, ds, rfl, hx, hd, hb4, hk, hds⟩
      rw [hTl, HPL.out] at hk hds
      dsimp only at hk hds
      subst hds
      have hk0 : k = 0 := hd.1.symm
      subst hk0
      have hmn : m = n := by rw [← hx.1, keys_len hk, hn]
      subst hmn
      have HB4 := Lib.hid (below_trans' HB3.out hb4)
      have HX := Lib.hid hx
      have HK := Lib.hid hk
      have HTL := Lib.hid hTl
      have HN := Lib.hid hn
      have hfn : ((m : Int) != (m : Int)) = false := by rw [bne_self_eq_false]
      have HCM := Lib.hid (valid_all HX1.out).2
      have HSL := Lib.hid (cms_sl A m c)
      have hmc := HI.out.2.2.1
      clear hx hd hb4 hk hTl hn
      go_wp2_with fail
      go_loopw [44, 8] (fun i z wr => ∃ k : Nat, k ≤ m ∧ i = i64 (k : Nat) ∧ z = i64 ((outL (l.take k)).length : Nat) ∧ Below w4.heap.size w4 wr) (fun i _ _ => m - (intOf i).toNat)
      case atStart => exact ⟨0, Nat.zero_le _, rfl, rfl, Below.refl _ _⟩
      case round =>
        obtain ⟨k, hkm, rfl, rfl, hbr⟩ := hrel
        have HBR := Lib.hid hbr
        clear hbr
        by_cases hlt : k < m
        · have hlt' : (k : Int) < (m : Int) := by omega
          have hkl : k < l.length := by rw [HN.out]; exact hlt
          have hkx : k < xs.length := by rw [HX.out.1]; exact hlt
          obtain ⟨x, hx⟩ : ∃ x, l[k] = x := ⟨_, rfl⟩
          have hcx := HCM.out x (by rw [← hx]; exact List.getElem_mem _)
          have hone : (l.take (k + 1)).drop k = [x] := by
            rw [List.take_succ_eq_append_getElem hkl, List.drop_append, List.drop_of_length_le (by rw [List.length_take]; omega), List.nil_append, List.length_take, Nat.min_eq_left (by omega), Nat.sub_self, hx]; rfl
          have HP3 := Lib.hid (fun W (q : Below w.heap.size w W) => print_val _ _ _ _ W (cms_drop (cms_take (HI.out.up q) (show k + 1 ≤ m by omega)) (show k ≤ k + 1 by omega)) (HV.out.up q))
          rw [hone, print_law, show k + 1 - k = 1 by omega, (one_law hcx).1] at HP3
          dsimp only at HP3
          have s2 := cms_sl A m c k (k + 1) (by omega) (by omega)
          rw [show ((k + 1 : Nat) : Int) = (k : Int) + 1 by omega, show k + 1 - k = 1 by omega] at s2
          have hspl := outL_split hkl
          have htk := outL_take hkl
          rw [hx] at hspl htk
          have hpos := keys_pos HK.out hkx
          obtain ⟨P, hP⟩ : ∃ P, (outL (l.take k)).length = P := ⟨_, rfl⟩
          obtain ⟨S, hS⟩ : ∃ S : ByteArray, (⟨(outL [x]).toArray⟩ : ByteArray) = S := ⟨_, rfl⟩
          have hSl : S.data.toList = outL [x] := by rw [← hS]
          have hSs : S.size = (outL [x]).length := by rw [← hS]; rfl
          have hSs2 : S.size = (lnC x).length + 1 := by rw [hSs, outL_one, List.length_append, List.length_singleton]
          have hTs : T.size = (outL l).length := by rw [← HTL.out]; exact Array.length_toList.symm
          have hPS : P + S.size ≤ T.size := by rw [hTs, hspl, List.length_append, List.length_append, hP, hSs]; omega
          have hext : T.extract P (P + S.size) = S := by
            rw [extract_eq, HTL.out, hspl, ← hP, List.drop_left, hSs, List.take_left, hS]
          have hsub := slice_str T P S.size hPS
          rw [hext] at hsub
          have hem : S.toList.isEmpty = false := by
            rw [Lib.toList_data, hSl, outL_one]
            cases lnC x <;> rfl
          have hgt : ¬ (T.size : Int) < (P : Int) + (S.size : Int) := by omega
          have HQ : Hid (∀ q (hq : q < T.size), P ≤ q → q < P + S.size → ((T[q].toNat : Int) == 10) = ((q : Int) == (P : Int) + (S.size : Int) - 1)) := Lib.hid (fun q hq h1 h2 => by
            have e1 : T[q] = (outL l)[q]'(by rw [← hTs]; exact hq) := by
              have : T.data.toList[q]'(by rw [HTL.out, ← hTs]; exact hq) = (outL l)[q]'(by rw [← hTs]; exact hq) := by simp only [HTL.out]
              rw [← this]; rfl
            have e2 : (outL l)[q]? = (lnC x ++ [10])[q - P]? := by
              rw [hspl, List.getElem?_append_right (by omega), hP, outL_one, List.getElem?_append_left (by rw [List.length_append, List.length_singleton]; omega)]
            rw [List.getElem?_eq_getElem (by rw [← hTs]; exact hq), ← e1] at e2
            by_cases hq1 : q = P + S.size - 1
            · have e3 : q - P = (lnC x).length := by omega
              rw [e3, List.getElem?_append_right (Nat.le_refl _), Nat.sub_self] at e2
              have e4 : T[q] = 10 := by injection e2
              rw [e4, show ((q : Int) == (P : Int) + (S.size : Int) - 1) = true from beq_iff_eq.2 (by omega)]
              rfl
            · rw [List.getElem?_append_left (by omega), List.getElem?_eq_getElem (by omega)] at e2
              injection e2 with e2
              have e5 := line10 hcx T[q] (by rw [e2]; exact List.getElem_mem _)
              rw [show ((q : Int) == (P : Int) + (S.size : Int) - 1) = false from beq_eq_false_iff_ne.2 (by omega), beq_eq_false_iff_ne]
              intro e6
              exact e5 (UInt8.toNat_inj.1 (by show T[q].toNat = 10; omega)))
          have hTb : T.size ≤ 9000 := by rw [hTs]; have := HX8.out; omega
          have HT : Hid ((outL (l.take (k + 1))).length = P + S.size) := Lib.hid (by rw [htk, List.length_append, hP, hSs])
          rw [hS] at HP3
          rw [hP] at hpos ⊢
          have HS2 := Lib.hid hSs2
          clear hone hspl htk hSl hSs hTs hext hcx hx hS hSs2
          go_wp2_with fail
          refine (HP3.out _ (below_trans' HB4.out HBR.out)).mono ?_
          rintro e5 w5 ⟨rfl, hb5⟩
          have HB5 := Lib.hid (below_trans' HBR.out hb5)
          have hXR := HX.out.up HB5.out
          obtain ⟨b, off, hBo, hb, hc⟩ := rd_el (dec := decC) (s := 4) (fun _ => rfl) hXR.2.1 HX.out.1 hkx
          subst hBo
          have c3 : w5.cell? ⟨b, off + k * 4 + 3, none⟩ = some (.int .i64 xs[k].pos) := hc 3 _ rfl
          rw [hpos] at c3
          clear hb5 hXR hb hc hpos
          go_wp2_with fail
          clear c3 s2 hsub hem hgt
          go_loopw [13] (fun i wr => ∃ q : Nat, P ≤ q ∧ q ≤ P + S.size ∧ i = i64 (q : Nat) ∧ w5 = wr) (fun i _ => P + S.size - (intOf i).toNat)
          case atStart => exact ⟨P, Nat.le_refl _, by omega, rfl, rfl⟩
          case round =>
            obtain ⟨q, hq1, hq2, rfl, rfl⟩ := hrel
            by_cases hql : q < P + S.size
            · have hql' : (q : Int) < (P : Int) + (S.size : Int) := by omega
              have hqT : q < T.size := by omega
              have hqT' : (q : Int) < (T.size : Int) := by omega
              have hcc := HQ.out q hqT hq1 hql
              obtain ⟨v, hvv⟩ : ∃ v, ((q : Int) == (P : Int) + (S.size : Int) - 1) = v := ⟨_, rfl⟩
              rw [hvv] at hcc
              go_wp2_with fail
              refine ⟨⟨q + 1, by omega, by omega, rfl, trivial⟩, ?_⟩
              simp only [intOf]; omega
            · have hql' : ¬ (q : Int) < (P : Int) + (S.size : Int) := by omega
              have hqe : q = P + S.size := by omega
              go_wp2_with fail
              refine ⟨⟨k + 1, by omega, rfl, ?_, HB5.out⟩, ?_⟩
              · rw [HT.out]; rfl
              · simp only [intOf]; omega
        · have hkm2 : k = m := by omega
          have hlt' : ¬ (k : Int) < (m : Int) := by omega
          have hfin : (outL (l.take k)).length = T.size := by
            rw [List.take_of_length_le (by rw [HN.out]; omega)]
            rw [show T.size = T.data.toList.length from Array.length_toList.symm, HTL.out]
          rw [hfin]
          clear hfin hkm2
          go_wp2_with fail
          go_ret
          exact ⟨rfl, below_trans' HB4.out HBR.out⟩
end Go.Proofs.YtmdogklgbifacaaDoor.Pr
