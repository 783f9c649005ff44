/- The walk of the statement on texts of valid commands. -/
import Derived.Test.YtjfcdfhcmkdicaaDoorPsTxt
import Derived.Test.YtjfcdfhcmkdicaaDoorPsRStrip
import Derived.Test.YtjfcdfhcmkdicaaDoorPsBare
namespace Go.Proofs.YtjfcdfhcmkdicaaDoor.Ps
open Go.RowKit Go.Proofs.YtjfcdfhcmkdicaaDoor.Lx Go.Proofs.YtjfcdfhcmkdicaaDoor.Pr
set_option linter.unusedVariables false

theorem few_300 {l : List Cm} (h : validB l = true) : l.length ≤ 300 := (valid_all h).1
set_option maxRecDepth 100000 in
set_option maxHeartbeats 4000000 in
theorem script_val (A : Option Addr) (n c : Nat) (l : List Cm) (w : World) (h : IsCms w A n c l) (hv : validB l = true) (htb : Lx.Tabs w) :
    Calls Tryd.prog 19 #[.slice A n c] w fun e w' => e = .returned (.string ⟨(outL l).toArray⟩) ∧ Below w.heap.size w w' := by
  have HI := Lib.hid h
  have HN := Lib.hid h.1
  have HA := Lib.hid (valid_all hv).2
  have HTB := Lib.hid htb
  have hn3 : n ≤ 300 := by rw [← h.1]; exact few_300 hv
  clear h hv htb
  go_enter Tryd.func19, Tryd.ntmps19
  go_wp2_with fail
  go_loopw [8, 3] (fun i o wr => ∃ (k : Nat) (S : ByteArray), k ≤ n ∧ i = i64 (k : Nat) ∧ o = .string S ∧ Hid (S.data.toList = outL (l.take k)) ∧ Hid (Below w.heap.size w wr)) (fun i _ _ => n - (intOf i).toNat)
  case atStart => exact ⟨0, ⟨#[]⟩, Nat.zero_le _, rfl, rfl, Lib.hid (by rw [List.take_zero]; rfl), Lib.hid (Below.refl _ _)⟩
  case round =>
    obtain ⟨k, S, hk, rfl, rfl, HS, HB⟩ := hrel
    have hSz : S.size ≤ 300 * 1042 := by
      have h1 : S.data.toList.length = S.size := Array.length_toList
      have h2 := outL_len (l.take k) (fun x hx => HA.out x (List.mem_of_mem_take hx))
      have h3 : (l.take k).length ≤ 300 := by rw [List.length_take, HN.out]; omega
      rw [← h1, HS.out]
      omega
    by_cases hlt : k < n
    · have hlt' : (k : Int) < (n : Int) := by omega
      have hkl : k < l.length := by rw [HN.out]; exact hlt
      obtain ⟨b, off, rfl, hb, hc⟩ := rd_el (dec := decC) (s := 4) (fun _ => rfl) (HI.out.up HB.out).2.1 HN.out hkl
      have hcm := HA.out l[k] (List.getElem_mem hkl)
      have hin := (HI.out.up HB.out).2.2.2.2 l[k] (List.getElem_mem hkl)
      have hsn : outL (l.take (k + 1)) = outL (l.take k) ++ (lnC l[k] ++ [10]) := by rw [List.take_succ_eq_append_getElem hkl, outL_snoc]
      have hln := lnC_len hcm
      obtain ⟨x, hx⟩ : ∃ x, l[k] = x := ⟨_, rfl⟩
      rw [hx] at hc hcm hin hsn hln
      obtain ⟨V, hV⟩ : ∃ V : ByteArray, (⟨(lnC x).toArray⟩ : ByteArray) = V := ⟨_, rfl⟩
      have hVl : V.data.toList = lnC x := by rw [← hV]
      have hVs : V.size ≤ 1041 := by have : V.data.toList.length = V.size := Array.length_toList; rw [hVl] at this; omega
      have hBa : Below wr.heap.size wr (wr.alloc (.cells #[.int .i64 x.kind, .string x.name, .slice x.A x.n x.c, .int .i64 x.pos] 29)) := (Below.refl _ _).alloc (Nat.le_refl _) _
      have HT := Lib.hid (text_cm x _ (hin.up hBa) (okC_of hcm) ((HTB.out.up HB.out).up hBa))
      rw [hV] at HT
      rw [← hVl] at hsn
      have HSN := Lib.hid hsn
      have HBA := Lib.hid (below_trans' HB.out hBa)
      obtain ⟨xk, xm, xA, xn, xc, xs, xp⟩ := x
      dsimp only at HT HBA
      have c0 := hc 0 _ rfl
      have c1 := hc 1 _ rfl
      have c2 := hc 2 _ rfl
      have c3 := hc 3 _ rfl
      rw [Nat.add_zero] at c0
      dsimp only at c0 c1 c2 c3
      have hz1 : ¬ 9223372036854775807 < V.size + 1 := by omega
      have hz2 : ¬ 9223372036854775807 < S.size + (V.size + 1) := by omega
      clear hb hc hcm hin hsn hx hV hVl hBa hkl hln
      go_wp2_with fail
      refine HT.out.mono ?_
      rintro e4 w4 ⟨rfl, hb4⟩
      have HB4 := Lib.hid (below_trans' HBA.out hb4)
      clear hb4
      go_wp2_with fail
      refine ⟨⟨k + 1, S ++ (V ++ ⟨#[10]⟩), by omega, rfl, rfl, Lib.hid (by rw [HSN.out, add_list, add_list, HS.out]), HB4⟩, ?_⟩
      simp only [intOf]; omega
    · have hlt' : ¬ (k : Int) < (n : Int) := by omega
      obtain rfl : k = n := by omega
      have hs := HS.out
      rw [List.take_of_length_le (by rw [HN.out]; exact Nat.le_refl _)] at hs
      have HE := Lib.hid (show S = ⟨(outL l).toArray⟩ from ByteArray.ext (Array.ext' hs))
      clear hs HS
      go_wp2_with fail
      go_ret
      exact ⟨by rw [← HE.out]; rfl, HB.out⟩
set_option maxRecDepth 100000 in
set_option maxHeartbeats 4000000 in
theorem parserTexts_walk (A : Option Addr) (n c : Nat) (l : List Cm) (w : World) (h : IsCms w A n c l) (hv : Lx.Vars w) (htb : Lx.Tabs w) :
    Calls Tryd.prog 4 #[.slice A n c] w fun e w' => e = .returned (.bool true) ∧ Below w.heap.size w w' := by
  have HH := Lib.hid (qhead_val w hv)
  have HV := Lib.hid hv
  have HTB := Lib.hid htb
  have HI := Lib.hid h
  have HF := Lib.hid (fun W (q : Below w.heap.size w W) => few_val A n c l W (h.up q))
  have HVL := Lib.hid (fun W (q : Below w.heap.size w W) => rvalid_val A n c l W (h.up q))
  obtain ⟨f, hf⟩ : ∃ v, fewB l = v := ⟨_, rfl⟩
  obtain ⟨v, hvv⟩ : ∃ v, validB l = v := ⟨_, rfl⟩
  rw [hf] at HF
  rw [hvv] at HVL
  clear h hv htb hf
  go_enter Tryd.func4, Tryd.ntmps4
  go_wp2_with fail
  refine HH.out.mono ?_
  rintro e1 w1 ⟨rfl, hb1⟩
  have HB1 := Lib.hid hb1
  clear hb1 HH
  cases f with
  | false =>
    go_wp2_with fail
    refine (HF.out _ HB1.out).mono ?_
    rintro e2 w2 ⟨rfl, rfl⟩
    go_wp2_with fail
    go_ret
    exact ⟨rfl, HB1.out⟩
  | true =>
    go_wp2_with fail
    refine (HF.out _ HB1.out).mono ?_
    rintro e2 w2 ⟨rfl, rfl⟩
    cases v with
    | false =>
      go_wp2_with fail
      refine (HVL.out _ HB1.out).mono ?_
      rintro e3 w3 ⟨rfl, hb3⟩
      have HB3 := Lib.hid (below_trans' HB1.out hb3)
      clear hb3
      go_wp2_with fail
      go_ret
      exact ⟨rfl, HB3.out⟩
    | true =>
      go_wp2_with fail
      refine (HVL.out _ HB1.out).mono ?_
      rintro e3 w3 ⟨rfl, hb3⟩
      have HB3 := Lib.hid (below_trans' HB1.out hb3)
      have HSC := Lib.hid (script_val A n c l w3 (HI.out.up HB3.out) hvv (HTB.out.up HB3.out))
      obtain ⟨hl3, hall⟩ := valid_all hvv
      have hol := outL_len l hall
      obtain ⟨T, hT⟩ : ∃ T : ByteArray, (⟨(outL l).toArray⟩ : ByteArray) = T := ⟨_, rfl⟩
      have hTl : T.data.toList = outL l := by rw [← hT]
      have hTs : T.size ≤ maxLen := by have : T.data.toList.length = T.size := Array.length_toList; rw [hTl] at this; unfold maxLen; omega
      have HP := Lib.hid (fun W (q : Below w.heap.size w W) => parse_val T hTs W (HV.out.up q))
      have HU := Lib.hid (fun W => usable_val T hTs W)
      rw [hT] at HSC
      rw [hTl] at HP HU
      have hn : n ≤ 300 := by rw [← HI.out.1]; exact hl3
      obtain ⟨lx1, lx2⟩ := lex_out hall
      have HL1 := Lib.hid lx1
      have HL2 := Lib.hid lx2
      have HVV := Lib.hid hvv
      clear hb3 hol hT hTl hTs hall hl3 lx1 lx2 hvv
      go_wp2_with fail
      refine HSC.out.mono ?_
      rintro e4 w4 ⟨rfl, hb4⟩
      have HB4 := Lib.hid (below_trans' HB3.out hb4)
      clear hb4
      by_cases hsz : (outL l).length ≤ 8000 ∧ tokL l ≤ 2000
      · have he : (LEX (outL l)).err = 0 := by rw [HL1.out hsz.1 hsz.2]
        have HPO := Lib.hid (parse_out HVV.out hsz.1 hsz.2)
        rw [decide_eq_true he] at HU
        go_wp2_with fail
        refine (HP.out _ HB4.out).mono ?_
        rintro e5 w5 ⟨B, m, d, xs, D, q, dc, ds, rfl, hx, hd, hb5, hk, hds⟩
        rw [HPO.out] at hk hds
        dsimp only at hk hds
        subst hds
        have hq : q = 0 := hd.1.symm
        subst hq
        have HB5 := Lib.hid (below_trans' HB4.out hb5)
        have HX := Lib.hid hx
        have hkc := keys_back HVV.out hk
        have hm : m = n := by
          have h1 := key_len hk
          rw [cmdsAt_len, hx.1, HI.out.1] at h1
          exact h1
        subst hm
        have HSM := Lib.hid (same_bare xs l)
        rw [decide_eq_true hkc] at HSM
        clear hx hd hb5 hk hkc he hsz
        go_wp2_with fail
        refine (HU.out _).mono ?_
        rintro e6 w6 ⟨rfl, hb6⟩
        have HB6 := Lib.hid (below_trans' HB5.out hb6)
        have HX6 := Lib.hid (HX.out.up hb6)
        have HS6 := Lib.hid (strip_val B m d xs w6 HX6.out (by omega))
        clear hb6
        go_wp2_with fail
        refine HS6.out.mono ?_
        rintro e7 w7 ⟨A7, c7, rfl, hi7, hb7⟩
        have HB7 := Lib.hid (below_trans' HB6.out hb7)
        have HI7 := Lib.hid hi7
        have HS7 := Lib.hid (rstrip_val A m c l w7 (HI.out.up HB7.out) (by omega))
        clear hi7 hb7
        go_wp2_with fail
        refine HS7.out.mono ?_
        rintro e8 w8 ⟨A8, c8, rfl, hi8, hb8⟩
        have HB8 := Lib.hid (below_trans' HB7.out hb8)
        have HM8 := Lib.hid (same_val _ _ _ _ _ _ _ _ w8 (HI7.out.up hb8) hi8)
        rw [HSM.out] at HM8
        clear hi8 hb8
        go_wp2_with fail
        refine HM8.out.mono ?_
        rintro e9 w9 ⟨rfl, hb9⟩
        have HB9 := Lib.hid (below_trans' HB8.out hb9)
        clear hb9
        go_wp2_with fail
        go_ret
        exact ⟨rfl, HB9.out⟩
      · have he : (LEX (outL l)).err = 2 := HL2.out (by omega)
        rw [decide_eq_false (by rw [he]; decide)] at HU
        go_wp2_with fail
        refine (HP.out _ HB4.out).mono ?_
        rintro e5 w5 ⟨B, m, d, xs, D, q, dc, ds, rfl, hx, hd, hb5, hk, hds⟩
        have HB5 := Lib.hid (below_trans' HB4.out hb5)
        clear hx hd hb5 hk hds he hsz
        go_wp2_with fail
        refine (HU.out _).mono ?_
        rintro e6 w6 ⟨rfl, hb6⟩
        have HB6 := Lib.hid (below_trans' HB5.out hb6)
        clear hb6
        go_wp2_with fail
        go_ret
        exact ⟨rfl, HB6.out⟩
end Go.Proofs.YtjfcdfhcmkdicaaDoor.Ps
