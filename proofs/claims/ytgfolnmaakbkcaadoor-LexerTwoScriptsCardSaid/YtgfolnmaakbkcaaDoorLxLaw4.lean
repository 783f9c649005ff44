/- The law LexerTwoScripts. -/
import Derived.Test.YtgfolnmaakbkcaaDoorLxCut
namespace Go.Proofs.YtgfolnmaakbkcaaDoor.Lx
open Go.RowKit
set_option linter.unusedVariables false

set_option maxRecDepth 100000 in
set_option maxHeartbeats 1000000 in
theorem lexerTwoScripts_walk (s t : ByteArray) (w : World) (hs : s.size ≤ maxLen) (_hz : s.size ≤ 140737488351232) (ht : t.size ≤ maxLen) (_hzt : t.size ≤ 140737488351232) (hw : Vars w) :
    Calls Tryd.prog 6 #[.string s, .string t] w fun e w' => e = .returned (.bool true) ∧ Below w.heap.size w w' := by
  have hl : s.data.toList.length = s.size := Array.length_toList
  have hlt : t.data.toList.length = t.size := Array.length_toList
  have HH := Lib.hid (head_val w hw)
  have HW := Lib.hid hw
  by_cases hbig : 8000 < s.size
  · have hb : (8000 : Int) < (s.size : Int) := by omega
    clear hbig hl hlt hw
    go_enter Tryd.func6, Tryd.ntmps6
    go_wp2_with fail
    refine HH.out.mono ?_
    rintro e w1 ⟨rfl, hb1⟩
    go_wp2_with fail
    go_ret
    exact ⟨rfl, hb1⟩
  by_cases hbig2 : 8000 < t.size
  · have hb : ¬ (8000 : Int) < (s.size : Int) := by omega
    have hb' : (8000 : Int) < (t.size : Int) := by omega
    clear hbig hbig2 hl hlt hw
    go_enter Tryd.func6, Tryd.ntmps6
    go_wp2_with fail
    refine HH.out.mono ?_
    rintro e w1 ⟨rfl, hb1⟩
    go_wp2_with fail
    go_ret
    exact ⟨rfl, hb1⟩
  have hb : ¬ (8000 : Int) < (s.size : Int) := by omega
  have hb' : ¬ (8000 : Int) < (t.size : Int) := by omega
  have HL1 := Lib.hid (lex_val s hs)
  have HL2 := Lib.hid (lex_val t ht)
  obtain ⟨r, hr⟩ : ∃ r, LEX s.data.toList = r := ⟨_, rfl⟩
  obtain ⟨q, hq⟩ : ∃ q, LEX t.data.toList = q := ⟨_, rfl⟩
  have hposA := LEX_ok s.data.toList
  have hposB := LEX_ok t.data.toList
  have hlenA := LEX_len s.data.toList
  have hlenB := LEX_len t.data.toList
  have hgA := LEX_good (l := s.data.toList)
  have hgB := LEX_good (l := t.data.toList)
  rw [hr] at HL1 hposA hlenA hgA
  rw [hq] at HL2 hposB hlenB hgB
  have hT := fun ha hb hl => two_law (a := s.data.toList) (b := t.data.toList) (A := r.toks) (B := q.toks) ha hb hl
  rw [hr, hq] at hT
  obtain ⟨A, er, po⟩ := r
  obtain ⟨B, fr, qo⟩ := q
  dsimp only at hposA hposB hlenA hlenB hgA hgB hT
  by_cases h0 : ¬ (er = 0 ∧ fr = 0)
  · have hE : (((er : Int) != 0) || ((fr : Int) != 0)) = true := by
      rw [Bool.or_eq_true, bne_iff_ne, bne_iff_ne]; omega
    have hE1 : er ≠ 0 ∨ (er = 0 ∧ fr ≠ 0) := by omega
    clear hT hgA hgB hposA hposB hbig hbig2 hw hr hq h0
    go_enter Tryd.func6, Tryd.ntmps6
    go_wp2_with fail
    refine HH.out.mono ?_
    rintro e w1 ⟨rfl, hb1⟩
    have HB1 := Lib.hid hb1
    clear hb1
    go_wp2_with fail
    refine (HL1.out _ (HW.out.up HB1.out)).mono ?_
    rintro e w2 ⟨X, n, c, rfl, hT1, hb2⟩
    have HB2 := Lib.hid (below_trans' HB1.out hb2)
    clear hT1 hb2
    go_wp2_with fail
    refine (HL2.out _ (HW.out.up HB2.out)).mono ?_
    rintro e w3 ⟨Y, k, d, rfl, hT2, hb3⟩
    have HB3 := Lib.hid (below_trans' HB2.out hb3)
    clear hT2 hb3
    rcases hE1 with h1 | ⟨h1, h2⟩
    · have h1' : ((er : Int) != 0) = true := by rw [bne_iff_ne]; omega
      clear h1
      go_wp2_with fail
      go_ret
      exact ⟨rfl, HB3.out⟩
    · subst h1
      have h2' : ((fr : Int) != 0) = true := by rw [bne_iff_ne]; omega
      clear h2 hE
      go_wp2_with fail
      go_ret
      exact ⟨rfl, HB3.out⟩
  obtain ⟨h1, h2⟩ := Classical.not_not.1 h0
  subst h1
  subst h2
  obtain rfl : po = 0 := (hgA rfl).2.2
  obtain rfl : qo = 0 := (hgB rfl).2.2
  have hT := hT rfl rfl
  have hsz : (s ++ (⟨#[10]⟩ : ByteArray) ++ t).data.toList = s.data.toList ++ 10 :: t.data.toList := by
    rw [add_list, add_list, List.append_assoc]; rfl
  have hln : (s.data.toList ++ 10 :: t.data.toList).length = s.size + 1 + t.size := by
    rw [List.length_append, List.length_cons, hlt, hl]; omega
  have hlz : (s ++ (⟨#[10]⟩ : ByteArray) ++ t).size = s.size + 1 + t.size := by
    rw [show (s ++ (⟨#[10]⟩ : ByteArray) ++ t).size = (s ++ (⟨#[10]⟩ : ByteArray) ++ t).data.toList.length from Array.length_toList.symm, hsz, hln]
  have HL3 := Lib.hid (lex_val (s ++ (⟨#[10]⟩ : ByteArray) ++ t) (by rw [hlz]; unfold maxLen; omega))
  rw [hsz] at HL3
  have hq1 : ¬ 9223372036854775807 < s.size + 1 := by omega
  have hq2 : ¬ 9223372036854775807 < s.size + 1 + t.size := by omega
  have hlong : 8000 < s.size + 1 + t.size → LEX (s.data.toList ++ 10 :: t.data.toList) = ⟨[], 2, 0⟩ := fun h => by
    unfold LEX; rw [if_pos (by omega)]
  rw [hln] at hT
  obtain ⟨SA, hSA⟩ : ∃ SA : Nat, A.length = SA := ⟨_, rfl⟩
  obtain ⟨SB, hSB⟩ : ∃ SB : Nat, B.length = SB := ⟨_, rfl⟩
  have hposA' : ∀ t ∈ A, t.pos ≤ 20000 := fun t ht => by have := (hposA t ht).1; omega
  have hposB' : ∀ t ∈ B, t.pos ≤ 20000 := fun t ht => by have := (hposB t ht).1; omega
  have HPA := Lib.hid hposA'
  have HPB := Lib.hid hposB'
  have HTT := Lib.hid hT
  have HLG := Lib.hid hlong
  have HSA := Lib.hid hSA
  have HSB := Lib.hid hSB
  rw [hSA] at hlenA
  rw [hSB] at hlenB
  clear hposA hposB hposA' hposB' hT hlong hsz hln hlz hl hlt hgA hgB hw hr hq hSA hSB
  go_enter Tryd.func6, Tryd.ntmps6
  go_wp2_with fail
  refine HH.out.mono ?_
  rintro e w1 ⟨rfl, hb1⟩
  have HB1 := Lib.hid hb1
  clear hb1
  go_wp2_with fail
  refine (HL1.out _ (HW.out.up HB1.out)).mono ?_
  rintro e w2 ⟨X, n, c, rfl, hT1, hb2⟩
  have HB2 := Lib.hid (below_trans' HB1.out hb2)
  obtain rfl : n = SA := hT1.2.1.symm.trans HSA.out
  have HT1 := Lib.hid hT1
  clear hT1 hb2
  go_wp2_with fail
  refine (HL2.out _ (HW.out.up HB2.out)).mono ?_
  rintro e w3 ⟨Y, k, d, rfl, hT2, hb3⟩
  have HB3 := Lib.hid (below_trans' HB2.out hb3)
  obtain rfl : k = SB := hT2.2.1.symm.trans HSB.out
  have HT2 := Lib.hid hT2
  have HT1 := Lib.hid (HT1.out.up hb3)
  clear hT2 hb3
  go_wp2_with fail
  by_cases hbl : 8000 < s.size + 1 + t.size
  · rw [HLG.out hbl] at HL3
    have hbl' : (8000 : Int) < (s.size : Int) + (t.size : Int) + 1 := by omega
    clear hbl
    refine (HL3.out _ (HW.out.up HB3.out)).mono ?_
    rintro e w4 ⟨Z, u, v, rfl, hT3, hb4⟩
    have HB4 := Lib.hid (below_trans' HB3.out hb4)
    clear hT3 hb4
    go_wp2_with fail
    go_ret
    exact ⟨rfl, HB4.out⟩
  · have hbl' : ¬ (8000 : Int) < (s.size : Int) + (t.size : Int) + 1 := by omega
    obtain ⟨t1, t2⟩ := HTT.out (by omega)
    rw [HSA.out, HSB.out] at t1 t2
    by_cases hmany : 2000 < n + k
    · obtain ⟨p, hp, he⟩ := t2 hmany
      rw [he] at HL3
      have hp1 : (s.size : Int) < (p : Int) := by
        have hl : s.data.toList.length = s.size := Array.length_toList
        omega
      have hmany' : (2000 : Int) < (n : Int) + (k : Int) := by omega
      clear hbl hmany t1 t2 hp he
      refine (HL3.out _ (HW.out.up HB3.out)).mono ?_
      rintro e w4 ⟨Z, u, v, rfl, hT3, hb4⟩
      have HB4 := Lib.hid (below_trans' HB3.out hb4)
      clear hT3 hb4
      go_wp2_with fail
      go_ret
      exact ⟨rfl, HB4.out⟩
    · have he := t1 (by omega)
      have hl : s.data.toList.length = s.size := Array.length_toList
      rw [he] at HL3
      rw [hl] at HL3
      have hmany' : ¬ (2000 : Int) < (n : Int) + (k : Int) := by omega
      clear hbl hmany t1 t2 he hl
      refine (HL3.out _ (HW.out.up HB3.out)).mono ?_
      rintro e w4 ⟨Z, u, v, rfl, hT3, hb4⟩
      have HB4 := Lib.hid (below_trans' HB3.out hb4)
      have HT1 := Lib.hid (HT1.out.up hb4)
      have HT2 := Lib.hid (HT2.out.up hb4)
      obtain rfl : u = n + k := by
        have := hT3.2.1
        rw [List.length_append, mv_len, HSA.out, HSB.out] at this
        exact this.symm
      have HT3 := Lib.hid hT3
      clear hT3 hb4
      have hA : (A ++ mv (s.size + 1) B).take n = A := by rw [List.take_append_of_le_length (by rw [HSA.out]; exact Nat.le_refl _), List.take_of_length_le (by rw [HSA.out]; exact Nat.le_refl _)]
      have hB : (A ++ mv (s.size + 1) B).drop n = mv (s.size + 1) B := by rw [List.drop_append_of_le_length (by rw [HSA.out]; exact Nat.le_refl _), List.drop_of_length_le (by rw [HSA.out]; exact Nat.le_refl _), List.nil_append]
      have hc1 := toks_to Z (n + k) v n (by have := HT3.out.2.2.1; omega)
      have hc2 := toks_from Z (n + k) v n (by omega)
      have HSm1 := fun w5 (hb : Below w4.heap.size w4 w5) => same_val X n c A Z n v _ 0 (by decide) HPA.out w5 (HT1.out.up hb) ((HT3.out.take (k := n) (by omega)).up hb)
      rw [hA, sameB_refl] at HSm1
      have HSm2 := fun w5 (hb : Below w4.heap.size w4 w5) => same_val Y k d B (cutA Z v n) (n + k - n) (v - n) _ (s.size + 1) (by omega) HPB.out w5 (HT2.out.up hb) ((HT3.out.drop (k := n) (by omega)).up hb)
      rw [hB, sameB_mv] at HSm2
      rw [show ((s.size + 1 : Nat) : Int) = (s.size : Int) + 1 by omega, show n + k - n = k by omega] at HSm2
      have HSm1 := Lib.hid HSm1
      have HSm2 := Lib.hid HSm2
      clear hA hB
      have hEn : (((n + k : Nat) : Int) == (n : Int) + (k : Int)) = true := by rw [beq_iff_eq]; omega
      rw [show n + k - n = k by omega] at hc2
      go_wp2_with fail
      refine (HSm1.out _ (Below.refl _ _)).mono ?_
      rintro e w5 ⟨rfl, hb5⟩
      have HB5 := Lib.hid (below_trans' HB4.out hb5)
      have HX5 := Lib.hid hb5
      clear hb5
      go_wp2_with fail
      refine (HSm2.out _ HX5.out).mono ?_
      rintro e w6 ⟨rfl, hb6⟩
      have HB6 := Lib.hid (below_trans' HB5.out hb6)
      clear hb6
      go_wp2_with fail
      go_ret
      exact ⟨rfl, HB6.out⟩
end Go.Proofs.YtgfolnmaakbkcaaDoor.Lx
