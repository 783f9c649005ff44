/- The reference's expanded. -/
import Derived.Test.YtmdogklgbifacaaDoorPrParts
namespace Go.Proofs.YtmdogklgbifacaaDoor.Pr
open Go.RowKit Go.Proofs.YtmdogklgbifacaaDoor.Lx
set_option linter.unusedVariables false

def expF : List (List UInt8) → List (List UInt8)
  | [] => []
  | x :: r => if x = [100] then x :: [35] :: expF r else x :: expF r
/-- The parts of a kind's form, a drift's two, the semicolon. -/
def expL (k : Int) : List (List UInt8) := expF (partsL [] (formB k).data.toList) ++ [[59]]
theorem form_none {k : Int} (h1 : ¬ (k = 1 ∨ k = 2 ∨ k = 3 ∨ k = 4 ∨ k = 5 ∨ k = 6 ∨ k = 7 ∨ k = 8 ∨ k = 9 ∨ k = 10 ∨ k = 11)) : formB k = ⟨#[]⟩ := by
  unfold formB
  rw [if_neg (by omega), if_neg (by omega), if_neg (by omega), if_neg (by omega), if_neg (by omega), if_neg (by omega), if_neg (by omega), if_neg (by omega), if_neg (by omega), if_neg (by omega), if_neg (by omega)]
theorem form_size (k : Int) : (formB k).size ≤ 100 := by
  by_cases h1 : k = 1 ∨ k = 2 ∨ k = 3 ∨ k = 4 ∨ k = 5 ∨ k = 6 ∨ k = 7 ∨ k = 8 ∨ k = 9 ∨ k = 10 ∨ k = 11
  · rcases h1 with rfl | rfl | rfl | rfl | rfl | rfl | rfl | rfl | rfl | rfl | rfl <;> decide
  · rw [form_none h1]; decide
theorem expF_append : ∀ (a b : List (List UInt8)), expF (a ++ b) = expF a ++ expF b
  | [], b => rfl
  | x :: a, b => by
    rw [List.cons_append]
    simp only [expF]
    split
    · rw [expF_append a b]; rfl
    · rw [expF_append a b]; rfl
theorem partsL_len : ∀ (l acc : List UInt8), (partsL acc l).length ≤ l.length + 1
  | [], acc => Nat.le_refl _
  | c :: r, acc => by
    simp only [partsL]
    split
    · have := partsL_len r []; simp only [List.length_cons]; omega
    · have := partsL_len r (acc ++ [c]); simp only [List.length_cons]; omega

set_option maxRecDepth 100000 in
set_option maxHeartbeats 2000000 in
theorem expanded_val (kd : Int) (w : World) :
    Calls Tryd.prog 72 #[.int .i64 kd] w fun e w' => ∃ A n c, e = .returned (.slice A n c) ∧ Strs w.heap.size w' A n c (expL kd) ∧ Below w.heap.size w w' := by
  obtain ⟨i0, hi, hz0, hz1, hz2⟩ := info_parts info_str
  have HF := Lib.hid (form_val kd)
  have HP := Lib.hid (parts_val (formB kd) (Nat.le_trans (form_size kd) (by decide)))
  obtain ⟨ps, hps⟩ : ∃ ps, partsL [] (formB kd).data.toList = ps := ⟨_, rfl⟩
  have hpl : ps.length ≤ 101 := by
    have h1 := partsL_len (formB kd).data.toList []
    have h2 := form_size kd
    have h3 : (formB kd).data.toList.length = (formB kd).size := Array.length_toList
    rw [← hps]; omega
  have HE : Hid (expL kd = expF ps ++ [[59]]) := Lib.hid (by unfold expL; rw [hps])
  rw [hps] at HP
  clear hps
  go_enter Tryd.func72, Tryd.ntmps72
  go_wp2_with fail
  refine (HF.out _).mono ?_
  rintro e w1 ⟨rfl, rfl⟩
  go_wp2_with fail
  refine (HP.out _).mono ?_
  rintro e w1 ⟨PA, m, pc, rfl, hP, hb1⟩
  have HP1 := Lib.hid hP
  have HB1 := Lib.hid hb1
  clear hP hb1
  go_wp2_with fail
  have HRP := Lib.hid (Rd.of_own HP1.out.1)
  have HPL := Lib.hid HP1.out.2
  have HMP : Hid (m ≤ 101) := Lib.hid (by rw [← HPL.out]; exact hpl)
  have hm101 := HMP.out
  go_loopw [3, 5] (fun o i wr => ∃ (k n c : Nat) (A : Option Addr) (out : List (List UInt8)), k ≤ m ∧ n ≤ 2 * k ∧ o = .slice A n c ∧ i = i64 (k : Nat) ∧ Hid (Strs w1.heap.size wr A n c out) ∧
    Hid (expF ps = out ++ expF (ps.drop k)) ∧ Below w1.heap.size w1 wr) (fun _ i _ => m - (intOf i).toNat)
  case atStart => exact ⟨0, 0, 0, none, [], Nat.zero_le _, Nat.le_refl _, rfl, rfl, Lib.hid ⟨World.ownsRow_nil _ _ _ _, rfl⟩, Lib.hid rfl, Below.refl _ _⟩
  case round =>
    obtain ⟨k, n, c, A, out, hk, hn, rfl, rfl, HS, HG, hB⟩ := hrel
    have HB := Lib.hid hB
    clear hB
    by_cases hlt : k < m
    · have hlt' : (k : Int) < (m : Int) := by omega
      have hkl : k < ps.length := by rw [HPL.out]; exact hlt
      obtain ⟨b, off, u, rfl, hb, hu, hc⟩ := HRP.out.at_ hlt
      rw [List.getElem?_map, List.getElem?_eq_getElem hkl] at hu
      obtain ⟨x, hx⟩ : ∃ x, ps[k] = x := ⟨_, rfl⟩
      have hg := HG.out
      rw [List.drop_eq_getElem_cons hkl, hx] at hg
      rw [hx] at hu
      simp only [Option.map_some, Option.some.injEq] at hu
      subst hu
      have hR := rd_fresh wr 9 #[strV x] 1 1 [strV x] rfl rfl
      have HR := Lib.hid hR
      have HO := Lib.hid (HS.out.1.kept (World.grownBy_alloc wr (.cells #[strV x] 9) none) (Classical.em _))
      have HBa : Hid (Below w1.heap.size w1 (wr.alloc (.cells #[strV x] 9))) := Lib.hid (HB.out.alloc HB.out.size _)
      have HON := Lib.hid HS.out.2
      simp only [expF] at hg
      obtain ⟨K, hK⟩ : ∃ K : ByteArray, ⟨x.toArray⟩ = K := ⟨_, rfl⟩
      have hKx : K.toList = x := by rw [← hK, Lib.toList_data]
      have hc1 : w1.cell? ⟨b, off + k, none⟩ = some (.string K) := by rw [← hK]; exact hc
      have hc0 : wr.cell? ⟨b, off + k, none⟩ = some (.string K) := (HB.out.cell hb).trans hc1
      have HC1 := Lib.hid hc1
      have HV : Hid (Value.string K = strV x) := Lib.hid (by rw [← hK]; rfl)
      have hbl : b < w1.heap.size := hb
      have HV1 : Hid (∀ u ∈ [Value.string K], u.oneCell' = true) := Lib.hid (by rw [HV.out]; exact one_str [x])
      have HBL := Lib.hid hbl
      clear hR hK hkl hx hb hc hc1
      by_cases hd : x = [100]
      · rw [if_pos hd] at hg
        have ht : (K.toList == [100]) = true := by rw [hKx, hd]; rfl
        have HG2 := Lib.hid hg
        clear hg hd hKx hbl
        rw [← HV.out] at HR HO HBa
        go_wp2_with first | (at_builtin; refine wpList_append_rd _ rfl (.tmp 15) (.tmp 20) _ rfl w1.heap.size 9 i0 _ 1 16 Tryd.underlying39 hi hz0 hz1 hz2 rfl (by decide) _ n _ rfl HO.out _ (some ⟨wr.heap.size, 0, none⟩) 1 1 _ rfl HR.out HV1.out (by simp only [maxLen]; omega) (by omega) HBa.out.size ?_; intro Aaw5 caw5 w5 hown hfm hg; have HS5 : Hid (Strs w1.heap.size w5 Aaw5 (n + 1) caw5 (out ++ [x])) := Lib.hid ⟨by rw [List.map_append]; rw [HV.out] at hown; exact hown, by rw [List.length_append, HON.out]; rfl⟩; have HB5 := Lib.hid (own_below HO.out hg HBa.out (Nat.le_refl _) HBa.out.size); have hcw5 : w5.cell? ⟨b, off + k, none⟩ = some (.string K) := (HB5.out.cell HBL.out).trans HC1.out; clear hown hfm hg) | (have HR2 := Lib.hid (rd_fresh w5 9 #[strV [35]] 1 1 [strV [35]] rfl rfl); have HO2 := Lib.hid (HS5.out.1.kept (World.grownBy_alloc w5 (.cells #[strV [35]] 9) none) (Classical.em _)); have HBa2 : Hid (Below w1.heap.size w1 (w5.alloc (.cells #[strV [35]] 9))) := Lib.hid (HB5.out.alloc HB5.out.size _); have HON2 := Lib.hid HS5.out.2; at_builtin; refine wpList_append_rd _ rfl (.tmp 27) (.tmp 28) _ rfl w1.heap.size 9 i0 _ 1 16 Tryd.underlying39 hi hz0 hz1 hz2 rfl (by decide) _ (n + 1) _ rfl HO2.out _ (some ⟨w5.heap.size, 0, none⟩) 1 1 _ rfl HR2.out (one_str [[35]]) (by simp only [maxLen]; omega) (by omega) HBa2.out.size ?_; intro Aaw6 caw6 w6 hown hfm hg; have HS6 : Hid (Strs w1.heap.size w6 Aaw6 ((n + 1) + 1) caw6 ((out ++ [x]) ++ [[35]])) := Lib.hid ⟨by rw [List.map_append]; exact hown, by rw [List.length_append, HON2.out]; rfl⟩; have HB6 := Lib.hid (own_below HO2.out hg HBa2.out (Nat.le_refl _) HBa2.out.size); clear hown hfm hg)
        case roundEnd =>
          refine ⟨⟨k + 1, n + 1 + 1, caw6, Aaw6, out ++ [x] ++ [[35]], by omega, by omega, rfl, rfl, HS6, Lib.hid ?_, HB6.out⟩, ?_⟩
          · rw [HG2.out]; simp
          · simp only [intOf]; omega
      · rw [if_neg hd] at hg
        have ht : (K.toList == [100]) = false := by rw [hKx, beq_eq_false_iff_ne]; exact hd
        have HG2 := Lib.hid hg
        clear hg hd hKx hbl
        rw [← HV.out] at HR HO HBa
        go_wp2_with (at_builtin; refine wpList_append_rd _ rfl (.tmp 15) (.tmp 20) _ rfl w1.heap.size 9 i0 _ 1 16 Tryd.underlying39 hi hz0 hz1 hz2 rfl (by decide) _ n _ rfl HO.out _ (some ⟨wr.heap.size, 0, none⟩) 1 1 _ rfl HR.out HV1.out (by simp only [maxLen]; omega) (by omega) HBa.out.size ?_; intro Aaw5 caw5 w5 hown hfm hg; have HS5 : Hid (Strs w1.heap.size w5 Aaw5 (n + 1) caw5 (out ++ [x])) := Lib.hid ⟨by rw [List.map_append]; rw [HV.out] at hown; exact hown, by rw [List.length_append, HON.out]; rfl⟩; have HB5 := Lib.hid (own_below HO.out hg HBa.out (Nat.le_refl _) HBa.out.size); have hcw5 : w5.cell? ⟨b, off + k, none⟩ = some (.string K) := (HB5.out.cell HBL.out).trans HC1.out; clear hown hfm hg)
        case roundEnd =>
          refine ⟨⟨k + 1, n + 1, caw5, Aaw5, out ++ [x], by omega, by omega, rfl, rfl, HS5, Lib.hid ?_, HB5.out⟩, ?_⟩
          · rw [HG2.out]; simp
          · simp only [intOf]; omega
    · have hlt' : ¬ (k : Int) < (m : Int) := by omega
      obtain rfl : k = m := by omega
      have hg := HG.out
      rw [List.drop_of_length_le (by rw [HPL.out]; exact Nat.le_refl _)] at hg
      have HG2 := Lib.hid hg
      clear hg
      go_wp2_with (have HR3 := Lib.hid (rd_fresh wr 9 #[strV [59]] 1 1 [strV [59]] rfl rfl); have HO3 := Lib.hid (HS.out.1.kept (World.grownBy_alloc wr (.cells #[strV [59]] 9) none) (Classical.em _)); have HBa3 : Hid (Below w1.heap.size w1 (wr.alloc (.cells #[strV [59]] 9))) := Lib.hid (HB.out.alloc HB.out.size _); have HON3 := Lib.hid HS.out.2; at_builtin; refine wpList_append_rd _ rfl (.tmp 30) (.tmp 31) _ rfl w1.heap.size 9 i0 _ 1 16 Tryd.underlying39 hi hz0 hz1 hz2 rfl (by decide) _ n _ rfl HO3.out _ (some ⟨wr.heap.size, 0, none⟩) 1 1 _ rfl HR3.out (one_str [[59]]) (by simp only [maxLen]; omega) (by omega) HBa3.out.size ?_; intro Aaw7 caw7 w7 hown hfm hg; have HS7 : Hid (Strs w1.heap.size w7 Aaw7 (n + 1) caw7 (out ++ [[59]])) := Lib.hid ⟨by rw [List.map_append]; exact hown, by rw [List.length_append, HON3.out]; rfl⟩; have HB7 := Lib.hid (own_below HO3.out hg HBa3.out (Nat.le_refl _) HBa3.out.size); clear hown hfm hg)
      go_ret
      refine ⟨Aaw7, n + 1, caw7, rfl, ?_, below_trans' HB1.out HB7.out⟩
      rw [HE.out, HG2.out]
      have hq := HS7.out
      simp only [expF, List.append_nil]
      exact ⟨own_base hq.1 HB1.out.size, hq.2⟩
end Go.Proofs.YtmdogklgbifacaaDoor.Pr
