/- The reference's Counts. -/
import Derived.Test.YtmdogklgbifacaaDoorPrExp
import Derived.Test.YtmdogklgbifacaaDoorPrCmd
namespace Go.Proofs.YtmdogklgbifacaaDoor.Pr
open Go.RowKit Go.Proofs.YtmdogklgbifacaaDoor.Lx
set_option linter.unusedVariables false

def cntN : List (List UInt8) → Nat
  | [] => 0
  | x :: r => (if x = [35] then 1 else 0) + cntN r
def anyN : List (List UInt8) → Bool
  | [] => false
  | x :: r => decide (x = [110]) || anyN r
/-- Has a form a name, how many numbers? -/
def cntB (k : Int) : Bool × Int := (anyN (expL k), (cntN (expL k) : Nat))
theorem cntN_le : ∀ l, cntN l ≤ l.length
  | [] => Nat.le_refl _
  | x :: r => by have := cntN_le r; simp only [cntN, List.length_cons]; split <;> omega
theorem expF_len : ∀ l, (expF l).length ≤ 2 * l.length
  | [] => Nat.le_refl _
  | x :: r => by have := expF_len r; simp only [expF]; split <;> simp only [List.length_cons] <;> omega
theorem expL_len (k : Int) : (expL k).length ≤ 203 := by
  have h1 := partsL_len (formB k).data.toList []
  have h2 := form_size k
  have h3 : (formB k).data.toList.length = (formB k).size := Array.length_toList
  have h4 := expF_len (partsL [] (formB k).data.toList)
  unfold expL
  rw [List.length_append]
  simp only [List.length_cons, List.length_nil]
  omega
theorem cnt_shape {k : Int} (h : k = 1 ∨ k = 2 ∨ k = 3 ∨ k = 4 ∨ k = 5 ∨ k = 6 ∨ k = 7 ∨ k = 8 ∨ k = 9 ∨ k = 10 ∨ k = 11) : cntB k = shapeOf k := by
  rcases h with rfl | rfl | rfl | rfl | rfl | rfl | rfl | rfl | rfl | rfl | rfl <;> decide

set_option maxRecDepth 100000 in
set_option maxHeartbeats 2000000 in
theorem counts_val (kd : Int) (w : World) :
    Calls Tryd.prog 47 #[.int .i64 kd] w fun e w' => e = .returned (.tuple #[.bool (cntB kd).1, .int .i64 (cntB kd).2]) ∧ Below w.heap.size w w' := by
  have HX := Lib.hid (expanded_val kd)
  obtain ⟨ps, hps⟩ : ∃ ps, expL kd = ps := ⟨_, rfl⟩
  have hpl : ps.length ≤ 203 := by rw [← hps]; exact expL_len kd
  have HE : Hid (cntB kd = (anyN ps, ((cntN ps : Nat) : Int))) := Lib.hid (by unfold cntB; rw [hps])
  rw [hps] at HX
  clear hps
  go_enter Tryd.func47, Tryd.ntmps47
  go_wp2_with fail
  refine (HX.out _).mono ?_
  rintro e w1 ⟨PA, m, pc, rfl, hP, hb1⟩
  have HRP := Lib.hid (Rd.of_own hP.1)
  have HPL := Lib.hid hP.2
  have HB1 := Lib.hid hb1
  clear hP hb1
  have HMP : Hid (m ≤ 203) := Lib.hid (by rw [← HPL.out]; exact hpl)
  have hm101 := HMP.out
  go_wp2_with fail
  go_loopw [5, 6, 7] (fun o c i wr => ∃ (k q : Nat) (v : Bool), k ≤ m ∧ q ≤ k ∧ o = .bool v ∧ c = i64 (q : Nat) ∧ i = i64 (k : Nat) ∧ Hid (anyN ps = (v || anyN (ps.drop k))) ∧ Hid (cntN ps = q + cntN (ps.drop k)) ∧ w1 = wr) (fun _ _ i _ => m - (intOf i).toNat)
  case atStart => exact ⟨0, 0, false, Nat.zero_le _, Nat.le_refl _, rfl, rfl, rfl, Lib.hid rfl, Lib.hid (by simp), rfl⟩
  case round =>
    obtain ⟨k, q, v, hk, hq, rfl, rfl, rfl, HG, HC, rfl⟩ := hrel
    by_cases hlt : k < m
    · have hlt' : (k : Int) < (m : Int) := by omega
      have hkl : k < ps.length := by rw [HPL.out]; exact hlt
      obtain ⟨b, off, u, rfl, hb, hu, hc⟩ := HRP.out.at_ hlt
      rw [List.getElem?_map, List.getElem?_eq_getElem hkl] at hu
      obtain ⟨x, hx⟩ : ∃ x, ps[k] = x := ⟨_, rfl⟩
      have hg := HG.out
      have hc2 := HC.out
      rw [List.drop_eq_getElem_cons hkl, hx] at hg hc2
      rw [hx] at hu
      simp only [Option.map_some, Option.some.injEq] at hu
      subst hu
      simp only [anyN, cntN] at hg hc2
      obtain ⟨K, hK⟩ : ∃ K : ByteArray, ⟨x.toArray⟩ = K := ⟨_, rfl⟩
      have hKx : K.toList = x := by rw [← hK, Lib.toList_data]
      have hc0 : w1.cell? ⟨b, off + k, none⟩ = some (.string K) := by rw [← hK]; exact hc
      clear hc hK hkl hx hb
      obtain ⟨t1, ht1⟩ : ∃ t, (K.toList == [110]) = t := ⟨_, rfl⟩
      obtain ⟨t2, ht2⟩ : ∃ t, (K.toList == [35]) = t := ⟨_, rfl⟩
      have hd1 : decide (x = [110]) = t1 := by rw [← ht1, hKx, Bool.eq_iff_iff]; simp
      rw [hd1] at hg
      have HG2 := Lib.hid hg
      have HC3 : Hid (cntN ps = (q + (if t2 = true then 1 else 0)) + cntN (ps.drop (k + 1))) := Lib.hid (by
        rw [hc2, ← ht2, hKx]
        by_cases hx35 : x = [35]
        · rw [if_pos hx35, if_pos (by rw [hx35]; rfl)]; omega
        · rw [if_neg hx35, if_neg (by rw [beq_iff_eq]; exact hx35)]; omega)
      clear hg hc2 hd1 hKx
      cases v <;> cases t1 <;> cases t2
      all_goals
        go_wp2_with fail
        case roundEnd =>
          first
            | exact ⟨⟨k + 1, q + 1, _, by omega, by omega, rfl, rfl, rfl, Lib.hid (HG2.out.trans (by simp)), Lib.hid (by rw [HC3.out, if_pos rfl]), trivial⟩, by simp only [intOf]; omega⟩
            | exact ⟨⟨k + 1, q, _, by omega, by omega, rfl, rfl, rfl, Lib.hid (HG2.out.trans (by simp)), Lib.hid (by rw [HC3.out, if_neg (by decide)]; rfl), trivial⟩, by simp only [intOf]; omega⟩
    · have hlt' : ¬ (k : Int) < (m : Int) := by omega
      obtain rfl : k = m := by omega
      have hg := HG.out
      have hc := HC.out
      rw [List.drop_of_length_le (by rw [HPL.out]; exact Nat.le_refl _)] at hg hc
      have HG2 := Lib.hid hg
      have HC2 := Lib.hid hc
      clear hg hc
      go_wp2_with fail
      go_ret2
      rw [HE.out, HG2.out, HC2.out]
      simp [anyN, cntN, HB1.out]
end Go.Proofs.YtmdogklgbifacaaDoor.Pr
