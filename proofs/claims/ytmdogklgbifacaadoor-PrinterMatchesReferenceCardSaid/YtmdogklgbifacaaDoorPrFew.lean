/- The reference's Few. -/
import Derived.Test.YtmdogklgbifacaaDoorPrValid
namespace Go.Proofs.YtmdogklgbifacaaDoor.Pr
open Go.RowKit Go.Proofs.YtmdogklgbifacaaDoor.Lx
set_option linter.unusedVariables false

def shortC (x : Cm) : Bool := decide (x.n ≤ 20) && decide (x.name.size ≤ 50)
/-- Few and short commands. -/
def fewB (l : List Cm) : Bool := decide (l.length ≤ 310) && l.all shortC
set_option maxRecDepth 100000 in
set_option maxHeartbeats 1000000 in
theorem few_val (A : Option Addr) (n c : Nat) (l : List Cm) (w : World) (h : IsCms w A n c l) :
    Calls Tryd.prog 11 #[.slice A n c] w fun e w' => e = .returned (.bool (fewB l)) ∧ w = w' := by
  have hnm : n ≤ 9223372036854775807 := Nat.le_trans h.2.2.1 (Nat.le_trans h.2.2.2.1 (by decide))
  have HI := Lib.hid h
  have HN := Lib.hid h.1
  clear h
  go_enter Tryd.func11, Tryd.ntmps11
  go_wp2_with fail
  go_loopw [3] (fun i wr => ∃ k : Nat, k ≤ n ∧ i = i64 (k : Nat) ∧ Hid (l.all shortC = (l.drop k).all shortC) ∧ w = wr) (fun i _ => n - (intOf i).toNat)
  case atStart => exact ⟨0, Nat.zero_le _, rfl, Lib.hid rfl, rfl⟩
  case round =>
    obtain ⟨k, hk, rfl, HG, rfl⟩ := hrel
    by_cases hlt : k < n
    · have hlt' : (k : Int) < (n : Int) := by omega
      have hkl : k < l.length := by rw [HN.out]; exact hlt
      obtain ⟨b, off, rfl, hb, hc⟩ := rd_el (dec := decC) (s := 4) (fun _ => rfl) HI.out.2.1 HN.out hkl
      have hg := HG.out
      rw [List.drop_eq_getElem_cons hkl, List.all_cons] at hg
      obtain ⟨⟨xk, xm, xA, xn, xc, xs, xp⟩, hx⟩ : ∃ x, l[k] = x := ⟨_, rfl⟩
      rw [hx] at hc hg
      have c1 := hc 1 _ rfl
      have c2 := hc 2 _ rfl
      dsimp only at c1 c2
      by_cases q1 : xn ≤ 20
      · have f1 : ¬ (20 : Int) < (xn : Int) := by omega
        by_cases q2 : xm.size ≤ 50
        · have f2 : ¬ (50 : Int) < (xm.size : Int) := by omega
          have HG2 : Hid (l.all shortC = (l.drop (k + 1)).all shortC) := Lib.hid (by rw [hg]; unfold shortC; rw [decide_eq_true q1, decide_eq_true q2]; rfl)
          clear hlt hb hc hx hg hkl q1 q2
          go_wp2_with fail
          case roundEnd =>
            refine ⟨⟨k + 1, by omega, rfl, HG2, trivial⟩, ?_⟩
            simp only [intOf]; omega
        · have f2 : (50 : Int) < (xm.size : Int) := by omega
          have HG2 : Hid (fewB l = false) := Lib.hid (by unfold fewB; rw [hg]; unfold shortC; rw [decide_eq_true q1, decide_eq_false q2]; simp)
          clear hlt hb hc hx hg hkl q1 q2
          go_wp2_with fail
          go_ret
          rw [HG2.out]
          exact ⟨rfl, rfl⟩
      · have f1 : (20 : Int) < (xn : Int) := by omega
        have HG2 : Hid (fewB l = false) := Lib.hid (by unfold fewB; rw [hg]; unfold shortC; rw [decide_eq_false q1]; simp)
        clear hlt hb hc hx hg hkl q1
        go_wp2_with fail
        go_ret
        rw [HG2.out]
        exact ⟨rfl, rfl⟩
    · have hlt' : ¬ (k : Int) < (n : Int) := by omega
      obtain rfl : k = n := by omega
      have hg := HG.out
      rw [List.drop_of_length_le (by rw [HN.out]; exact Nat.le_refl _)] at hg
      have HG2 : Hid (fewB l = decide ((k : Int) ≤ 310)) := Lib.hid (by unfold fewB; rw [hg, HN.out, Bool.eq_iff_iff]; simp; omega)
      clear hg
      go_wp2_with fail
      go_ret
      rw [HG2.out]
      exact ⟨rfl, rfl⟩
end Go.Proofs.YtmdogklgbifacaaDoor.Pr
