/- The law's pick; the five gaps. -/
import Derived.Test.YtgfolnmaakbkcaaDoorLxCut
namespace Go.Proofs.YtgfolnmaakbkcaaDoor.Lx
open Go.RowKit
set_option linter.unusedVariables false

def pickN (c : Int) (n : Nat) : Nat := (if c < 0 then -(c + 1) else c).toNat % n
theorem pickN_lt (c : Int) {n : Nat} (h : 0 < n) : pickN c n < n := Nat.mod_lt _ h
theorem pick_val (c : Int) (n : Nat) (hc : (Lit.int .i64 c).wf = true) (h : 0 < n) (hn : n ≤ maxLen) (w : World) :
    Calls Tryd.prog 15 #[i64 c, i64 (n : Nat)] w fun e w' => e = .returned (i64 ((pickN c n : Nat) : Int)) ∧ w = w' := by
  have hr : -9223372036854775808 ≤ c ∧ c ≤ 9223372036854775807 := by
    unfold Lit.wf at hc
    rw [Bool.and_eq_true, decide_eq_true_eq, decide_eq_true_eq] at hc
    exact ⟨Int.le_trans (by decide) hc.1, Int.le_trans hc.2 (by decide)⟩
  unfold maxLen at hn
  have hn0 : ¬ (n : Int) = 0 := by omega
  by_cases h0 : c < 0
  · have e : (-(c + 1)).tmod (n : Int) = ((pickN c n : Nat) : Int) := by
      unfold pickN
      rw [if_pos h0, Int.natCast_emod, Int.toNat_of_nonneg (by omega), Int.tmod_eq_emod_of_nonneg (by omega)]
    go_enter Tryd.func15, Tryd.ntmps15
    go_wp2_with fail
    go_ret
    exact ⟨rfl, rfl⟩
  · have e : c.tmod (n : Int) = ((pickN c n : Nat) : Int) := by
      unfold pickN
      rw [if_neg h0, Int.natCast_emod, Int.toNat_of_nonneg (by omega), Int.tmod_eq_emod_of_nonneg (by omega)]
    go_enter Tryd.func15, Tryd.ntmps15
    go_wp2_with fail
    go_ret
    exact ⟨rfl, rfl⟩

theorem lastC_get {g : List UInt8} {k : Nat} (h : (spans g 0).getLast?.map (·.cls) = some k) : lastC g = k := by
  cases hs : (spans g 0).getLast? with
  | none => rw [hs] at h; cases h
  | some x =>
    rw [hs] at h
    injection h with h
    rw [← h]
    obtain ⟨X, e⟩ := List.getLast?_eq_some_iff.1 hs
    exact lastC_of X x g 0 e
theorem good_of {c : UInt8} {r : List UInt8} (hh : inNam c = false) (hn : inNum c = false) (hl : (spansF (c :: r).length (c :: r) 0).getLast?.map (·.cls) = some 1)
    (hg : (spansF (c :: r).length (c :: r) 0).all (fun x => decide (x.cls = 1 ∨ x.cls = 2)) = true)
    (hr : (spansF (c :: r).length ((c :: r).drop (run inCom (c :: r))) 0).all (fun x => decide (x.cls = 1 ∨ x.cls = 2)) = true) : GoodG (c :: r) := by
  refine ⟨fun k d t h e => ?_, ?_, fun x hx => ?_, fun x hx => ?_⟩
  · injection e with e _
    subst e
    unfold ext
    rw [if_neg h]
    split
    · exact hh
    · split
      · exact hn
      · rfl
  · refine lastC_get ?_
    rw [spansF_eq _ _ _ (Nat.le_refl _)]
    exact hl
  · rw [spansF_eq _ _ _ (Nat.le_refl _)] at hx
    exact of_decide_eq_true (List.all_eq_true.1 hg x hx)
  · rw [spansF_eq (c :: r).length _ _ (by rw [List.length_drop]; omega)] at hx
    exact of_decide_eq_true (List.all_eq_true.1 hr x hx)
def gapOf (j : Nat) : ByteArray := if j = 0 then ⟨#[32]⟩ else if j = 1 then ⟨#[9]⟩ else if j = 2 then ⟨#[10]⟩ else if j = 3 then ⟨#[35, 32, 97, 59, 32, 98, 32, 55, 10]⟩ else ⟨#[10, 35, 10]⟩
theorem gapOf_good (j : Nat) : GoodG (gapOf j).data.toList ∧ 1 ≤ (gapOf j).size ∧ (gapOf j).size ≤ 9 := by
  unfold gapOf
  split
  · exact ⟨good_of (c := 32) (r := []) (by decide) (by decide) (by kernel_rfl) (by kernel_rfl) (by kernel_rfl), by decide, by decide⟩
  · split
    · exact ⟨good_of (c := 9) (r := []) (by decide) (by decide) (by kernel_rfl) (by kernel_rfl) (by kernel_rfl), by decide, by decide⟩
    · split
      · exact ⟨good_of (c := 10) (r := []) (by decide) (by decide) (by kernel_rfl) (by kernel_rfl) (by kernel_rfl), by decide, by decide⟩
      · split
        · exact ⟨good_of (c := 35) (r := [32, 97, 59, 32, 98, 32, 55, 10]) (by decide) (by decide) (by kernel_rfl) (by kernel_rfl) (by kernel_rfl), by decide, by decide⟩
        · exact ⟨good_of (c := 10) (r := [35, 10]) (by decide) (by decide) (by kernel_rfl) (by kernel_rfl) (by kernel_rfl), by decide, by decide⟩
end Go.Proofs.YtgfolnmaakbkcaaDoor.Lx
