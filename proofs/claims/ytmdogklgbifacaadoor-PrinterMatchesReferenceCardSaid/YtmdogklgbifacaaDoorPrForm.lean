/- The reference's forms. -/
import Derived.Test.YtmdogklgbifacaaDoorPrWord
import Derived.Test.YtmdogklgbifacaaDoorPrArgs
namespace Go.Proofs.YtmdogklgbifacaaDoor.Pr
open Go.RowKit Go.Proofs.YtmdogklgbifacaaDoor.Lx
set_option linter.unusedVariables false

/-- The form of a kind. -/
def formB (k : Int) : ByteArray :=
  if k = 1 then ⟨#[109, 101, 115, 104, 32, 100, 97, 116, 97, 32, 35, 32, 114, 97, 110, 103, 101, 32, 35]⟩
  else if k = 2 then ⟨#[114, 111, 111, 116, 32, 110, 32, 97, 116, 32, 35, 32, 35]⟩
  else if k = 3 then ⟨#[110, 111, 100, 101, 32, 110, 32, 97, 116, 32, 35, 32, 35, 32, 100, 32, 98, 97, 116, 116, 101, 114, 121, 32, 35]⟩
  else if k = 4 then ⟨#[97, 116, 32, 35, 32, 109, 111, 118, 101, 32, 110, 32, 35, 32, 35]⟩
  else if k = 5 then ⟨#[97, 116, 32, 35, 32, 102, 97, 105, 108, 32, 110]⟩
  else if k = 6 then ⟨#[97, 116, 32, 35, 32, 115, 116, 97, 114, 116, 32, 110]⟩
  else if k = 7 then ⟨#[97, 116, 32, 35, 32, 114, 101, 97, 100, 32, 110, 32, 35]⟩
  else if k = 8 then ⟨#[97, 116, 32, 35, 32, 106, 97, 109, 32, 35, 32, 35, 32, 114, 97, 100, 105, 117, 115, 32, 35, 32, 99, 104, 97, 110, 110, 101, 108, 32, 35, 32, 102, 111, 114, 32, 35]⟩
  else if k = 9 then ⟨#[97, 116, 32, 35, 32, 114, 101, 112, 108, 97, 121, 32, 35, 32, 97, 116, 32, 35, 32, 35]⟩
  else if k = 10 then ⟨#[97, 116, 32, 35, 32, 112, 114, 111, 103, 114, 97, 109, 32, 35, 32, 115, 105, 122, 101, 32, 35]⟩
  else if k = 11 then ⟨#[114, 117, 110, 32, 35]⟩
  else ⟨#[]⟩
set_option maxRecDepth 100000 in
set_option maxHeartbeats 2000000 in
theorem form_val (k : Int) (w : World) :
    Calls Tryd.prog 46 #[.int .i64 k] w fun e w' => e = .returned (.string (formB k)) ∧ w = w' := by
  by_cases h1 : k = 1 ∨ k = 2 ∨ k = 3 ∨ k = 4 ∨ k = 5 ∨ k = 6 ∨ k = 7 ∨ k = 8 ∨ k = 9 ∨ k = 10 ∨ k = 11
  · rcases h1 with rfl | rfl | rfl | rfl | rfl | rfl | rfl | rfl | rfl | rfl | rfl <;>
    · go_enter Tryd.func46, Tryd.ntmps46
      go_wp2_with fail
      go_ret
      exact ⟨rfl, rfl⟩
  · have hs : formB k = ⟨#[]⟩ := by
      unfold formB
      rw [if_neg (by omega), if_neg (by omega), if_neg (by omega), if_neg (by omega), if_neg (by omega), if_neg (by omega), if_neg (by omega), if_neg (by omega), if_neg (by omega), if_neg (by omega), if_neg (by omega)]
    have HS := Lib.hid hs
    have f1 : (k == 1) = false := by rw [beq_eq_false_iff_ne]; omega
    have f2 : (k == 2) = false := by rw [beq_eq_false_iff_ne]; omega
    have f3 : (k == 3) = false := by rw [beq_eq_false_iff_ne]; omega
    have f4 : (k == 4) = false := by rw [beq_eq_false_iff_ne]; omega
    have f5 : (k == 5) = false := by rw [beq_eq_false_iff_ne]; omega
    have f6 : (k == 6) = false := by rw [beq_eq_false_iff_ne]; omega
    have f7 : (k == 7) = false := by rw [beq_eq_false_iff_ne]; omega
    have f8 : (k == 8) = false := by rw [beq_eq_false_iff_ne]; omega
    have f9 : (k == 9) = false := by rw [beq_eq_false_iff_ne]; omega
    have f10 : (k == 10) = false := by rw [beq_eq_false_iff_ne]; omega
    have f11 : (k == 11) = false := by rw [beq_eq_false_iff_ne]; omega
    clear h1 hs
    go_enter Tryd.func46, Tryd.ntmps46
    go_wp2_with fail
    go_ret
    rw [HS.out]
    exact ⟨rfl, rfl⟩
end Go.Proofs.YtmdogklgbifacaaDoor.Pr
