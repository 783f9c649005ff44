/- The small walks of packages seal and keyring. -/
import Derived.Test.YtineokopmdjapaaOaWalk
namespace Go.Proofs.Ytineokopmdjapaa.Oa
open Go.RowKit
set_option linter.unusedVariables false

theorem isSlot_val (n : Nat) (hn : n ≤ 1000000000) (w : World) :
    Calls Try.prog 15 #[i64 (n : Nat)] w fun e w' => e = .returned (.bool true) ∧ w = w' := by
  have h0 : (0 : Int) ≤ (n : Int) := by omega
  have h1 : (n : Int) ≤ 1000000000 := by omega
  go_enter Try.func15, Try.ntmps15
  go_wp2_with fail
  go_ret
  exact ⟨rfl, rfl⟩
theorem of_val (n : Nat) (hn : n ≤ 1000000000) (w : World) :
    Calls Try.prog 9 #[i64 (n : Nat)] w fun e w' => e = .returned (i64 ((n / 2000 : Nat) : Int)) ∧ w = w' := by
  have h0 : (0 : Int) ≤ (n : Int) := by omega
  have h1 : (n : Int) ≤ 1000000000 := by omega
  have hq : IntKind.i64.wrap ((n : Int).tdiv 2000) = ((n / 2000 : Nat) : Int) := by
    rw [Int.tdiv_eq_ediv_of_nonneg h0, Go.IntWalk.i64_in _ (by omega)]; omega
  go_enter Try.func9, Try.ntmps9
  go_wp2_with fail
  go_ret
  exact ⟨congrArg (fun x => Ending.returned (i64 x)) (by omega), rfl⟩
theorem number_val (n : Nat) (hn : n ≤ 1000000000) (w : World) :
    Calls Try.prog 21 #[i64 (n : Nat)] w fun e w' => e = .returned (i64 ((n + 1 : Nat) : Int)) ∧ w = w' := by
  have h0 : (0 : Int) ≤ (n : Int) := by omega
  have h1 : (n : Int) ≤ 1000000000 := by omega
  go_enter Try.func21, Try.ntmps21
  go_wp2_with fail
  go_ret
  exact ⟨congrArg (fun x => Ending.returned (i64 x)) (by omega), rfl⟩
theorem unless_val (v : Bool) (e0 : Int) (w : World) :
    Calls Try.prog 19 #[.bool v, i64 e0] w fun e w' => e = .returned (i64 (if v then 0 else e0)) ∧ w = w' := by
  cases v with
  | true =>
    go_enter Try.func19, Try.ntmps19
    go_wp2_with fail
    go_ret
    exact ⟨rfl, rfl⟩
  | false =>
    go_enter Try.func19, Try.ntmps19
    go_wp2_with fail
    go_ret
    exact ⟨rfl, rfl⟩
theorem checked_val (n : Nat) (hn : n ≤ 1000000000) (w : World) :
    Calls Try.prog 14 #[.iface 43 (i64 (n : Nat)), .bool true] w fun e w' => e = .returned (.tuple #[i64 ((n + 1 : Nat) : Int), i64 0]) ∧ w = w' := by
  go_enter Try.func14, Try.ntmps14
  go_wp2_with fail
  refine (number_val n hn _).mono ?_
  rintro e w1 ⟨rfl, rfl⟩
  go_wp2_with fail
  go_ret2
  exact ⟨rfl, rfl⟩
theorem key_val (n : Nat) (hn : n ≤ 1000000000) (w : World) :
    Calls Try.prog 8 #[i64 (n : Nat)] w fun e w' => e = .returned (.tuple #[i64 ((n / 2000 + 1 : Nat) : Int), i64 0]) ∧ w = w' := by
  go_enter Try.func8, Try.ntmps8
  go_wp2_with fail
  refine (of_val n hn _).mono ?_
  rintro e w1 ⟨rfl, rfl⟩
  go_wp2_with fail
  refine (isSlot_val n hn _).mono ?_
  rintro e w1 ⟨rfl, rfl⟩
  go_wp2_with fail
  refine (checked_val (n / 2000) (by omega) _).mono ?_
  rintro e w1 ⟨rfl, rfl⟩
  go_wp2_with fail
  go_ret2
  exact ⟨rfl, rfl⟩
end Go.Proofs.Ytineokopmdjapaa.Oa
