/- The walks of package digest and of its reference: what each function computes. -/
import Derived.Test.YthaibmkieflafaaProg
import Derived.Test.YthaibmkieflafaaCom
import Derived.Test.YthaibmkieflafaaDigPlain
namespace Go.Proofs.Ythaibmkieflafaa.Dig
open Go.RowKit

theorem stp_eq (x y : UInt64) : IntKind.u64.wrap (bits .xor .u64 (x.toNat : Int) (y.toNat : Int) * 1099511628211) = ((stp x y).toNat : Int) := by
  rw [u64_xor]
  exact u64_mul (x ^^^ y) P

theorem step_any (x y : UInt64) (w : World) :
    Calls Try.prog 39 #[u64 x, u64 y] w fun e w' => e = .returned (u64 (stp x y)) ∧ w = w' := by
  go_enter Try.func39, Try.ntmps39
  go_wp2
  go_ret
  exact ⟨congrArg (fun z => Ending.returned (.int .u64 z)) (stp_eq x y), rfl⟩

theorem stp_byte (x : UInt64) (c : UInt8) : IntKind.u64.wrap (bits .xor .u64 (x.toNat : Int) (IntKind.u64.wrap (c.toNat : Int)) * 1099511628211) = ((stp x c.toUInt64).toNat : Int) := by
  rw [← stp_eq, u64_of_byte c, u64_wrap]

theorem step_lit (a b : Int) (x y : UInt64) (ha : a = (x.toNat : Int)) (hb : b = (y.toNat : Int)) (w : World) :
    Calls Try.prog 39 #[.int .u64 a, .int .u64 b] w fun e w' => e = .returned (u64 (stp x y)) ∧ w = w' := by
  subst ha hb
  exact step_any x y w

theorem nB : (3750763034362895578 : Int) = ((~~~B : UInt64).toNat : Int) := by decide

theorem pair_any (x y : UInt64) (w : World) :
    Calls Try.prog 22 #[u64 x, u64 y] w fun e w' => e = .returned (u64 (pair x y)) ∧ w = w' := by
  go_enter Try.func22, Try.ntmps22
  go_wp2_with fail
  refine (step_lit _ _ _ x nB rfl _).mono ?_
  rintro e w' ⟨rfl, rfl⟩
  go_wp2_with fail
  refine (step_any _ _ _).mono ?_
  rintro e w' ⟨rfl, rfl⟩
  go_wp2_with fail
  go_ret
  exact ⟨rfl, rfl⟩

theorem ref_pair_any (x y : UInt64) (w : World) :
    Calls Try.prog 23 #[u64 x, u64 y] w fun e w' => e = .returned (u64 (pair x y)) ∧ w = w' := by
  go_enter Try.func23, Try.ntmps23
  go_wp2
  go_ret
  refine ⟨congrArg (fun z => Ending.returned (.int .u64 z)) ?_, rfl⟩
  rw [nB, stp_eq, stp_eq]
  rfl

theorem ref_add_any (x : UInt64) (A : Option Addr) (n c B : Nat) (l : List UInt8) (w : World) (h : Rd w B 1 A n (l.map ub)) (hn : n ≤ maxLen) :
    Calls Try.prog 19 #[u64 x, .slice A n c] w fun e w' => e = .returned (u64 (dadd x l)) ∧ w = w' := by
  unfold maxLen at hn
  have hl : l.length = n := by simpa using h.1
  have HL := Lib.hid hl; clear hl
  go_enter Try.func19, Try.ntmps19
  go_wp2
  go_loop [0, 5] (fun s i => ∃ k : Nat, k ≤ n ∧ i = .int .i64 k ∧ s = u64 (dadd x (l.take k))) (fun _ i => n - (intOf i).toNat)
  case atStart => exact ⟨0, Nat.zero_le _, rfl, rfl⟩
  case round =>
    obtain ⟨k, hk, rfl, rfl⟩ := hrel
    by_cases hlt : k < n
    · obtain ⟨b, off, u, rfl, hb, hx, hc⟩ := h.at_ hlt
      have hkl : k < l.length := by have := HL.out; omega
      have hu : u = ub l[k] := by rw [List.getElem?_map, List.getElem?_eq_getElem hkl] at hx; simpa using hx.symm
      subst hu
      clear hx
      go_wp2
      go_round
      case rel => exact ⟨k + 1, by omega, by go_num, by rw [stp_byte, dadd_take hkl]⟩
      case measure => simp [intOf]; omega
    · go_wp2
      go_ret
      have : k = l.length := by have := HL.out; omega
      exact ⟨by rw [this, List.take_length]; rfl, rfl⟩
end Go.Proofs.Ythaibmkieflafaa.Dig
