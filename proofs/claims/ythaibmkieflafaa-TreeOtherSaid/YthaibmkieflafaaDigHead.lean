/- digest.Sum, the reference's Sum, the head of the statements on digests, and the inverse of the prime. -/
import Derived.Lib.SlBytesConst
import Derived.Test.YthaibmkieflafaaDigIter
namespace Go.Proofs.Ythaibmkieflafaa.Dig
open Go.RowKit

theorem nB' : (14695981039346656037 : Int) = ((B : UInt64).toNat : Int) := by decide
theorem add_lit (a : Int) (x : UInt64) (ha : a = (x.toNat : Int)) (A : Option Addr) (n c : Nat) (bs : List UInt8) (w : World) (hR : Rd w w.heap.size 1 A n (bs.map ub)) (hn : n ≤ maxLen) :
    Calls Try.prog 18 #[.int .u64 a, .slice A n c] w fun e w' => e = .returned (u64 (dadd x bs)) ∧ Below w.heap.size w w' := by
  subst ha
  exact add_any x A n c bs w hR hn

theorem sum_any (A : Option Addr) (n c : Nat) (bs : List UInt8) (w : World) (hR : Rd w w.heap.size 1 A n (bs.map ub)) (hn : n ≤ maxLen) :
    Calls Try.prog 20 #[.slice A n c] w fun e w' => e = .returned (u64 (dsum bs)) ∧ Below w.heap.size w w' := by
  go_enter Try.func20, Try.ntmps20
  go_wp2_with fail
  refine (add_lit _ _ nB' _ _ _ _ _ hR hn).mono ?_
  rintro e w' ⟨rfl, hb⟩
  go_wp2_with fail
  go_ret
  exact ⟨rfl, hb⟩

theorem sum_val (A : Option Addr) (n c : Nat) (bs : List UInt8) (z : Int) (hz : ((dsum bs).toNat : Int) = z) (w : World) (hR : Rd w w.heap.size 1 A n (bs.map ub)) (hn : n ≤ maxLen) :
    Calls Try.prog 20 #[.slice A n c] w fun e w' => e = .returned (.int .u64 z) ∧ Below w.heap.size w w' := by
  subst hz
  exact sum_any A n c bs w hR hn

theorem ref_add_lit (a : Int) (x : UInt64) (ha : a = (x.toNat : Int)) (A : Option Addr) (n c B : Nat) (bs : List UInt8) (w : World) (hR : Rd w B 1 A n (bs.map ub)) (hn : n ≤ maxLen) :
    Calls Try.prog 19 #[.int .u64 a, .slice A n c] w fun e w' => e = .returned (u64 (dadd x bs)) ∧ w = w' := by
  subst ha
  exact ref_add_any x A n c B bs w hR hn

theorem ref_sum_any (A : Option Addr) (n c B : Nat) (bs : List UInt8) (w : World) (hR : Rd w B 1 A n (bs.map ub)) (hn : n ≤ maxLen) :
    Calls Try.prog 21 #[.slice A n c] w fun e w' => e = .returned (u64 (dsum bs)) ∧ w = w' := by
  go_enter Try.func21, Try.ntmps21
  go_wp2_with fail
  refine (ref_add_lit _ _ nB' _ _ _ _ _ _ hR hn).mono ?_
  rintro e w' ⟨rfl, rfl⟩
  go_wp2_with fail
  go_ret
  exact ⟨rfl, rfl⟩

theorem pair_val (a b : Int) (x y : UInt64) (ha : a = (x.toNat : Int)) (hb : b = (y.toNat : Int)) (z : Int) (hz : ((pair x y).toNat : Int) = z) (w : World) :
    Calls Try.prog 22 #[.int .u64 a, .int .u64 b] w fun e w' => e = .returned (.int .u64 z) ∧ w = w' := by
  subst ha hb hz
  exact pair_any x y w

theorem start_any (w : World) : Calls Try.prog 37 #[] w fun e w' => e = .returned (.int .u64 14695981039346656037) ∧ w = w' := by
  go_enter Try.func37, Try.ntmps37
  go_wp2_with fail
  go_ret
  exact ⟨rfl, rfl⟩

def inv : Nat → UInt64
  | 0 => P
  | k + 1 => inv k * (2 - P * inv k)
theorem inv6 : inv 6 = K := by decide +kernel
theorem inv_step (x : UInt64) : IntKind.u64.wrap ((x.toNat : Int) * IntKind.u64.wrap (2 - IntKind.u64.wrap (1099511628211 * (x.toNat : Int)))) = ((x * (2 - P * x)).toNat : Int) := by
  have h1 : IntKind.u64.wrap (1099511628211 * (x.toNat : Int)) = ((P * x).toNat : Int) := u64_mul P x
  have h2 : IntKind.u64.wrap (2 - ((P * x).toNat : Int)) = ((2 - P * x).toNat : Int) := u64_sub 2 (P * x)
  rw [h1, h2, u64_mul]

theorem inverse_any (w : World) : Calls Try.prog 24 #[] w fun e w' => e = .returned (u64 K) ∧ w = w' := by
  go_enter Try.func24, Try.ntmps24
  go_wp2
  go_loop [1, 2] (fun x i => ∃ k : Nat, k ≤ 6 ∧ i = .int .i64 k ∧ x = u64 (inv k)) (fun _ i => 6 - (intOf i).toNat)
  case atStart => exact ⟨0, by omega, rfl, rfl⟩
  case round =>
    obtain ⟨k, hk, rfl, rfl⟩ := hrel
    by_cases hlt : k < 6
    · go_wp2
      go_round
      case rel => exact ⟨k + 1, by omega, by go_num, by rw [inv_step]; rfl⟩
      case measure => simp [intOf]; omega
    · obtain rfl : k = 6 := by omega
      go_wp2
      go_ret
      exact ⟨by rw [← inv6]; rfl, rfl⟩

theorem head_any (w : World) : Calls Try.prog 17 #[] w fun e w' => e = .returned (.bool true) ∧ Below w.heap.size w w' := by
  have kc := fun (w : World) (C : Array Value) (n c : Nat) => Lib.run_convert_bytes_const (P := Try.prog) w 22 5 C n c Try.underlying22 Try.underlying5
  go_enter Try.func17, Try.ntmps17
  go_wp2_with fail
  refine (start_any _).mono ?_
  rintro e w' ⟨rfl, rfl⟩
  go_wp2_with fail
  refine (sum_val none 0 0 [] 14695981039346656037 (by decide) _ Rd.nil_ (by decide)).mono ?_
  rintro e w1 ⟨rfl, hb1⟩
  go_wp2_with fail
  refine (start_any _).mono ?_
  rintro e w' ⟨rfl, rfl⟩
  go_wp2_with fail
  refine (sum_val _ 1 1 [97] 12638187200555641996 (by decide) _ (Rd.new w1 _ _ _ 1 1 rfl) (by decide)).mono ?_
  rintro e w2 ⟨rfl, hb2⟩
  go_wp2_with fail
  refine (sum_val _ 6 6 [102, 111, 111, 98, 97, 114] 9625390261332436968 (by decide) _ (Rd.new w2 _ _ _ 1 6 rfl) (by decide)).mono ?_
  rintro e w3 ⟨rfl, hb3⟩
  go_wp2_with fail
  refine (pair_val _ _ 1 2 rfl rfl 17856062204912374649 (by decide) _).mono ?_
  rintro e w' ⟨rfl, rfl⟩
  go_wp2_with fail
  refine (pair_val _ _ 2 1 rfl rfl 17853191380051683403 (by decide) _).mono ?_
  rintro e w' ⟨rfl, rfl⟩
  go_wp2_with fail
  go_ret
  exact ⟨rfl, ext1 (ext1 hb1 _ hb2) _ hb3⟩
end Go.Proofs.Ythaibmkieflafaa.Dig
