/- The walks of the statements on digests that make no slice. -/
import Derived.Test.YthaibmkieflafaaOpen
import Derived.Test.YthaibmkieflafaaDigHead
namespace Go.Proofs.Ythaibmkieflafaa.Dig
open Go.RowKit

theorem digestMatchesReference_walk (A0 : Option Addr) (n0 c0 : Nat) (l0 : List UInt8) (x1 x2 : UInt64) (w : World) (g0 : IsBytes w A0 n0 c0 l0) :
    Calls Try.prog 3 #[.slice A0 n0 c0, u64 x1, u64 x2] w fun e w' => e = .returned (.bool true) ∧ Below w.heap.size w w' := by
  obtain ⟨hl, hR, hc, hm⟩ := g0
  have HL := Lib.hid hl; clear hl
  have hm := Nat.le_trans hc hm
  by_cases hlen : 5000 < n0
  · go_enter Try.func3, Try.ntmps3
    go_wp2_with fail
    refine (head_any _).mono ?_
    rintro e w1 ⟨rfl, hb1⟩
    go_wp2_with fail
    go_ret
    exact ⟨rfl, hb1⟩
  · go_enter Try.func3, Try.ntmps3
    go_wp2_with fail
    refine (head_any _).mono ?_
    rintro e w1 ⟨rfl, hb1⟩
    go_wp2_with fail
    refine (add_any _ _ _ _ l0 _ (hR.up hb1) hm).mono ?_
    rintro e w2 ⟨rfl, hb2⟩
    have hB2 := below_trans' hb1 hb2
    go_wp2_with fail
    refine (ref_add_any _ _ _ _ _ l0 _ (hR.up hB2) hm).mono ?_
    rintro e w' ⟨rfl, rfl⟩
    go_wp2_with fail
    refine (sum_any _ _ _ l0 _ (hR.up hB2) hm).mono ?_
    rintro e w3 ⟨rfl, hb3⟩
    have hB3 := below_trans' hB2 hb3
    go_wp2_with fail
    refine (ref_sum_any _ _ _ _ l0 _ (hR.up hB3) hm).mono ?_
    rintro e w' ⟨rfl, rfl⟩
    go_wp2_with fail
    refine (pair_any _ _ _).mono ?_
    rintro e w' ⟨rfl, rfl⟩
    go_wp2_with fail
    refine (ref_pair_any _ _ _).mono ?_
    rintro e w' ⟨rfl, rfl⟩
    go_wp2_with fail
    go_ret
    exact ⟨rfl, hB3⟩

theorem beq_nat (a b : UInt64) : ((a.toNat : Int) == (b.toNat : Int)) = (a == b) := by
  rw [Bool.eq_iff_iff, beq_iff_eq, beq_iff_eq]
  exact ⟨fun h => UInt64.toNat_inj.1 (by omega), fun h => by rw [h]⟩

theorem ret_bool {b : Bool} (h : b = true) : Ending.returned (.bool b) = .returned (.bool true) := by rw [h]
theorem states (x y : UInt64) (l : List UInt8) : ((dadd x l == dadd y l) == (x == y)) = true := by
  rw [beq_iff_eq, Bool.eq_iff_iff, beq_iff_eq, beq_iff_eq]
  exact dadd_inj

theorem digestStates_walk (x0 x1 : UInt64) (A2 : Option Addr) (n2 c2 : Nat) (l2 : List UInt8) (w : World) (g2 : IsBytes w A2 n2 c2 l2) :
    Calls Try.prog 6 #[u64 x0, u64 x1, .slice A2 n2 c2] w fun e w' => e = .returned (.bool true) ∧ Below w.heap.size w w' := by
  obtain ⟨hl, hR, hc, hm⟩ := g2
  have HL := Lib.hid hl; clear hl
  have hm := Nat.le_trans hc hm
  by_cases hlen : 5000 < n2
  · go_enter Try.func6, Try.ntmps6
    go_wp2_with fail
    refine (head_any _).mono ?_
    rintro e w1 ⟨rfl, hb1⟩
    go_wp2_with fail
    go_ret
    exact ⟨rfl, hb1⟩
  · go_enter Try.func6, Try.ntmps6
    go_wp2_with fail
    refine (head_any _).mono ?_
    rintro e w1 ⟨rfl, hb1⟩
    go_wp2_with fail
    refine (add_any _ _ _ _ l2 _ (hR.up hb1) hm).mono ?_
    rintro e w2 ⟨rfl, hb2⟩
    have hB2 := below_trans' hb1 hb2
    go_wp2_with fail
    refine (add_any _ _ _ _ l2 _ (hR.up hB2) hm).mono ?_
    rintro e w3 ⟨rfl, hb3⟩
    have hB3 := below_trans' hB2 hb3
    go_wp2_with fail
    go_ret
    exact ⟨ret_bool (by rw [beq_nat, beq_nat]; exact states _ _ _), hB3⟩

theorem inverse_k (w : World) : Calls Try.prog 24 #[] w fun e w' => ∃ k : UInt64, Hid (k = K) ∧ e = .returned (u64 k) ∧ w = w' :=
  (inverse_any w).mono fun _ _ ⟨he, hw⟩ => ⟨K, rfl, he, hw⟩

theorem pairs1 (k x0 x1 : UInt64) (hk : k = K) : (bits .xor .u64 (IntKind.u64.wrap (bits .xor .u64 (IntKind.u64.wrap (((pair x0 x1).toNat : Int) * (k.toNat : Int))) (x1.toNat : Int) * (k.toNat : Int))) 3750763034362895578 == (x0.toNat : Int)) = true := by
  rw [hk, u64_mul, u64_xor, u64_mul, nB, u64_xor, pair_first]
  simp
theorem pairs2 (k x0 x1 : UInt64) (hk : k = K) : (bits .xor .u64 (IntKind.u64.wrap (((pair x0 x1).toNat : Int) * (k.toNat : Int))) (IntKind.u64.wrap (bits .xor .u64 3750763034362895578 (x0.toNat : Int) * 1099511628211)) == (x1.toNat : Int)) = true := by
  rw [hk, u64_mul, nB, stp_eq, u64_xor]
  have := pair_second x0 x1
  unfold stp
  rw [this]
  simp
theorem pairs3 (x0 x1 x2 : UInt64) : ((((pair x2 x1).toNat : Int) == ((pair x0 x1).toNat : Int)) == ((x0.toNat : Int) == (x2.toNat : Int))) = true := by
  rw [beq_nat, beq_nat, beq_iff_eq, Bool.eq_iff_iff, beq_iff_eq, beq_iff_eq, pair_fst]
  exact ⟨Eq.symm, Eq.symm⟩
theorem pairs4 (x0 x1 x2 : UInt64) : ((((pair x0 x2).toNat : Int) == ((pair x0 x1).toNat : Int)) == ((x1.toNat : Int) == (x2.toNat : Int))) = true := by
  rw [beq_nat, beq_nat, beq_iff_eq, Bool.eq_iff_iff, beq_iff_eq, beq_iff_eq, pair_snd]
  exact ⟨Eq.symm, Eq.symm⟩

theorem digestPairs_walk (x0 x1 x2 : UInt64) (w : World) :
    Calls Try.prog 8 #[u64 x0, u64 x1, u64 x2] w fun e w' => e = .returned (.bool true) ∧ Below w.heap.size w w' := by
  go_enter Try.func8, Try.ntmps8
  go_wp2_with fail
  refine (head_any _).mono ?_
  rintro e w1 ⟨rfl, hb1⟩
  go_wp2_with fail
  refine (inverse_k _).mono ?_
  rintro e w' ⟨k, Hk, rfl, rfl⟩
  go_wp2_with fail
  refine (pair_any _ _ _).mono ?_
  rintro e w' ⟨rfl, rfl⟩
  have e1 := pairs1 k x0 x1 Hk.out
  have e2 := pairs2 k x0 x1 Hk.out
  have e3 := pairs3 x0 x1 x2
  have e4 := pairs4 x0 x1 x2
  go_wp2_with fail
  refine (pair_any _ _ _).mono ?_
  rintro e w' ⟨rfl, rfl⟩
  go_wp2_with fail
  refine (pair_any _ _ _).mono ?_
  rintro e w' ⟨rfl, rfl⟩
  go_wp2_with fail
  go_ret
  exact ⟨rfl, hb1⟩

theorem undo_eq (k x y : UInt64) (c : UInt8) (hk : k = K) (hy : y = stp x c.toUInt64) : bits .xor .u64 (IntKind.u64.wrap ((y.toNat : Int) * (k.toNat : Int))) (IntKind.u64.wrap (c.toNat : Int)) = (x.toNat : Int) := by
  rw [hk, hy, u64_mul, u64_of_byte c, u64_wrap, u64_xor, stp_undo]
theorem undo_one (k : UInt64) (hk : k = K) : (IntKind.u64.wrap ((k.toNat : Int) * 1099511628211) == 1) = true := by
  have h : IntKind.u64.wrap ((k.toNat : Int) * 1099511628211) = ((k * P).toNat : Int) := u64_mul k P
  rw [h, hk, UInt64.mul_comm, PK]
  rfl

theorem digestUndone_walk (x0 : UInt64) (A1 : Option Addr) (n1 c1 : Nat) (l1 : List UInt8) (w : World) (g1 : IsBytes w A1 n1 c1 l1) :
    Calls Try.prog 7 #[u64 x0, .slice A1 n1 c1] w fun e w' => e = .returned (.bool true) ∧ Below w.heap.size w w' := by
  obtain ⟨hl, hR, hc, hm⟩ := g1
  have HL := Lib.hid hl; clear hl
  have hm := Nat.le_trans hc hm
  by_cases hlen : 5000 < n1
  · go_enter Try.func7, Try.ntmps7
    go_wp2_with fail
    refine (head_any _).mono ?_
    rintro e w1 ⟨rfl, hb1⟩
    go_wp2_with fail
    go_ret
    exact ⟨rfl, hb1⟩
  · go_enter Try.func7, Try.ntmps7
    go_wp2_with fail
    refine (head_any _).mono ?_
    rintro e w1 ⟨rfl, hb1⟩
    go_wp2_with fail
    refine (add_any _ _ _ _ l1 _ (hR.up hb1) hm).mono ?_
    rintro e w2 ⟨rfl, hb2⟩
    have hB2 := below_trans' hb1 hb2
    go_wp2_with fail
    refine (inverse_k _).mono ?_
    rintro e w' ⟨k, Hk, rfl, rfl⟩
    have hR2 := hR.up hB2
    have e1 := undo_one k Hk.out
    go_wp2_with fail
    go_loop [6, 8] (fun x i => ∃ k : Nat, k ≤ n1 ∧ i = .int .i64 ((k : Int) - 1) ∧ x = u64 (dadd x0 (l1.take k))) (fun _ i => (intOf i + 1).toNat)
    case atStart =>
      have : n1 = l1.length := by have := HL.out; omega
      exact ⟨n1, Nat.le_refl _, rfl, by rw [this, List.take_length]⟩
    case round =>
      obtain ⟨j, hj, hi, rfl⟩ := hrel
      rcases j with _ | j
      · have hi2 : u8 = .int .i64 (-1) := hi
        subst hi2
        go_wp2_with fail
        go_ret
        exact ⟨ret_bool (by simp [dadd_nil]), hB2⟩
      · have hi2 : u8 = .int .i64 (j : Int) := by rw [hi]; congr 1; omega
        subst hi2
        clear hi
        obtain ⟨b, off, u, rfl, hb, hx, hc⟩ := hR2.at_ (k := j) (by omega)
        have hkl : j < l1.length := by have := HL.out; omega
        have hu : u = ub l1[j] := by rw [List.getElem?_map, List.getElem?_eq_getElem hkl] at hx; simpa using hx.symm
        subst hu
        clear hx
        have E := undo_eq k (dadd x0 (l1.take j)) _ l1[j] Hk.out (dadd_take (x := x0) hkl)
        go_wp2_with fail
        go_round
        case rel => exact ⟨j, by omega, rfl, rfl⟩
        case measure => simp [intOf]
end Go.Proofs.Ythaibmkieflafaa.Dig
