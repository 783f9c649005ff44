/- The functions of the tree, whatever is handed in; the laws TreeMatchesReference, TreeProofs, TreeLength, TreeParts. -/
import Derived.Test.YthaibmkieflafaaTrProved
namespace Go.Proofs.Ythaibmkieflafaa.Tr
open Go.RowKit Go.Proofs.Ythaibmkieflafaa.Dig
set_option linter.unusedVariables false

def rootv (l : List Pg) : UInt64 := if okp l = true then top (lvs l) else 0
def roote (l : List Pg) : Int := if okp l = true then 0 else 1
theorem root_any (A : Option Addr) (n c : Nat) (l : List Pg) (w : World) (hR : Pgs w w.heap.size A n l) (hn : n ≤ maxLen) :
    Calls Try.prog 27 #[.slice A n c] w fun e w' => e = .returned (.tuple #[u64 (rootv l), i64 (roote l)]) ∧ Below w.heap.size w w' := by
  unfold rootv roote
  cases hv : okp l with
  | true => exact root_good A n c l hv w hR hn
  | false => exact root_bad A n c _ l hv w hR hn
theorem refRoot_any (A : Option Addr) (n c : Nat) (l : List Pg) (w : World) (hR : Pgs w w.heap.size A n l) (hn : n ≤ maxLen) :
    Calls Try.prog 28 #[.slice A n c] w fun e w' => e = .returned (.tuple #[u64 (rootv l), i64 (roote l)]) ∧ Below w.heap.size w w' := by
  unfold rootv roote
  cases hv : okp l with
  | true => exact refRoot_good A n c l hv w hR
  | false => exact (refRoot_bad A n c _ l hv w hR hn).mono fun _ _ ⟨h, hb⟩ => ⟨h, by rw [← hb]; exact Below.refl _ _⟩

def proofv (l : List Pg) (i : Int) : List UInt64 := if okp l = true ∧ 0 ≤ i ∧ i < l.length then prf (lvs l) i.toNat else []
def proofe (l : List Pg) (i : Int) : Int := if okp l = true ∧ 0 ≤ i ∧ i < l.length then 0 else 1
theorem proof_any (A : Option Addr) (n c : Nat) (l : List Pg) (i : Int) (w : World) (hR : Pgs w w.heap.size A n l) (hn : n ≤ maxLen) :
    Calls Try.prog 29 #[.slice A n c, i64 i] w fun e w' => ∃ X m k, e = .returned (.tuple #[.slice X m k, i64 (proofe l i)]) ∧ Rd w' w'.heap.size 1 X m ((proofv l i).map u64) ∧ m ≤ k ∧ k ≤ maxLen ∧ Below w.heap.size w w' := by
  unfold proofv proofe
  by_cases h : okp l = true ∧ 0 ≤ i ∧ i < l.length
  · rw [if_pos h, if_pos h]
    obtain ⟨j, rfl⟩ := Int.eq_ofNat_of_zero_le h.2.1
    refine (proof_good A n c l j h.1 (by have := hR.len; omega) w hR hn).mono ?_
    rintro e w' ⟨X, m, k, rfl, hm, hX, h1, h2, hb⟩
    exact ⟨X, m, k, rfl, by simpa using hX, h1, h2, hb⟩
  · rw [if_neg h, if_neg h]
    refine (proof_bad A n c _ l i ?_ w hR (Nat.le_refl _) hn).mono ?_
    · cases hv : okp l with
      | false => exact .inl rfl
      | true =>
        refine .inr ⟨rfl, ?_⟩
        have := hR.len
        apply Classical.byContradiction
        intro h2
        exact h ⟨hv, by omega, by omega⟩
    · rintro e w' ⟨rfl, hb⟩
      exact ⟨none, 0, 0, rfl, Rd.nil_, by omega, by decide, hb⟩
theorem refProof_any (A : Option Addr) (n c : Nat) (l : List Pg) (i : Int) (w : World) (hR : Pgs w w.heap.size A n l) (hn : n ≤ maxLen) :
    Calls Try.prog 30 #[.slice A n c, i64 i] w fun e w' => ∃ X m k, e = .returned (.tuple #[.slice X m k, i64 (proofe l i)]) ∧ Rd w' w'.heap.size 1 X m ((proofv l i).map u64) ∧ Below w.heap.size w w' := by
  unfold proofv proofe
  by_cases h : okp l = true ∧ 0 ≤ i ∧ i < l.length
  · rw [if_pos h, if_pos h]
    obtain ⟨j, rfl⟩ := Int.eq_ofNat_of_zero_le h.2.1
    refine (refProof_good A n c l j h.1 (by have := hR.len; omega) w hR).mono ?_
    rintro e w' ⟨X, m, k, rfl, hm, hX, hb⟩
    exact ⟨X, m, k, rfl, by simpa using hX, hb⟩
  · rw [if_neg h, if_neg h]
    refine (refProof_bad A n c _ l i ?_ w hR hn).mono ?_
    · cases hv : okp l with
      | false => exact .inl rfl
      | true =>
        refine .inr ⟨rfl, ?_⟩
        have := hR.len
        apply Classical.byContradiction
        intro h2
        exact h ⟨hv, by omega, by omega⟩
    · rintro e w' ⟨rfl, rfl⟩
      exact ⟨none, 0, 0, rfl, Rd.nil_, Below.refl _ _⟩

def checkv (r : UInt64) (n i : Int) (pg : List UInt8) (pf : List UInt64) : Bool := okc n i pg.length && decide (up n.toNat i.toNat (leaf pg) pf = some r)
theorem check_any (r : UInt64) (n i : Int) (A P : Option Addr) (m c k d : Nat) (pg : List UInt8) (pf : List UInt64) (v : Bool) (hv : checkv r n i pg pf = v) (w : World) (hA : Rd w w.heap.size 1 A m (pg.map ub)) (hP : Rd w w.heap.size 1 P k (pf.map u64)) (hm : m ≤ maxLen) (hk : k ≤ d) (hd : d ≤ maxLen) :
    Calls Try.prog 32 #[u64 r, i64 n, i64 i, .slice A m c, .slice P k d] w fun e w' => e = .returned (.bool v) ∧ Below w.heap.size w w' := by
  have hlen : pg.length = m := by simpa using hA.1
  subst hv
  unfold checkv
  rw [hlen]
  cases ho : okc n i m with
  | false => exact check_bad r n i A P m c k d ho hm w
  | true =>
    have h : 0 ≤ n ∧ 0 ≤ i := by
      unfold okc at ho
      simp only [Bool.and_eq_true, decide_eq_true_eq] at ho
      omega
    obtain ⟨n', rfl⟩ := Int.eq_ofNat_of_zero_le h.1
    obtain ⟨i', rfl⟩ := Int.eq_ofNat_of_zero_le h.2
    exact check_good r n' i' A P m c k d pg pf _ (by simp) ho w hA hP hk hd
theorem refCheck_any (r : UInt64) (n i : Int) (A P : Option Addr) (m c k d : Nat) (pg : List UInt8) (pf : List UInt64) (v : Bool) (hv : checkv r n i pg pf = v) (w : World) (hA : Rd w w.heap.size 1 A m (pg.map ub)) (hP : Rd w w.heap.size 1 P k (pf.map u64)) (hk : k ≤ maxLen) :
    Calls Try.prog 33 #[u64 r, i64 n, i64 i, .slice A m c, .slice P k d] w fun e w' => e = .returned (.bool v) ∧ Below w.heap.size w w' := by
  have hlen : pg.length = m := by simpa using hA.1
  subst hv
  unfold checkv
  rw [hlen]
  cases ho : okc n i m with
  | false => exact (refCheck_bad r n i A P m c k d ho w).mono fun _ _ ⟨h, hb⟩ => ⟨h, by rw [← hb]; exact Below.refl _ _⟩
  | true =>
    have h : 0 ≤ n ∧ 0 ≤ i := by
      unfold okc at ho
      simp only [Bool.and_eq_true, decide_eq_true_eq] at ho
      omega
    obtain ⟨n', rfl⟩ := Int.eq_ofNat_of_zero_le h.1
    obtain ⟨i', rfl⟩ := Int.eq_ofNat_of_zero_le h.2
    exact refCheck_good r n' i' A P m c k d _ pg pf _ (by simp) ho w hA hP (Nat.le_refl _) hk

set_option maxRecDepth 100000 in
set_option maxHeartbeats 2000000 in
theorem treeMatchesReference_walk (A : Option Addr) (n c : Nat) (l : List Pg) (r : UInt64) (x i : Int) (B : Option Addr) (m d : Nat) (pg : List UInt8) (P : Option Addr) (k q : Nat) (pf : List UInt64) (W : World)
    (g0 : IsPages W A n c l) (g2 : (Lit.int .i64 x).wf = true) (g3 : (Lit.int .i64 i).wf = true) (g4 : IsBytes W B m d pg) (g5 : IsU64s W P k q pf) :
    Calls Try.prog 10 #[.slice A n c, u64 r, i64 x, i64 i, .slice B m d, .slice P k q] W fun e w' => e = .returned (.bool true) ∧ Below W.heap.size W w' := by
  obtain ⟨hR, hnc, hcm, _⟩ := g0
  obtain ⟨hml, hA, hmd, hdm⟩ := g4
  obtain ⟨hkl, hP, hkq, hqm⟩ := g5
  have HR := Lib.hid hR; clear hR
  have HA := Lib.hid hA; clear hA
  have HP := Lib.hid hP; clear hP
  have hn : n ≤ maxLen := by omega
  have hm : m ≤ maxLen := by omega
  have hk : k ≤ maxLen := by omega
  clear hml hkl
  go_enter Try.func10, Try.ntmps10
  go_wp2_with fail
  refine (head_val _).mono ?_
  rintro e w1 ⟨rfl, hb1⟩
  have hR1 := Lib.hid (HR.out.up hb1)
  go_wp2_with fail
  refine (few_val A n c _ l w1 hR1.out hn).mono ?_
  rintro e w2 ⟨fb, rfl, rfl⟩
  cases fb with
  | false =>
    go_wp2_with fail
    go_ret
    exact ⟨rfl, hb1⟩
  | true =>
    by_cases h300 : (300 : Int) < m
    · go_wp2_with fail
      go_ret
      exact ⟨rfl, hb1⟩
    · by_cases h20 : (20 : Int) < k
      · go_wp2_with fail
        go_ret
        exact ⟨rfl, hb1⟩
      · go_wp2_with fail
        refine (root_any A n c l w1 hR1.out hn).mono ?_
        rintro e w2 ⟨rfl, hb2⟩
        have hR2 := Lib.hid (hR1.out.up hb2)
        have hB2 := below_trans' hb1 hb2
        go_wp2_with fail
        refine (refRoot_any A n c l w2 hR2.out hn).mono ?_
        rintro e w3 ⟨rfl, hb3⟩
        have hR3 := Lib.hid (hR2.out.up hb3)
        have hB3 := below_trans' hB2 hb3
        go_wp2_with fail
        refine (proof_any A n c l i w3 hR3.out hn).mono ?_
        rintro e w4 ⟨X, m4, k4, rfl, hX, hmk4, hk4, hb4⟩
        have hR4 := Lib.hid (hR3.out.up hb4)
        have hB4 := below_trans' hB3 hb4
        have HX := Lib.hid hX; clear hX
        go_wp2_with fail
        refine (refProof_any A n c l i w4 hR4.out hn).mono ?_
        rintro e w5 ⟨Y, m5, k5, rfl, hY, hb5⟩
        have hB5 := below_trans' hB4 hb5
        have HX := Lib.hid (HX.out.up hb5)
        have HY := Lib.hid hY
        have hm5 : m5 ≤ maxLen := by
          have h1 := hY.1
          have h2 := HX.out.1
          rw [Nat.mul_one] at h1 h2
          omega
        clear hY
        go_wp2_with fail
        refine (refSame_val X m4 k4 Y m5 k5 _ _ _ true (by simp) w5 HX.out HY.out (by omega) hm5).mono ?_
        rintro e w6 ⟨rfl, hb6⟩
        have hB6 := below_trans' hB5 hb6
        have HA6 := Lib.hid (HA.out.up hB6)
        have HP6 := Lib.hid (HP.out.up hB6)
        go_wp2_with fail
        refine (check_any r x i B P m d k q pg pf _ rfl w6 HA6.out HP6.out hm hkq hqm).mono ?_
        rintro e w7 ⟨rfl, hb7⟩
        have HA7 := Lib.hid (HA6.out.up hb7)
        have HP7 := Lib.hid (HP6.out.up hb7)
        have hB7 := below_trans' hB6 hb7
        go_wp2_with fail
        refine (refCheck_any r x i B P m d k q pg pf _ rfl w7 HA7.out HP7.out hk).mono ?_
        rintro e w8 ⟨rfl, hb8⟩
        have hB8 := below_trans' hB7 hb8
        go_wp2_with fail
        go_ret
        exact ⟨rb (by simp), hB8⟩
end Go.Proofs.Ythaibmkieflafaa.Tr
