/- The reference's Catch, one radio after the other; equality of lists; the law's tests of length. -/
import Derived.Test.YteeloebhjmmpdaaApp
import Derived.Test.YteeloebhjmmpdaaMdCatch
import Derived.Test.YteeloebhjmmpdaaMdValid
namespace Go.Proofs.Yteeloebhjmmpdaa.Md
open Go.RowKit Go.Proofs.Yteeloebhjmmpdaa.Pl
set_option linter.unusedVariables false

def fewB (n m k : Nat) : Bool := decide (n ≤ 210) && (decide (m ≤ 210) && decide (k ≤ 40))
theorem few_val (A P J : Option Addr) (n c m d k e : Nat) (v : Bool) (hv : fewB n m k = v) (hn : n ≤ maxLen) (hm : m ≤ maxLen) (hk : k ≤ maxLen) (w : World) :
    Calls Try.prog 29 #[.slice A n c, .slice P m d, .slice J k e] w fun e w' => e = .returned (.bool v) ∧ w = w' := by
  unfold maxLen at hn hm hk
  subst hv
  by_cases h1 : n ≤ 210
  · by_cases h2 : m ≤ 210
    · have e1 : fewB n m k = decide ((k : Int) ≤ 40) := by unfold fewB; rw [Bool.eq_iff_iff]; simp [h1, h2]; omega
      have E := Lib.hid e1; clear e1
      go_enter Try.func29, Try.ntmps29
      go_wp2_with fail
      go_ret
      exact ⟨by rw [E.out]; rfl, rfl⟩
    · have e1 : fewB n m k = false := by unfold fewB; simp [h2]
      have E := Lib.hid e1; clear e1
      go_enter Try.func29, Try.ntmps29
      go_wp2_with fail
      go_ret
      exact ⟨by rw [E.out]; rfl, rfl⟩
  · have e1 : fewB n m k = false := by unfold fewB; simp [h1]
    have E := Lib.hid e1; clear e1
    go_enter Try.func29, Try.ntmps29
    go_wp2_with fail
    go_ret
    exact ⟨by rw [E.out]; rfl, rfl⟩

theorem valid_val (A : Option Addr) (n c : Nat) (P : Option Addr) (m d B : Nat) (J : Option Addr) (k e : Nat) (ra : List Ac) (ps : List Pt) (r asn : Int) (v : Bool) (hv : (fewB n m k && okm ra ps r asn) = v) (w : World)
    (hR : Rd w B 5 A n (ra.flatMap decA)) (hP : Rd w B 2 P m (ps.flatMap decP)) (hB : B ≤ w.heap.size) (hl : ra.length = n) (hm : ps.length = m) (hn : n ≤ maxLen) (hm' : m ≤ maxLen) (hk : k ≤ maxLen) :
    Calls Try.prog 34 #[.slice A n c, .slice P m d, i64 r, .slice J k e, i64 asn] w fun e w' => e = .returned (.bool v) ∧ Below w.heap.size w w' := by
  have H := Lib.hid (fun v hv => refMValid_val A n c P m d B ra ps r asn v hv w hR hP hB hl hm hn hm')
  clear hR hP hl hm
  cases hf : fewB n m k
  · obtain rfl : v = false := by rw [← hv, hf]; rfl
    have HF := Lib.hid hf; clear hf hv
    go_enter Try.func34, Try.ntmps34
    go_wp2_with fail
    refine (few_val A P J n c m d k e _ HF.out hn hm' hk _).mono ?_
    rintro e w' ⟨rfl, rfl⟩
    go_wp2_with fail
    go_ret
    exact ⟨rfl, Below.refl _ _⟩
  · rw [hf, Bool.true_and] at hv
    have HF := Lib.hid hf; clear hf
    have HV := Lib.hid hv; clear hv
    go_enter Try.func34, Try.ntmps34
    go_wp2_with fail
    refine (few_val A P J n c m d k e _ HF.out hn hm' hk _).mono ?_
    rintro e w' ⟨rfl, rfl⟩
    go_wp2_with fail
    refine (H.out v HV.out).mono ?_
    rintro e w1 ⟨rfl, hb⟩
    go_wp2_with fail
    go_ret
    exact ⟨rfl, hb⟩

set_option maxRecDepth 100000 in
set_option maxHeartbeats 1000000 in
theorem refMSame_val (X : Option Addr) (n c : Nat) (Y : Option Addr) (m d B : Nat) (xs ys : List Int) (v : Bool) (hv : decide (xs = ys) = v) (w : World)
    (hX : Rd w B 1 X n (xs.map i64)) (hY : Rd w B 1 Y m (ys.map i64)) (hB : B ≤ w.heap.size) (hn : n ≤ maxLen) (hm : m ≤ maxLen) :
    Calls Try.prog 32 #[.slice X n c, .slice Y m d] w fun e w' => e = .returned (.bool v) ∧ Below w.heap.size w w' := by
  unfold maxLen at hn hm
  have hl : xs.length = n := by simpa using hX.1
  have hk : ys.length = m := by simpa using hY.1
  by_cases hnm : n = m
  · subst hnm
    have HL := Lib.hid hl; clear hl
    have HK := Lib.hid hk; clear hk
    have HV := Lib.hid hv; clear hv
    go_enter Try.func32, Try.ntmps32
    go_wp2_with fail
    go_loopw [5] (fun i wr => ∃ k : Nat, k ≤ n ∧ i = .int .i64 k ∧ Hid (xs.take k = ys.take k) ∧ Below w.heap.size w wr) (fun i _ => n - (intOf i).toNat)
    case atStart => exact ⟨0, Nat.zero_le _, rfl, rfl, Below.refl _ _⟩
    case round =>
      obtain ⟨k, hk, rfl, HE, hb⟩ := hrel
      by_cases hlt : k < n
      · have hkx : k < xs.length := by have := HL.out; omega
        have hky : k < ys.length := by have := HK.out; omega
        obtain ⟨b, off, u, rfl, _, hu, hc⟩ := (hX.below' hb hB).at_ hlt
        obtain ⟨b', off', u', rfl, _, hu', hc'⟩ := (hY.below' hb hB).at_ hlt
        obtain rfl : u = i64 xs[k] := by rw [List.getElem?_map, List.getElem?_eq_getElem hkx] at hu; simpa using hu.symm
        obtain rfl : u' = i64 ys[k] := by rw [List.getElem?_map, List.getElem?_eq_getElem hky] at hu'; simpa using hu'.symm
        clear hu hu'
        by_cases he : xs[k] = ys[k]
        · have HE2 : Hid (xs.take (k + 1) = ys.take (k + 1)) := by show _ = _; rw [List.take_succ_eq_append_getElem hkx, List.take_succ_eq_append_getElem hky, HE.out, he]
          rw [he] at hc
          generalize ys[k] = z at hc hc'
          clear he
          go_wp2_with fail
          go_quiet (fail)
          go_wp2_with fail
          go_roundw
          case rel => exact ⟨k + 1, by omega, by go_num, HE2, below_drewN' hb _⟩
          case measure => simp [intOf]; omega
        · obtain rfl : v = false := by rw [← HV.out]; rw [decide_eq_false_iff_not]; intro e; exact he (by simp [e])
          have e1 : (xs[k] != ys[k]) = true := by rw [bne_iff_ne]; exact he
          have e2 : (xs[k] == ys[k]) = false := by rw [beq_eq_false_iff_ne]; exact he
          generalize xs[k] = z at hc e1 e2
          generalize ys[k] = z' at hc' e1 e2
          clear he
          go_wp2_with fail
          go_quiet (fail)
          go_wp2_with fail
          go_ret
          exact ⟨rfl, below_drewN' hb _⟩
      · obtain rfl : k = n := by omega
        obtain rfl : v = true := by
          rw [← HV.out, decide_eq_true_iff]
          have := HE.out
          rwa [List.take_of_length_le (by rw [HL.out]; exact Nat.le_refl _), List.take_of_length_le (by rw [HK.out]; exact Nat.le_refl _)] at this
        go_wp2_with fail
        go_ret
        exact ⟨rfl, hb⟩
  · obtain rfl : v = false := by rw [← hv]; rw [decide_eq_false_iff_not]; intro e; subst e; omega
    have e1 : ((n : Int) != (m : Int)) = true := by rw [bne_iff_ne]; omega
    clear hv hl hk
    go_enter Try.func32, Try.ntmps32
    go_wp2_with fail
    go_ret
    exact ⟨rfl, Below.refl _ _⟩
end Go.Proofs.Yteeloebhjmmpdaa.Md
