/- The reference's Check. -/
import Derived.Test.YthaibmkieflafaaTrRef2
namespace Go.Proofs.Ythaibmkieflafaa.Tr
open Go.RowKit Go.Proofs.Ythaibmkieflafaa.Dig
set_option linter.unusedVariables false

theorem up_end {n i : Nat} {x : UInt64} {pr : List UInt64} (h : n ≤ 1) : up n i x pr = if pr = [] then some x else none := by rw [up.eq_def, dif_pos h]
theorem up_pair {n i : Nat} {x d : UInt64} {pr : List UInt64} (h : ¬ n ≤ 1) (hs : sib i < n) : up n i x (d :: pr) = up ((n + 1) / 2) (i / 2) (mix i x d) pr := by rw [up.eq_def, dif_neg h, if_pos hs]
theorem up_none {n i : Nat} {x : UInt64} {pr : List UInt64} (h : ¬ n ≤ 1) (hs : ¬ sib i < n) : up n i x pr = up ((n + 1) / 2) (i / 2) x pr := by rw [up.eq_def, dif_neg h, if_neg hs]

theorem want_le (n i : Nat) (hn : n ≤ 16) : want n i ≤ 40 := by
  have h : ∀ m n i : Nat, n ≤ m → want n i ≤ n := by
    intro m
    induction m with
    | zero => intro n i h; rw [want_one (by omega)]; omega
    | succ m ih =>
      intro n i h
      by_cases h1 : n ≤ 1
      · rw [want_one h1]; omega
      · rw [want_more h1]
        have := ih ((n + 1) / 2) (i / 2) (by omega)
        by_cases h2 : n = 2
        · subst h2
          rw [want_one (by omega)]
          split <;> omega
        · split <;> omega
  have := h n n i (Nat.le_refl _)
  omega
theorem ref_pair_val (x y z : UInt64) (hz : pair x y = z) (w : World) : Calls Try.prog 23 #[u64 x, u64 y] w fun e w' => e = .returned (u64 z) ∧ w = w' := by
  subst hz
  exact ref_pair_any x y w

set_option maxRecDepth 100000 in
set_option maxHeartbeats 2000000 in
theorem refCheck_good (r : UInt64) (n i : Nat) (A P : Option Addr) (m c k d B : Nat) (pg : List UInt8) (pf : List UInt64) (v : Bool) (hz : decide (up n i (leaf pg) pf = some r) = v) (hv : okc n i m = true) (w : World) (hA : Rd w B 1 A m (pg.map ub)) (hP : Rd w B 1 P k (pf.map u64)) (hB : B ≤ w.heap.size) (hk : k ≤ maxLen) :
    Calls Try.prog 33 #[u64 r, i64 (n : Nat), i64 (i : Nat), .slice A m c, .slice P k d] w fun e w' => e = .returned (.bool v) ∧ Below w.heap.size w w' := by
  unfold maxLen at hk
  have hok : 1 ≤ n ∧ n ≤ 16 ∧ i < n ∧ m ≤ 256 := by
    unfold okc at hv
    simp only [Bool.and_eq_true, decide_eq_true_eq] at hv
    omega
  obtain ⟨h1, h2, h4, h5⟩ := hok
  have g1 : (1 : Int) ≤ (n : Nat) := by omega
  have g2 : ((n : Nat) : Int) ≤ 16 := by omega
  have g3 : (0 : Int) ≤ ((i : Nat) : Int) := by omega
  have g4 : ((i : Nat) : Int) < (n : Nat) := by omega
  have g5 : ((m : Nat) : Int) ≤ 256 := by omega
  have hlk : pf.length = k := by simpa using hP.1
  have HZ := Lib.hid hz; clear hz
  have HLk := Lib.hid hlk; clear hlk
  have HL := Lib.hid (refLength_val n i h2 (by omega) w)
  by_cases hw : k = want n i
  · have HW := Lib.hid hw; clear hw
    have hne : ((k : Int) != ((want n i : Nat) : Int)) = false := by rw [← HW.out]; simp
    have HP := Lib.hid hP
    have hw40 : k ≤ 40 := by
      have := want_le n i h2
      rw [← HW.out] at this
      exact this
    go_enter Try.func33, Try.ntmps33
    go_wp2_with fail
    refine HL.out.mono ?_
    rintro e w1 ⟨rfl, rfl⟩
    go_wp2_with fail
    refine (refLeaf_val A m c B pg w hA hB (by unfold maxLen; omega)).mono ?_
    rintro e w1 ⟨rfl, hb1⟩
    clear hne HL
    go_wp2_with fail
    go_loopw [1, 2, 11, 12] (fun a b x s wr => ∃ (nk ik u : Nat) (y : UInt64), a = i64 (nk : Nat) ∧ b = i64 (ik : Nat) ∧ x = u64 y ∧ s = i64 (u : Nat) ∧ nk ≤ 16 ∧ ik < 16 ∧ u ≤ k ∧ Hid (up n i (leaf pg) pf = up nk ik y (pf.drop u)) ∧ Hid (u + want nk ik = k) ∧ Below w.heap.size w wr) (fun a _ _ _ _ => (intOf a).toNat)
    case atStart => exact ⟨n, i, 0, leaf pg, rfl, rfl, rfl, rfl, h2, by omega, Nat.zero_le _, by show _ = _; rw [List.drop_zero], by show _ = _; rw [Nat.zero_add, ← HW.out], hb1⟩
    case round =>
      obtain ⟨nk, ik, u, y, rfl, rfl, rfl, rfl, hnk, hik, huk, HU, HQ, hb⟩ := hrel
      by_cases h1 : nk ≤ 1
      · have h1' : ((nk : Nat) : Int) ≤ 1 := by omega
        have hvb : ((y.toNat : Int) == (r.toNat : Int)) = v := by
          rw [← HZ.out, HU.out, up_end h1]
          have hq := HQ.out
          rw [want_one h1] at hq
          rw [if_pos (List.drop_eq_nil_of_le (by rw [HLk.out]; omega)), Bool.eq_iff_iff]
          simp only [beq_iff_eq, decide_eq_true_eq, Option.some.injEq]
          constructor
          · intro h
            exact UInt64.toNat_inj.1 (by omega)
          · intro h
            rw [h]
        have HVB := Lib.hid hvb; clear hvb
        go_wp2_with fail
        go_ret
        exact ⟨rb HVB.out, hb⟩
      · have h1' : (1 : Int) < ((nk : Nat) : Int) := by omega
        by_cases hs : sib ik < nk
        · have hq := HQ.out
          rw [want_more h1, if_pos hs] at hq
          have hu : u < k := by omega
          obtain ⟨b, off, uu, rfl, hbB, hx, hc⟩ := (HP.out.below' hb hB).at_ hu
          have hul : u < pf.length := by rw [HLk.out]; exact hu
          obtain rfl : uu = Go.Proofs.Ythaibmkieflafaa.u64 pf[u] := by rw [List.getElem?_map, List.getElem?_eq_getElem hul] at hx; simpa using hx.symm
          clear hx
          have HU2 : Hid (up n i (leaf pg) pf = up ((nk + 1) / 2) (ik / 2) (mix ik y pf[u]) (pf.drop (u + 1))) := by
            show _ = _
            rw [HU.out, List.drop_eq_getElem_cons hul, up_pair h1 hs]
          have HQ2 : Hid ((u + 1) + want ((nk + 1) / 2) (ik / 2) = k) := by show _ = _; omega
          have HO := Lib.hid (refOther_val ik nk (by omega) (by omega) _ (if_pos hs) wr)
          have hs0 : (0 : Int) ≤ ((sib ik : Nat) : Int) := by omega
          clear hq HU HQ
          generalize pf[u] = dg at *
          by_cases ho : ik % 2 = 1
          · have hsl : ((sib ik : Nat) : Int) < ((ik : Nat) : Int) := by rw [sib_of, if_pos ho]; omega
            have hsl2 : ((sib ik : Nat) : Int) ≤ ((ik : Nat) : Int) := by omega
            have HM : Hid (∀ W, Calls Try.prog 23 #[Go.Proofs.Ythaibmkieflafaa.u64 dg, Go.Proofs.Ythaibmkieflafaa.u64 y] W fun e w' => e = .returned (Go.Proofs.Ythaibmkieflafaa.u64 (mix ik y dg)) ∧ W = w') := fun W => ref_pair_val dg y _ (by unfold mix; rw [if_pos ho]) W
            generalize mix ik y dg = z at *
            go_wp2_with fail
            refine HO.out.mono ?_
            rintro e w2 ⟨rfl, rfl⟩
            go_wp2_with fail
            refine (HM.out _).mono ?_
            rintro e w2 ⟨rfl, rfl⟩
            go_wp2_with fail
            go_roundw
            case rel => exact ⟨(nk + 1) / 2, ik / 2, u + 1, z, by go_num, by go_num, rfl, by go_num, by omega, by omega, by omega, HU2, HQ2, hb⟩
            case measure => simp [intOf]; omega
          · have hsl : ((ik : Nat) : Int) < ((sib ik : Nat) : Int) := by rw [sib_of, if_neg ho]; omega
            have hsl2 : ((ik : Nat) : Int) ≤ ((sib ik : Nat) : Int) := by omega
            have HM : Hid (∀ W, Calls Try.prog 23 #[Go.Proofs.Ythaibmkieflafaa.u64 y, Go.Proofs.Ythaibmkieflafaa.u64 dg] W fun e w' => e = .returned (Go.Proofs.Ythaibmkieflafaa.u64 (mix ik y dg)) ∧ W = w') := fun W => ref_pair_val y dg _ (by unfold mix; rw [if_neg ho]) W
            generalize mix ik y dg = z at *
            go_wp2_with fail
            refine HO.out.mono ?_
            rintro e w2 ⟨rfl, rfl⟩
            go_wp2_with fail
            refine (HM.out _).mono ?_
            rintro e w2 ⟨rfl, rfl⟩
            go_wp2_with fail
            go_roundw
            case rel => exact ⟨(nk + 1) / 2, ik / 2, u + 1, z, by go_num, by go_num, rfl, by go_num, by omega, by omega, by omega, HU2, HQ2, hb⟩
            case measure => simp [intOf]; omega
        · have HU2 : Hid (up n i (leaf pg) pf = up ((nk + 1) / 2) (ik / 2) y (pf.drop u)) := by show _ = _; rw [HU.out, up_none h1 hs]
          have HQ2 : Hid (u + want ((nk + 1) / 2) (ik / 2) = k) := by
            have hq := HQ.out
            rw [want_more h1, if_neg hs, Nat.zero_add] at hq
            exact hq
          have HO := Lib.hid (refOther_val ik nk (by omega) (by omega) _ (if_neg hs) wr)
          have hm1 : (-1 : Int) ≤ ((ik : Nat) : Int) := by omega
          clear HU HQ
          go_wp2_with fail
          refine HO.out.mono ?_
          rintro e w2 ⟨rfl, rfl⟩
          go_wp2_with fail
          go_roundw
          case rel => exact ⟨(nk + 1) / 2, ik / 2, u, y, by go_num, by go_num, rfl, rfl, by omega, by omega, huk, HU2, HQ2, hb⟩
          case measure => simp [intOf]; omega
  · have hvf : v = false := by
      rw [← HZ.out, decide_eq_false_iff_not]
      intro h
      have := up_some n i (leaf pg) pf
      rw [h, HLk.out] at this
      simp at this
      exact hw this
    subst hvf
    have hne : ((k : Int) != ((want n i : Nat) : Int)) = true := by rw [bne_iff_ne]; omega
    go_enter Try.func33, Try.ntmps33
    go_wp2_with fail
    refine HL.out.mono ?_
    rintro e w1 ⟨rfl, rfl⟩
    go_wp2_with fail
    go_ret
    exact ⟨rfl, Below.refl _ _⟩
end Go.Proofs.Ythaibmkieflafaa.Tr
