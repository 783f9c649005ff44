/- The reference's Alike. -/
import Derived.Deep.QuietTactic
import Derived.BigQuiet
import Derived.Lib.Strings
import Derived.Test.YtbgekgakamincaaDoorLxC
namespace Go.Proofs.YtbgekgakamincaaDoor.Lx
open Go.RowKit
set_option linter.unusedVariables false

theorem alikeB_len : ∀ (xs ys : List Tok), xs.length ≠ ys.length → alikeB xs ys = false
  | [], [], h => absurd rfl h
  | [], _ :: _, _ => rfl
  | _ :: _, [], _ => rfl
  | x :: xs, y :: ys, h => by
    simp only [alikeB]
    rw [alikeB_len xs ys (by simpa using h), Bool.and_false]
theorem alikeB_take : ∀ (xs ys : List Tok) (k : Nat) (h : k < xs.length) (h' : k < ys.length), alikeB (xs.take k) (ys.take k) = true → likeT xs[k] ys[k] = false → alikeB xs ys = false
  | x :: xs, y :: ys, 0, h, h', _, e => by
    simp only [List.getElem_cons_zero] at e
    simp only [alikeB, e, Bool.false_and]
  | x :: xs, y :: ys, k + 1, h, h', hs, e => by
    simp only [List.take_succ_cons, alikeB, Bool.and_eq_true] at hs
    simp only [List.getElem_cons_succ] at e
    simp only [alikeB]
    rw [alikeB_take xs ys k (by simpa using h) (by simpa using h') hs.2 e, Bool.and_false]
theorem alikeB_snoc : ∀ (xs ys : List Tok) (k : Nat) (h : k < xs.length) (h' : k < ys.length), alikeB (xs.take k) (ys.take k) = true → likeT xs[k] ys[k] = true → alikeB (xs.take (k + 1)) (ys.take (k + 1)) = true
  | x :: xs, y :: ys, 0, h, h', _, e => by
    simp only [List.getElem_cons_zero] at e
    simp only [List.take_succ_cons, List.take_zero, alikeB, e, Bool.true_and]
  | x :: xs, y :: ys, k + 1, h, h', hs, e => by
    simp only [List.take_succ_cons, alikeB, Bool.and_eq_true] at hs
    simp only [List.getElem_cons_succ] at e
    have := alikeB_snoc xs ys k (by simpa using h) (by simpa using h') hs.2 e
    rw [List.take_succ_cons, List.take_succ_cons]
    simp only [alikeB, hs.1, this, Bool.true_and]
set_option maxRecDepth 100000 in
set_option maxHeartbeats 2000000 in
theorem alike_val (A : Option Addr) (n c : Nat) (xs : List Tok) (B : Option Addr) (m e : Nat) (ys : List Tok) (w : World) (hx : Toks w A n c xs) (hy : Toks w B m e ys) :
    Calls Tryd.prog 12 #[.slice A n c, .slice B m e] w fun e w' => e = .returned (.bool (alikeB xs ys)) ∧ Below w.heap.size w w' := by
  obtain ⟨hX, hxn, hnc, hcm⟩ := hx
  obtain ⟨hY, hym, hme, hem⟩ := hy
  have hnm : n ≤ maxLen := Nat.le_trans hnc hcm
  have hmm : m ≤ maxLen := Nat.le_trans hme hem
  unfold maxLen at hnm hmm
  clear hnc hcm hme hem
  have HX := Lib.hid hX
  have HY := Lib.hid hY
  have HXN := Lib.hid hxn
  have HYM := Lib.hid hym
  clear hX hY
  by_cases hne : n = m
  · have hne' : ((n : Int) != (m : Int)) = false := by rw [bne_eq_false_iff_eq]; omega
    subst hne
    clear hxn hym
    go_enter Tryd.func12, Tryd.ntmps12
    go_wp2_with fail
    go_loopw [5] (fun i wr => ∃ k : Nat, k ≤ n ∧ i = i64 (k : Nat) ∧ Hid (alikeB (xs.take k) (ys.take k) = true) ∧ Below w.heap.size w wr) (fun i _ => n - (intOf i).toNat)
    case atStart => exact ⟨0, Nat.zero_le _, rfl, Lib.hid rfl, Below.refl _ _⟩
    case round =>
      obtain ⟨k, hk, rfl, HS, hB⟩ := hrel
      by_cases hlt : k < n
      · have hkx : k < xs.length := by rw [HXN.out]; exact hlt
        have hky : k < ys.length := by rw [HYM.out]; exact hlt
        obtain ⟨b, off, rfl, hb, hc⟩ := rd_el (dec := decT) (s := 4) (fun _ => rfl) (HX.out.below hB) HXN.out hkx
        obtain ⟨b', off', rfl, hb', hc'⟩ := rd_el (dec := decT) (s := 4) (fun _ => rfl) (HY.out.below hB) HYM.out hky
        obtain ⟨⟨xk, xt, xn, xp⟩, hxe⟩ : ∃ t, xs[k] = t := ⟨_, rfl⟩
        obtain ⟨⟨yk, yt, yn, yp⟩, hye⟩ : ∃ t, ys[k] = t := ⟨_, rfl⟩
        rw [hxe] at hc
        rw [hye] at hc'
        have c0 := hc 0 _ rfl
        have c1 := hc 1 _ rfl
        have c2 := hc 2 _ rfl
        have c3 := hc 3 _ rfl
        have d0 := hc' 0 _ rfl
        have d1 := hc' 1 _ rfl
        have d2 := hc' 2 _ rfl
        have d3 := hc' 3 _ rfl
        rw [Nat.add_zero] at c0 d0
        dsimp only at c0 c1 c2 c3 d0 d1 d2 d3
        clear hc hc'
        have HXE := Lib.hid hxe
        have HYE := Lib.hid hye
        clear hxe hye
        obtain ⟨b1, h1⟩ : ∃ v, ((xk : Int) != (yk : Int)) = v := ⟨_, rfl⟩
        obtain ⟨b2, h2⟩ : ∃ v, (!(xt.toList == yt.toList)) = v := ⟨_, rfl⟩
        rw [Bool.not_eq_eq_eq_not] at h2
        obtain ⟨b3, h3⟩ : ∃ v, ((xn : Int) != (yn : Int)) = v := ⟨_, rfl⟩
        cases b1 with
        | true =>
          have HF : Hid (alikeB xs ys = false) := Lib.hid (alikeB_take xs ys k hkx hky HS.out (by
            rw [HXE.out, HYE.out]
            unfold likeT
            simp only [Bool.and_eq_false_iff, decide_eq_false_iff_not]
            exact .inl (fun h => by rw [bne_iff_ne] at h1; omega)))
          go_wp2_with fail
          go_quiet (fail)
          go_wp2_with fail
          go_ret
          exact ⟨rb HF.out.symm, below_drewN' hB _⟩
        | false =>
          have e1 : xk = yk := by rw [bne_eq_false_iff_eq] at h1; omega
          have E1 := Lib.hid e1
          clear e1
          cases b2 with
          | true =>
            have HF : Hid (alikeB xs ys = false) := Lib.hid (alikeB_take xs ys k hkx hky HS.out (by
              rw [HXE.out, HYE.out]
              unfold likeT
              simp only [Bool.and_eq_false_iff, decide_eq_false_iff_not]
              exact .inr (.inl (fun h => by subst h; simp at h2))))
            go_wp2_with fail
            go_quiet (fail)
            go_wp2_with fail
            go_ret
            exact ⟨rb HF.out.symm, below_drewN' hB _⟩
          | false =>
            have e2 : xt = yt := bytes_of_list (by simpa using h2)
            have E2 := Lib.hid e2
            clear e2
            cases b3 with
            | true =>
              have HF : Hid (alikeB xs ys = false) := Lib.hid (alikeB_take xs ys k hkx hky HS.out (by
                rw [HXE.out, HYE.out]
                unfold likeT
                simp only [Bool.and_eq_false_iff, decide_eq_false_iff_not]
                exact .inr (.inr (fun h => by rw [bne_iff_ne] at h3; omega))))
              go_wp2_with fail
              go_quiet (fail)
              go_wp2_with fail
              go_ret
              exact ⟨rb HF.out.symm, below_drewN' hB _⟩
            | false =>
              have e3 : xn = yn := by rw [bne_eq_false_iff_eq] at h3; omega
              have E3 := Lib.hid e3
              clear e3
              have HF : Hid (alikeB (xs.take (k + 1)) (ys.take (k + 1)) = true) := Lib.hid (alikeB_snoc xs ys k hkx hky HS.out (by
                rw [HXE.out, HYE.out]
                unfold likeT
                simp [E1.out, E2.out, E3.out]))
              go_wp2_with fail
              go_quiet (fail)
              go_wp2_with fail
              go_roundw
              case rel => exact ⟨k + 1, by omega, by go_num, HF, below_drewN' hB _⟩
              case measure => simp [intOf]; omega
      · have hge : ¬ (k : Int) < (n : Int) := by omega
        obtain rfl : k = n := by omega
        have HS2 : Hid (alikeB xs ys = true) := Lib.hid (by
          have := HS.out
          rwa [List.take_of_length_le (by rw [HXN.out]; exact Nat.le_refl _), List.take_of_length_le (by rw [HYM.out]; exact Nat.le_refl _)] at this)
        go_wp2_with fail
        go_ret
        exact ⟨rb HS2.out.symm, hB⟩
  · have hne' : ((n : Int) != (m : Int)) = true := by rw [bne_iff_ne]; omega
    have HF := Lib.hid (alikeB_len  xs ys (by omega))
    clear hne hxn hym
    go_enter Tryd.func12, Tryd.ntmps12
    go_wp2_with fail
    go_ret
    exact ⟨rb HF.out.symm, Below.refl _ _⟩
end Go.Proofs.YtbgekgakamincaaDoor.Lx
