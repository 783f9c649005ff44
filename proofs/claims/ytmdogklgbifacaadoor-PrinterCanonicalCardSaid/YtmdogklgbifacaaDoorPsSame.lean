/- The reference's comparison of commands. -/
import Derived.Deep.QuietTactic
import Derived.BigQuiet
import Derived.Lib.Strings
import Derived.Test.YtmdogklgbifacaaDoorPsStrip
namespace Go.Proofs.YtmdogklgbifacaaDoor.Ps
open Go.RowKit Go.Proofs.YtmdogklgbifacaaDoor.Lx Go.Proofs.YtmdogklgbifacaaDoor.Pr
set_option linter.unusedVariables false

def keyA (x : Cm) : Int × ByteArray × List Int × Int := (x.kind, x.name, x.ns, x.pos)
/-- Are commands equal? -/
def sameC (a b : List Cm) : Bool := decide (a.map keyA = b.map keyA)
theorem sameC_len {a b : List Cm} (h : a.length ≠ b.length) : sameC a b = false := decide_eq_false (fun e => h (by have := congrArg List.length e; simpa using this))
theorem sameC_at {a b : List Cm} {k : Nat} (h1 : k < a.length) (h2 : k < b.length) (h : keyA a[k] ≠ keyA b[k]) : sameC a b = false := by
  refine decide_eq_false (fun e => h ?_)
  have := congrArg (·[k]?) e
  simpa [h1, h2] using this
theorem same_snoc {a b : List Cm} {k : Nat} (h1 : k < a.length) (h2 : k < b.length) (h : (a.take k).map keyA = (b.take k).map keyA) (he : keyA a[k] = keyA b[k]) : (a.take (k + 1)).map keyA = (b.take (k + 1)).map keyA := by
  rw [List.take_succ_eq_append_getElem h1, List.take_succ_eq_append_getElem h2, List.map_append, List.map_append, h, List.map_cons, List.map_cons, he]
theorem ints_at {W : World} {B n : Nat} {A : Option Addr} {ns : List Int} (h : Rd W B 1 A n (ns.map iv)) {j : Nat} (hj : j < ns.length) (hn : ns.length = n) : ∃ b off, A = some ⟨b, off, none⟩ ∧ W.cell? ⟨b, off + j, none⟩ = some (.int .i64 ns[j]) := by
  obtain ⟨b, off, e, _, hc⟩ := h.2 (by omega)
  exact ⟨b, off, e, hc j _ (by rw [List.getElem?_map, List.getElem?_eq_getElem hj]; rfl)⟩
set_option maxRecDepth 100000 in
set_option maxHeartbeats 4000000 in
theorem same_val (A : Option Addr) (n c : Nat) (xs : List Cm) (B : Option Addr) (m e : Nat) (ys : List Cm) (w : World) (hx : IsCms w A n c xs) (hy : IsCms w B m e ys) :
    Calls Tryd.prog 16 #[.slice A n c, .slice B m e] w fun e w' => e = .returned (.bool (sameC xs ys)) ∧ Below w.heap.size w w' := by
  have hnm : n ≤ maxLen := Nat.le_trans hx.2.2.1 hx.2.2.2.1
  have hmm : m ≤ maxLen := Nat.le_trans hy.2.2.1 hy.2.2.2.1
  unfold maxLen at hnm hmm
  have HX := Lib.hid hx
  have HY := Lib.hid hy
  have HXN := Lib.hid hx.1
  have HYM := Lib.hid hy.1
  have hxn := hx.1
  have hym := hy.1
  clear hx hy
  by_cases hne : n = m
  · have hne' : ((n : Int) != (m : Int)) = false := by rw [bne_eq_false_iff_eq]; omega
    subst hne
    clear hxn hym
    go_enter Tryd.func16, Tryd.ntmps16
    go_wp2_with fail
    go_loopw [5, 6] (fun i z wr => ∃ (k : Nat) (zz : Value), k ≤ n ∧ i = i64 (k : Nat) ∧ z = zz ∧ Hid ((xs.take k).map keyA = (ys.take k).map keyA) ∧ Below w.heap.size w wr) (fun i _ _ => n - (intOf i).toNat)
    case atStart => exact ⟨0, _, Nat.zero_le _, rfl, rfl, Lib.hid rfl, Below.refl _ _⟩
    case round =>
      obtain ⟨k, zz, hk, rfl, rfl, HS, hB⟩ := hrel
      have HB := Lib.hid hB
      clear hB
      by_cases hlt : k < n
      · have hlt' : (k : Int) < (n : Int) := by omega
        have hkx : k < xs.length := by rw [HXN.out]; exact hlt
        have hky : k < ys.length := by rw [HYM.out]; exact hlt
        obtain ⟨b, off, rfl, hb, hc⟩ := rd_el (dec := decC) (s := 4) (fun _ => rfl) (HX.out.up HB.out).2.1 HXN.out hkx
        obtain ⟨b', off', rfl, hb', hc'⟩ := rd_el (dec := decC) (s := 4) (fun _ => rfl) (HY.out.up HB.out).2.1 HYM.out hky
        have HIX := Lib.hid ((HX.out.up HB.out).2.2.2.2 _ (List.getElem_mem hkx))
        have HIY := Lib.hid ((HY.out.up HB.out).2.2.2.2 _ (List.getElem_mem hky))
        have HSA : Hid (keyA xs[k] ≠ keyA ys[k] → sameC xs ys = false) := Lib.hid (sameC_at hkx hky)
        have HSS : Hid (keyA xs[k] = keyA ys[k] → (xs.take (k + 1)).map keyA = (ys.take (k + 1)).map keyA) := Lib.hid (same_snoc hkx hky HS.out)
        obtain ⟨⟨xk, xt, xA, xn, xc, xs1, xp⟩, hxe⟩ : ∃ t, xs[k] = t := ⟨_, rfl⟩
        obtain ⟨⟨yk, yt, yA, yn, yc, ys1, yp⟩, hye⟩ : ∃ t, ys[k] = t := ⟨_, rfl⟩
        rw [hxe] at hc HIX HSA HSS
        rw [hye] at hc' HIY HSA HSS
        have c0 := hc 0 _ rfl
        have c1 := hc 1 _ rfl
        have c2 := hc 2 _ rfl
        have c3 := hc 3 _ rfl
        have d0 := hc' 0 _ rfl
        have d1 := hc' 1 _ rfl
        have d2 := hc' 2 _ rfl
        have d3 := hc' 3 _ rfl
        rw [Nat.add_zero] at c0 d0
        dsimp only at c0 c1 c2 c3 d0 d1 d2 d3
        unfold keyA at HSA HSS
        dsimp only at HSA HSS
        clear hc hc' hxe hye hb hb' hkx hky hlt
        have hxl := HIX.out.len
        have hyl := HIY.out.len
        have hxc := Nat.le_trans HIX.out.nc HIX.out.cm
        have hyc := Nat.le_trans HIY.out.nc HIY.out.cm
        unfold maxLen at hxc hyc
        dsimp only at hxl hyl hxc hyc
        have HXL := Lib.hid hxl
        have HYL := Lib.hid hyl
        obtain ⟨b1, h1⟩ : ∃ v, (xk != yk) = v := ⟨_, rfl⟩
        obtain ⟨b2, h2⟩ : ∃ v, (!(xt.toList == yt.toList)) = v := ⟨_, rfl⟩
        rw [Bool.not_eq_eq_eq_not] at h2
        obtain ⟨b3, h3⟩ : ∃ v, (xp != yp) = v := ⟨_, rfl⟩
        obtain ⟨b4, h4⟩ : ∃ v, ((xn : Int) != (yn : Int)) = v := ⟨_, rfl⟩
        cases b1 with
        | true =>
          have HF : Hid (sameC xs ys = false) := Lib.hid (HSA.out (fun h => by rw [Prod.mk.injEq] at h; rw [bne_iff_ne] at h1; exact h1 h.1))
          clear hxl hyl
          go_wp2_with fail
          go_quiet (fail)
          go_wp2_with fail
          go_ret
          exact ⟨rb HF.out.symm, below_drewN' HB.out _⟩
        | false =>
          have e1 : xk = yk := by rwa [bne_eq_false_iff_eq] at h1
          have E1 := Lib.hid e1
          clear e1
          cases b2 with
          | true =>
            have HF : Hid (sameC xs ys = false) := Lib.hid (HSA.out (fun h => by rw [Prod.mk.injEq, Prod.mk.injEq] at h; rw [h.2.1] at h2; simp at h2))
            clear hxl hyl
            go_wp2_with fail
            go_quiet (fail)
            go_wp2_with fail
            go_ret
            exact ⟨rb HF.out.symm, below_drewN' HB.out _⟩
          | false =>
            have e2 : xt = yt := bytes_of_list (by simpa using h2)
            have E2 := Lib.hid e2
            clear e2
            cases b3 with
            | true =>
              have HF : Hid (sameC xs ys = false) := Lib.hid (HSA.out (fun h => by rw [Prod.mk.injEq, Prod.mk.injEq, Prod.mk.injEq] at h; rw [bne_iff_ne] at h3; exact h3 h.2.2.2))
              clear hxl hyl
              go_wp2_with fail
              go_quiet (fail)
              go_wp2_with fail
              go_ret
              exact ⟨rb HF.out.symm, below_drewN' HB.out _⟩
            | false =>
              have e3 : xp = yp := by rwa [bne_eq_false_iff_eq] at h3
              have E3 := Lib.hid e3
              clear e3
              cases b4 with
              | true =>
                have HF : Hid (sameC xs ys = false) := Lib.hid (HSA.out (fun h => by rw [Prod.mk.injEq, Prod.mk.injEq, Prod.mk.injEq] at h; rw [bne_iff_ne] at h4; rw [h.2.2.1] at hxl; omega))
                clear hxl hyl
                go_wp2_with fail
                go_quiet (fail)
                go_wp2_with fail
                go_ret
                exact ⟨rb HF.out.symm, below_drewN' HB.out _⟩
              | false =>
                have e4 : xn = yn := by rw [bne_eq_false_iff_eq] at h4; omega
                subst e4
                clear hxl hyl hyc
                go_wp2_with fail
                go_quiet (fail)
                go_wp2_with fail
                obtain ⟨w2, hw2⟩ : ∃ w2, wr.drewN nq = w2 := ⟨_, rfl⟩
                have hB2 : Below wr.heap.size wr w2 := by rw [← hw2]; exact below_drewN' (Below.refl _ _) _
                rw [hw2]
                have HB2 := Lib.hid (below_trans' HB.out hB2)
                have g2 : w2.cell? ⟨b, off + k * 4 + 2, none⟩ = some (.slice xA xn xc) := (hB2.cell (Lx.cell_lt c2)).trans c2
                have i2 : w2.cell? ⟨b', off' + k * 4 + 2, none⟩ = some (.slice yA xn yc) := (hB2.cell (Lx.cell_lt d2)).trans d2
                have HIX2 := Lib.hid (HIX.out.up hB2)
                have HIY2 := Lib.hid (HIY.out.up hB2)
                clear hw2 hB2 c0 c1 c2 c3 d0 d1 d2 d3 HIX HIY
                go_loopw [6] (fun i wr => ∃ j : Nat, j ≤ xn ∧ i = i64 (j : Nat) ∧ Hid (xs1.take j = ys1.take j) ∧ Below w2.heap.size w2 wr) (fun i _ => xn - (intOf i).toNat)
                case atStart => exact ⟨0, Nat.zero_le _, rfl, Lib.hid rfl, Below.refl _ _⟩
                case round =>
                  obtain ⟨j, hj, rfl, HJ, hB3⟩ := hrel
                  have HB3 := Lib.hid hB3
                  clear hB3
                  have g3 : wr.cell? ⟨b, off + k * 4 + 2, none⟩ = some (.slice xA xn xc) := (HB3.out.cell (Lx.cell_lt g2)).trans g2
                  have i3 : wr.cell? ⟨b', off' + k * 4 + 2, none⟩ = some (.slice yA xn yc) := (HB3.out.cell (Lx.cell_lt i2)).trans i2
                  by_cases hjl : j < xn
                  · have hjl' : (j : Int) < (xn : Int) := by omega
                    have hjx : j < xs1.length := by rw [HXL.out]; exact hjl
                    have hjy : j < ys1.length := by rw [HYL.out]; exact hjl
                    obtain ⟨p, po, rfl, u1⟩ := ints_at (HIX2.out.up HB3.out).rd hjx HXL.out
                    obtain ⟨q, qo, rfl, u2⟩ := ints_at (HIY2.out.up HB3.out).rd hjy HYL.out
                    have HNE : Hid (xs1[j] ≠ ys1[j] → xs1 ≠ ys1) := Lib.hid (fun h e => h (by subst e; rfl))
                    have HTK : Hid (xs1[j] = ys1[j] → xs1.take (j + 1) = ys1.take (j + 1)) := Lib.hid (fun h => by rw [List.take_succ_eq_append_getElem hjx, List.take_succ_eq_append_getElem hjy, HJ.out, h])
                    obtain ⟨vx, hvx⟩ : ∃ v, xs1[j] = v := ⟨_, rfl⟩
                    obtain ⟨vy, hvy⟩ : ∃ v, ys1[j] = v := ⟨_, rfl⟩
                    rw [hvx] at u1 HNE HTK
                    rw [hvy] at u2 HNE HTK
                    obtain ⟨b5, h5⟩ : ∃ v, (vx != vy) = v := ⟨_, rfl⟩
                    clear hjx hjy hvx hvy hjl
                    cases b5 with
                    | true =>
                      have HF : Hid (sameC xs ys = false) := Lib.hid (HSA.out (fun h => by rw [Prod.mk.injEq, Prod.mk.injEq, Prod.mk.injEq] at h; rw [bne_iff_ne] at h5; exact HNE.out h5 h.2.2.1))
                      go_wp2_with fail
                      go_quiet (fail)
                      go_wp2_with fail
                      go_ret
                      exact ⟨rb HF.out.symm, below_drewN' (below_trans' HB2.out HB3.out) _⟩
                    | false =>
                      have HT2 := Lib.hid (HTK.out (by rwa [bne_eq_false_iff_eq] at h5))
                      go_wp2_with fail
                      go_quiet (fail)
                      go_wp2_with fail
                      go_roundw
                      case rel => exact ⟨j + 1, by omega, by go_num, HT2, below_drewN' HB3.out _⟩
                      case measure => simp [intOf]; omega
                  · have hjl' : ¬ (j : Int) < (xn : Int) := by omega
                    obtain rfl : j = xn := by omega
                    have HEQ : Hid (xs1 = ys1) := Lib.hid (by
                      have := HJ.out
                      rwa [List.take_of_length_le (by rw [HXL.out]; exact Nat.le_refl _), List.take_of_length_le (by rw [HYL.out]; exact Nat.le_refl _)] at this)
                    have HK := Lib.hid (HSS.out (by rw [E1.out, E2.out, E3.out, HEQ.out]))
                    go_wp2_with fail
                    go_roundw
                    case rel => exact ⟨k + 1, _, by omega, by go_num, rfl, HK, below_trans' HB2.out HB3.out⟩
                    case measure => simp [intOf]; omega
      · have hge : ¬ (k : Int) < (n : Int) := by omega
        obtain rfl : k = n := by omega
        have HS2 : Hid (sameC xs ys = true) := Lib.hid (by
          have := HS.out
          rw [List.take_of_length_le (by rw [HXN.out]; exact Nat.le_refl _), List.take_of_length_le (by rw [HYM.out]; exact Nat.le_refl _)] at this
          exact decide_eq_true this)
        go_wp2_with fail
        go_ret
        exact ⟨rb HS2.out.symm, HB.out⟩
  · have hne' : ((n : Int) != (m : Int)) = true := by rw [bne_iff_ne]; omega
    have HF := Lib.hid (sameC_len (a := xs) (b := ys) (by omega))
    clear hne hxn hym
    go_enter Tryd.func16, Tryd.ntmps16
    go_wp2_with fail
    go_ret
    exact ⟨rb HF.out.symm, Below.refl _ _⟩
end Go.Proofs.YtmdogklgbifacaaDoor.Ps
