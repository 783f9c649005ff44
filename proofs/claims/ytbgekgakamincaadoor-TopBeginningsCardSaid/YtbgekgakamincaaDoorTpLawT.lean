/- The walk of the statement on the first commands of a script. -/
import Derived.Deep.RegionHeld3
import Derived.Test.YtbgekgakamincaaDoorTpHead
namespace Go.Proofs.YtbgekgakamincaaDoor.Tp
open Go.RowKit Go.Proofs.YtbgekgakamincaaDoor.Lx Go.Proofs.YtbgekgakamincaaDoor.Pr Go.Proofs.YtbgekgakamincaaDoor.Ps
set_option linter.unusedVariables false

theorem take_valid {xs : List Cm} (hv : validB xs = true) (k : Nat) : validB (xs.take k) = true := by
  obtain ⟨h1, h2⟩ := valid_all hv
  unfold validB
  rw [Bool.and_eq_true]
  exact ⟨decide_eq_true (by rw [List.length_take]; omega), List.all_eq_true.2 (fun x hx => h2 x (List.mem_of_mem_take hx))⟩
theorem take_out (xs : List Cm) (k : Nat) : ∃ r, outL xs = outL (xs.take k) ++ r ∧ tokL (xs.take k) ≤ tokL xs := by
  refine ⟨outL (xs.drop k), ?_, ?_⟩
  · unfold outL; rw [← List.flatMap_append, List.take_append_drop]
  · have := tokL_append (xs.take k) (xs.drop k)
    rw [List.take_append_drop] at this
    omega
/-- The text of the first commands of a script with a canonical text. -/
theorem can_take {l : List UInt8} {T : ByteArray} (h : CanOk l T) {xs : List Cm} (hx : xs.map keyQ = (PARSE l).1.map keyR) (k : Nat) :
    ∃ U : ByteArray, printL (xs.take k) = (U.data.toList, 0) ∧ U.size ≤ T.size ∧ U.size ≤ 8000 ∧ strT T U.size = U ∧ ∃ cs, PARSE U.data.toList = (cs, []) ∧ ∀ zs : List Cm, zs.map keyQ = cs.map keyR → zs.map keyC = (xs.take k).map keyC := by
  obtain ⟨_, _, x0, k0, v0, t0, o8, t2⟩ := h
  have e1 : xs.map keyC = x0.map keyC := by rw [keyC_of_R hx, keyC_of_R k0]
  have e2 : (xs.take k).map keyC = (x0.take k).map keyC := by rw [List.map_take, List.map_take, e1]
  obtain ⟨r, hr, htk⟩ := take_out x0 k
  have hl : (outL (x0.take k)).length ≤ (outL x0).length := by rw [hr, List.length_append]; omega
  have hv := take_valid v0 k
  have hTs : T.data.toList.length = T.size := Array.length_toList
  refine ⟨⟨(outL (x0.take k)).toArray⟩, ?_, ?_, ?_, ?_, cmdsAt 0 (x0.take k), parse_out hv (by omega) (by omega), fun zs hz => ?_⟩
  · rw [print_key e2, print_law]
    rcases rprint_cases (x0.take k) with ⟨q, _⟩ | ⟨_, q, _⟩ | ⟨_, _, _, q⟩
    · rw [hv] at q; cases q
    · omega
    · exact q
  · show (outL (x0.take k)).toArray.size ≤ _
    rw [List.size_toArray, ← hTs, t0]; exact hl
  · show (outL (x0.take k)).toArray.size ≤ _
    rw [List.size_toArray]; omega
  · unfold strT
    rw [t0, hr]
    show (⟨((outL (x0.take k) ++ r).take (outL (x0.take k)).toArray.size).toArray⟩ : ByteArray) = _
    rw [List.size_toArray, List.take_left]
  · rw [keys_back hv hz, e2]
set_option maxRecDepth 100000 in
set_option maxHeartbeats 4000000 in
theorem topBeginnings_walk (s : ByteArray) (x : Int) (w : World) (hs : s.size ≤ maxLen) (_hz : s.size ≤ 140737488351232) (hx : (Lit.int .u16 x).wf = true) (hv : VarP w) :
    Calls Tryd.prog 5 #[.string s, .int .u16 x] w fun e w' => e = .returned (.bool true) ∧ Below w.heap.size w w' := by
  obtain ⟨x0, x1⟩ := bounds_u16 hx
  have HH := Lib.hid (thead_val w hv)
  have HV := Lib.hid hv
  have HC := Lib.hid (fun W (q : Below w.heap.size w W) => canon_val s hs W (HV.out.up q))
  have HP := Lib.hid (fun W (q : Below w.heap.size w W) => parse_val s hs W (HV.out.up q).err)
  obtain ⟨l, hl⟩ : ∃ l, s.data.toList = l := ⟨_, rfl⟩
  rw [hl] at HC HP
  clear hv hs _hz hx hl
  go_enter Tryd.func5, Tryd.ntmps5
  go_wp2_with fail
  refine HH.out.mono ?_
  rintro e1 w1 ⟨rfl, hb1⟩
  have HB1 := Lib.hid hb1
  clear hb1 HH
  go_wp2_with fail
  refine (HC.out _ HB1.out).mono ?_
  rintro e2 w2 ⟨T, ok1, rfl, hok1, hb2⟩
  have HB2 := Lib.hid (below_trans' HB1.out hb2)
  have HO1 := Lib.hid hok1
  clear hb2 hok1
  cases ok1 with
  | false =>
    go_wp2_with fail
    go_ret
    exact ⟨rfl, HB2.out⟩
  | true =>
    have HK1 := Lib.hid (HO1.out rfl)
    clear HO1
    go_wp2_with fail
    refine (HP.out _ HB2.out).mono ?_
    rintro e4 w4 ⟨A4, n4, c4, xs, D4, q4, d4, ds, rfl, hx, hd, hb4, hk4, hds⟩
    have HB4 := Lib.hid (below_trans' HB2.out hb4)
    have HX := Lib.hid hx
    have hn4 : n4 ≤ 300 := by have h1 := key_len hk4; rw [hx.1] at h1; have := parse_300' l; omega
    obtain ⟨k, hk⟩ : ∃ k : Nat, k = x.toNat % (n4 + 1) := ⟨_, rfl⟩
    have hkn : k ≤ n4 := by have : k < n4 + 1 := by rw [hk]; exact Nat.mod_lt _ (by omega)
                            omega
    have em : x.tmod ((n4 : Int) + 1) = (k : Int) := by
      rw [show (n4 : Int) + 1 = ((n4 + 1 : Nat) : Int) by omega, hk, Int.tmod_eq_emod_of_nonneg x0, Int.natCast_emod, Int.toNat_of_nonneg x0]
    have hm0 : ¬ (n4 : Int) + 1 = 0 := by omega
    have hms := cms_to' A4 n4 c4 k (Nat.le_trans hkn hx.2.2.1)
    have HXK := Lib.hid (cms_take hx hkn)
    obtain ⟨U, u1, u2, u3, u4, cs, u5, u6⟩ := can_take HK1.out hk4 k
    have HPR := Lib.hid (print_val _ _ _ _ w4 HXK.out (HV.out.up HB4.out))
    rw [u1] at HPR
    dsimp only at HPR
    have HPU := Lib.hid (fun W (q : Below w.heap.size w W) => parse_isT U (by unfold maxLen; omega) _ u5 W (HV.out.up q).err)
    have hct := cut_to T U.size u2
    rw [u4] at hct
    have hul : ¬ (T.size : Int) < (U.size : Int) := by omega
    have HU6 := Lib.hid u6
    clear hx hd hb4 hk4 hds hk u1 u2 u3 u4 u5 u6
    go_wp2_with fail
    refine HPR.out.mono ?_
    rintro e5 w5 ⟨rfl, hb5⟩
    have HB5 := Lib.hid (below_trans' HB4.out hb5)
    have HXK5 := Lib.hid (HXK.out.up hb5)
    clear hb5
    go_wp2_with fail
    refine (HPU.out _ HB5.out).mono ?_
    rintro e6 w6 ⟨A6, n6, c6, zs, D6, q6, d6, es, rfl, hz, he, hb6, hk6, hes⟩
    dsimp only at hk6 hes
    subst hes
    have hq6 : q6 = 0 := he.1.symm
    subst hq6
    have HB6 := Lib.hid (below_trans' HB5.out hb6)
    have HXK6 := Lib.hid (HXK5.out.up hb6)
    have HZ6 := Lib.hid hz
    have hzk := HU6.out zs hk6
    have hn6 : n6 ≤ 100000 := by
      have h1 := congrArg List.length hzk
      rw [List.length_map, List.length_map, hz.1, List.length_take] at h1
      omega
    have HSB := Lib.hid (same_bare zs (xs.take k))
    rw [decide_eq_true hzk] at HSB
    have HSZ := Lib.hid (fun W (q : Below w6.heap.size w6 W) => strip_val A6 n6 c6 zs W (HZ6.out.up q) hn6)
    have HSX := Lib.hid (fun W (q : Below w6.heap.size w6 W) => strip_val A4 k c4 (xs.take k) W (HXK6.out.up q) (by omega))
    have HBd := Lib.hid ((Below.refl w6.heap.size w6).drew)
    clear hz he hb6 hk6 hzk
    go_wp2_with fail
    go_region_held3 (fun _ => True) (trivial) (first | (go_at_call 11; refine (HSX.out _ HBz.out).mono ?_; rintro g2 wb ⟨AX, cx, rfl, hix, hbx⟩; have HIXf := Lib.hid hix; have HIZf := Lib.hid (HIZ.out.up hbx); have HBf := Lib.hid (below_trans' HBz.out hbx); clear hix hbx) | (go_at_call 11; refine (HSZ.out _ HBx.out).mono ?_; rintro g2 wb ⟨AZ, cz, rfl, hiz, hbz⟩; have HIZf := Lib.hid hiz; have HIXf := Lib.hid (HIX.out.up hbz); have HBf := Lib.hid (below_trans' HBx.out hbz); clear hiz hbz) | (go_at_call 11; refine (HSZ.out _ HBd.out).mono ?_; rintro g1 wa ⟨AZ, cz, rfl, hiz, hbz⟩; have HIZ := Lib.hid hiz; have HBz := Lib.hid (below_trans' HBd.out hbz); clear hiz hbz) | (go_at_call 11; refine (HSX.out _ HBd.out).mono ?_; rintro g1 wa ⟨AX, cx, rfl, hix, hbx⟩; have HIX := Lib.hid hix; have HBx := Lib.hid (below_trans' HBd.out hbx); clear hix hbx) | (go_at_call 10; have HSM := Lib.hid (same_val _ _ _ _ _ _ _ _ _ HIZf.out HIXf.out); rw [HSB.out] at HSM; refine HSM.out.mono ?_; rintro g3 wm ⟨rfl, hbm⟩; have HBm := Lib.hid (below_trans' HBf.out hbm); clear hbm) | fail)
    all_goals
      go_wp2_with fail
      go_ret
      exact ⟨rfl, below_trans' HB6.out HBm.out⟩
end Go.Proofs.YtbgekgakamincaaDoor.Tp
