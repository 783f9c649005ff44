/- The walk of the statement on a script's commands: valid, in order, each at its first word. -/
import Derived.Test.YtjfcdfhcmkdicaaDoorPsVal
import Derived.Test.YtjfcdfhcmkdicaaDoorPsRStrip
namespace Go.Proofs.YtjfcdfhcmkdicaaDoor.Ps
open Go.RowKit Go.Proofs.YtjfcdfhcmkdicaaDoor.Lx Go.Proofs.YtjfcdfhcmkdicaaDoor.Pr
set_option linter.unusedVariables false

set_option maxRecDepth 100000 in
set_option maxHeartbeats 4000000 in
theorem parserCommands_walk (s : ByteArray) (w : World) (hs : s.size ≤ maxLen) (_hz : s.size ≤ 140737488351232) (hv : Lx.Vars w) :
    Calls Tryd.prog 3 #[.string s] w fun e w' => e = .returned (.bool true) ∧ Below w.heap.size w w' := by
  have HH := Lib.hid (qhead_val w hv)
  have HV := Lib.hid hv
  have HP := Lib.hid (fun W (q : Below w.heap.size w W) => parse_val s hs W (HV.out.up q))
  have hsl := size_list s
  clear hv hs _hz
  go_enter Tryd.func3, Tryd.ntmps3
  go_wp2_with fail
  refine HH.out.mono ?_
  rintro e1 w1 ⟨rfl, hb1⟩
  have HB1 := Lib.hid hb1
  clear hb1 HH
  by_cases hlong : 8010 < s.size
  · have hlong' : (8010 : Int) < (s.size : Int) := by omega
    go_wp2_with fail
    go_ret
    exact ⟨rfl, HB1.out⟩
  have hlong' : ¬ (8010 : Int) < (s.size : Int) := by omega
  go_wp2_with fail
  refine (HP.out _ HB1.out).mono ?_
  rintro e3 w3 ⟨B, m, d, xs, D, q, dc, ds, rfl, hx, hd, hb3, hk, hds⟩
  have HB3 := Lib.hid (below_trans' HB1.out hb3)
  have HX := Lib.hid hx
  have HN := Lib.hid hx.1
  have HK := Lib.hid hk
  have hdl := hd.1
  obtain ⟨pd1, pd2, _⟩ := parse_dgs s.data.toList
  rw [← hds] at pd1 pd2
  clear hx hd hb3 hk
  by_cases hg : ds = []
  · have hq : q = 0 := by rw [← hdl, hg]; rfl
    subst hq
    have HG : Hid ((PARSE s.data.toList).2 = []) := Lib.hid (by rw [← hds, hg])
    have HKL := Lib.hid (key_len HK.out)
    have hm3 : m ≤ 300 := by have := (good_reads HG.out).2.2; have h1 := HKL.out; rw [HN.out] at h1; omega
    have HPP := Lib.hid (good_pos HG.out).1
    have HPT := Lib.hid (good_pos HG.out).2
    have HVX := Lib.hid (valid_of HK.out HG.out)
    clear hg hds hdl pd1 pd2
    go_wp2_with fail
    go_loopw [37, 6] (fun i o wr => ∃ (k : Nat) (L : Int), k ≤ m ∧ i = i64 (k : Nat) ∧ o = i64 L ∧ Hid (∀ h : k < xs.length, L < xs[k].pos) ∧ Hid (Below w3.heap.size w3 wr)) (fun i _ _ => m - (intOf i).toNat)
    case atStart =>
      refine ⟨0, -1, Nat.zero_le _, rfl, rfl, Lib.hid (fun h => ?_), Lib.hid (Below.refl _ _)⟩
      have := (key_at HK.out h (by rw [← HKL.out]; exact h)).2
      omega
    case round =>
      obtain ⟨k, L, hk, rfl, rfl, HL, HB⟩ := hrel
      by_cases hlt : k < m
      · have hlt' : (k : Int) < (m : Int) := by omega
        have hkl : k < xs.length := by rw [HN.out]; exact hlt
        have hkc : k < (PARSE s.data.toList).1.length := by rw [← HKL.out]; exact hkl
        obtain ⟨b0, off, rfl, hb0, hc⟩ := rd_el (dec := decC) (s := 4) (fun _ => rfl) (HX.out.up HB.out).2.1 HN.out hkl
        obtain ⟨y1, y2⟩ := key_at HK.out hkl hkc
        obtain ⟨a1, a2, a3, a4⟩ := HPT.out _ (List.getElem_mem hkc)
        have hL := HL.out hkl
        have hnext : ∀ h : k + 1 < xs.length, xs[k].pos < xs[k + 1].pos := by
          intro h
          have h' : k + 1 < (PARSE s.data.toList).1.length := by rw [← HKL.out]; exact h
          have z := (key_at HK.out h h').2
          have := List.pairwise_iff_getElem.1 HPP.out k (k + 1) (by rw [List.length_map]; exact hkc) (by rw [List.length_map]; exact h') (by omega)
          rw [List.getElem_map, List.getElem_map] at this
          omega
        obtain ⟨⟨K, pm, pn, p⟩, hp⟩ : ∃ c, (PARSE s.data.toList).1[k] = c := ⟨_, rfl⟩
        rw [hp] at y1 y2 a1 a2 a3 a4
        obtain ⟨⟨xk, xm, xA, xn, xc, xl, xp⟩, hx⟩ : ∃ x, xs[k] = x := ⟨_, rfl⟩
        rw [hx] at hc y1 y2 hL hnext
        dsimp only at y1 y2 a1 a2 a3 a4 hL hnext
        subst y1 y2
        have c0 := hc 0 _ rfl
        have c1 := hc 1 _ rfl
        have c2 := hc 2 _ rfl
        have c3 := hc 3 _ rfl
        rw [Nat.add_zero] at c0
        dsimp only at c0 c1 c2 c3
        obtain ⟨hz, ps, hps⟩ := part_head a3 a4
        have HF := Lib.hid (fun W => form_val (K : Nat) W)
        have HQ := Lib.hid (fun W => parts_val (formB (K : Nat)) hz W)
        rw [hps] at HQ
        obtain ⟨F, hF⟩ : ∃ F : ByteArray, (⟨(headW K).toArray⟩ : ByteArray) = F := ⟨_, rfl⟩
        have hFl : F.data.toList = headW K := by rw [← hF]
        have hFs : (headW K).length = F.size := by rw [← hFl]; exact Array.length_toList
        have hsv : strV (headW K) = .string F := by rw [← hF]; rfl
        rw [hsl, hFs] at a1
        rw [hFs] at a2
        have hcut := slice_str s p F.size a1
        have hext : s.extract p (p + F.size) = F := by rw [extract_eq, a2, ← hFl]
        rw [hext] at hcut
        have hsum : IntKind.i64.wrap ((p : Int) + (F.size : Int)) = (p : Int) + (F.size : Int) := Go.IntWalk.i64_in _ (by omega)
        have f1 : ¬ (p : Int) ≤ L := by omega
        have f2 : ¬ (s.size : Int) < (p : Int) + (F.size : Int) := by omega
        have HNX := Lib.hid hnext
        have BT := Lib.hid (Blk.new wr 29 #[.int .i64 (K : Nat), .string xm, .slice xA xn xc, .int .i64 (p : Nat)])
        have HSV := Lib.hid hsv
        clear hb0 hc hx hp hL hnext hkl hkc a2 a3 a4 hz hps hF hFl hFs hsv hext
        go_wp2_with fail
        refine (HF.out _).mono ?_
        rintro e4 w4 ⟨rfl, rfl⟩
        go_wp2_with fail
        refine (HQ.out _).mono ?_
        rintro e5 w5 ⟨SA, sn, sc, rfl, hst, hb5⟩
        have BT5 := Lib.hid (BT.out.up' hb5)
        have e3 : w5.cell? ⟨wr.heap.size, 3, none⟩ = some (.int .i64 (p : Nat)) := BT5.out.cell 3
        have HB5 := Lib.hid (below_trans' HB.out (below_trans' ((Below.refl _ _).alloc (Nat.le_refl _) _) hb5))
        have hsn : 0 < sn := by rw [← hst.2]; exact Nat.succ_pos _
        have hsn' : (0 : Int) < (sn : Int) := by omega
        obtain ⟨sb, so, rfl, hsb, hsc⟩ := (Rd.of_own hst.1).2 hsn
        have s0 : w5.cell? ⟨sb, so, none⟩ = some (.string F) := hsc 0 _ (by rw [← HSV.out]; rfl)
        clear hst hb5 hsn hsb hsc
        go_wp2_with fail
        refine ⟨⟨k + 1, (p : Int), by omega, rfl, rfl, HNX, HB5⟩, ?_⟩
        simp only [intOf]; omega
      · have hlt' : ¬ (k : Int) < (m : Int) := by omega
        have HBr := Lib.hid (below_trans' HB3.out HB.out)
        have HXr := Lib.hid (HX.out.up HB.out)
        have HS1 := Lib.hid (strip_val B m d xs wr HXr.out (by omega))
        go_wp2_with fail
        refine HS1.out.mono ?_
        rintro e4 w4 ⟨A4, c4, rfl, hi4, hb4⟩
        have HB4 := Lib.hid (below_trans' HBr.out hb4)
        have HX4 := Lib.hid (HXr.out.up hb4)
        have HI4 := Lib.hid hi4
        have HV4 := Lib.hid (valid_val B m d xs w4 HX4.out)
        rw [HVX.out] at HV4
        clear hi4 hb4
        go_wp2_with fail
        refine HV4.out.mono ?_
        rintro e5 w5 ⟨rfl, hb5⟩
        have HB5 := Lib.hid (below_trans' HB4.out hb5)
        have HX5 := Lib.hid (HX4.out.up hb5)
        have HI5 := Lib.hid (HI4.out.up hb5)
        have HV5 := Lib.hid (valid_val A4 m c4 _ w5 HI5.out)
        rw [valid_bare, HVX.out] at HV5
        clear hb5
        go_wp2_with fail
        refine HV5.out.mono ?_
        rintro e6 w6 ⟨rfl, hb6⟩
        have HB6 := Lib.hid (below_trans' HB5.out hb6)
        have HX6 := Lib.hid (HX5.out.up hb6)
        have HI6 := Lib.hid (HI5.out.up hb6)
        have HS6 := Lib.hid (rstrip_val B m d xs w6 HX6.out (by omega))
        clear hb6
        go_wp2_with fail
        refine HS6.out.mono ?_
        rintro e7 w7 ⟨A7, c7, rfl, hi7, hb7⟩
        have HB7 := Lib.hid (below_trans' HB6.out hb7)
        have HI7 := Lib.hid (HI6.out.up hb7)
        have HM7 := Lib.hid (same_val _ _ _ _ _ _ _ _ w7 HI7.out hi7)
        rw [same_refl] at HM7
        clear hi7 hb7
        go_wp2_with fail
        refine HM7.out.mono ?_
        rintro e8 w8 ⟨rfl, hb8⟩
        have HB8 := Lib.hid (below_trans' HB7.out hb8)
        have HI8 := Lib.hid (HI7.out.up hb8)
        have HS8 := Lib.hid (strip_val A4 m c4 _ w8 HI8.out (by omega))
        rw [bare_bare] at HS8
        clear hb8
        go_wp2_with fail
        refine HS8.out.mono ?_
        rintro e9 w9 ⟨A9, c9, rfl, hi9, hb9⟩
        have HB9 := Lib.hid (below_trans' HB8.out hb9)
        have HM9 := Lib.hid (same_val _ _ _ _ _ _ _ _ w9 hi9 (HI8.out.up hb9))
        rw [same_refl] at HM9
        clear hi9 hb9
        go_wp2_with fail
        refine HM9.out.mono ?_
        rintro e10 w10 ⟨rfl, hb10⟩
        have HB10 := Lib.hid (below_trans' HB9.out hb10)
        clear hb10
        go_wp2_with fail
        go_ret
        exact ⟨rfl, HB10.out⟩
  · have hxe : m = 0 := by
      have h1 := pd1 hg
      have h2 := key_len HK.out
      rw [h1, HN.out] at h2
      exact h2
    subst hxe
    have hq0 : 0 < q := by rw [← hdl]; exact List.length_pos_iff.2 hg
    have hq0' : (0 : Int) < (q : Int) := by omega
    have hq2 : (q : Int) ≤ 20 := by omega
    clear hg hds pd1 pd2 hdl
    go_wp2_with fail
    go_ret
    exact ⟨rfl, HB3.out⟩
end Go.Proofs.YtjfcdfhcmkdicaaDoor.Ps
