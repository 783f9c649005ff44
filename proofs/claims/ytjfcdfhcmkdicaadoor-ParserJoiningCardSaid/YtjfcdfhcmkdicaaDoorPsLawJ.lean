/- The walk of the statement on two scripts joined by a line feed. -/
import Derived.Test.YtjfcdfhcmkdicaaDoorPsUse
namespace Go.Proofs.YtjfcdfhcmkdicaaDoor.Ps
open Go.RowKit Go.Proofs.YtjfcdfhcmkdicaaDoor.Lx Go.Proofs.YtjfcdfhcmkdicaaDoor.Pr
set_option linter.unusedVariables false

def shiftC (d : Int) (x : Cm) : Cm := { x with pos := x.pos + d }
theorem shift_key (d : Nat) : ∀ (ys : List Cm) (py : List PC), ys.map keyQ = py.map keyR → (ys.map (shiftC (d : Int))).map keyQ = (py.map (mvC d)).map keyR
  | [], [], _ => rfl
  | [], c :: py, h => by cases h
  | y :: ys, [], h => by cases h
  | y :: ys, c :: py, h => by
    injection h with h1 h2
    have ih := shift_key d ys py h2
    simp only [List.map_cons]
    refine List.cons_eq_cons.2 ⟨?_, ih⟩
    unfold keyQ keyR at h1 ⊢
    unfold shiftC mvC
    simp only [Prod.mk.injEq] at h1 ⊢
    obtain ⟨a1, a2, a3, a4⟩ := h1
    refine ⟨a1, a2, a3, ?_⟩
    rw [a4]; rfl
theorem key_pos {ys : List Cm} {py : List PC} (h : ys.map keyQ = py.map keyR) {P : Int → Prop} (hp : ∀ c ∈ py, P (c.pos : Nat)) : ∀ y ∈ ys, P y.pos := by
  intro y hy
  have h1 : keyQ y ∈ py.map keyR := by rw [← h]; exact List.mem_map_of_mem hy
  obtain ⟨c, hc, he⟩ := List.mem_map.1 h1
  have : y.pos = (c.pos : Nat) := (congrArg (fun x => x.2.2.2) he).symm
  rw [this]; exact hp c hc
set_option maxRecDepth 100000 in
set_option maxHeartbeats 4000000 in
theorem parserJoining_walk (a b : ByteArray) (w : World) (ha : a.size ≤ maxLen) (za : a.size ≤ 140737488351232) (hb : b.size ≤ maxLen) (zb : b.size ≤ 140737488351232) (hv : Lx.Vars w) :
    Calls Tryd.prog 5 #[.string a, .string b] w fun e w' => e = .returned (.bool true) ∧ Below w.heap.size w w' := by
  obtain ⟨i0, hi, hz0, hz1, hz2⟩ := info_parts info_cmd
  have HH := Lib.hid (qhead_val w hv)
  have HV := Lib.hid hv
  obtain ⟨J, hJ⟩ : ∃ J : ByteArray, a ++ ⟨#[10]⟩ ++ b = J := ⟨_, rfl⟩
  have hJl : J.data.toList = a.data.toList ++ 10 :: b.data.toList := by rw [← hJ, add_list, add_list, List.append_assoc]; rfl
  have hJs : J.size = a.size + 1 + b.size := by rw [← hJ, ByteArray.size_append, ByteArray.size_append]; rfl
  have hJm : J.size ≤ maxLen := by rw [hJs]; unfold maxLen; omega
  have HU := Lib.hid (fun W => usable_val J hJm W)
  have HPA := Lib.hid (fun W (q : Below w.heap.size w W) => parse_val a ha W (HV.out.up q))
  have HPB := Lib.hid (fun W (q : Below w.heap.size w W) => parse_val b hb W (HV.out.up q))
  have HPJ := Lib.hid (fun W (q : Below w.heap.size w W) => parse_val J hJm W (HV.out.up q))
  rw [hJl] at HU HPJ
  have q1 : ¬ 9223372036854775807 < a.size + 1 := by omega
  have q2 : ¬ 9223372036854775807 < a.size + 1 + b.size := by omega
  obtain ⟨u, hu⟩ : ∃ u, decide ((LEX (a.data.toList ++ 10 :: b.data.toList)).err = 0) = u := ⟨_, rfl⟩
  rw [hu] at HU
  have HUU := Lib.hid hu
  have hal := size_list a
  have hbl := size_list b
  subst hJ
  clear hv ha hb hJl hJs hJm hu
  go_enter Tryd.func5, Tryd.ntmps5
  go_wp2_with fail
  refine HH.out.mono ?_
  rintro e1 w1 ⟨rfl, hb1⟩
  have HB1 := Lib.hid hb1
  clear hb1 HH
  go_wp2_with fail
  refine (HU.out _).mono ?_
  rintro e2 w2 ⟨rfl, hb2⟩
  have HB2 := Lib.hid (below_trans' HB1.out hb2)
  clear hb2
  cases u with
  | false =>
    go_wp2_with fail
    go_ret
    exact ⟨rfl, HB2.out⟩
  | true =>
    have hut : (LEX (a.data.toList ++ 10 :: b.data.toList)).err = 0 := of_decide_eq_true HUU.out
    have hl8 := (LEX_good hut).1
    rw [List.length_append, List.length_cons, hal, hbl] at hl8
    have HUT := Lib.hid hut
    clear hut HUU
    go_wp2_with fail
    refine (HPA.out _ HB2.out).mono ?_
    rintro e3 w3 ⟨A1, n1, c1, xs, D1, m1, d1, ds, rfl, hx, hd, hb3, hk, hds⟩
    have HB3 := Lib.hid (below_trans' HB2.out hb3)
    have HX := Lib.hid hx
    have HK := Lib.hid hk
    have HDS := Lib.hid hds
    have hm1 := hd.1
    clear hx hd hb3 hk hds
    go_wp2_with fail
    refine (HPB.out _ HB3.out).mono ?_
    rintro e4 w4 ⟨A2, n2, c2, ys, D2, m2, d2, es, rfl, hy, he, hb4, hk', hes⟩
    have HB4 := Lib.hid (below_trans' HB3.out hb4)
    have HX4 := Lib.hid (HX.out.up hb4)
    have HY := Lib.hid hy
    have HK' := Lib.hid hk'
    have HES := Lib.hid hes
    have hm2 := he.1
    have hn1 : n1 ≤ 300 ∨ ds ≠ [] := by
      by_cases h : ds = []
      · left
        have h9 := (good_reads (l := a.data.toList) (by rw [← HDS.out, h])).2.2
        have h8 := congrArg List.length HK.out
        rw [List.length_map, List.length_map, HX.out.1] at h8
        omega
      · exact .inr h
    clear hy he hb4 hk' hes
    by_cases hgood : ds = [] ∧ es = []
    · obtain ⟨hd0, he0⟩ := hgood
      have k1 : m1 = 0 := by rw [← hm1, hd0]; rfl
      have k2 : m2 = 0 := by rw [← hm2, he0]; rfl
      have HD0 : Hid ((PARSE a.data.toList).2 = []) := Lib.hid (by rw [← HDS.out, hd0])
      have HE0 : Hid ((PARSE b.data.toList).2 = []) := Lib.hid (by rw [← HES.out, he0])
      have hg1 := (good_reads HD0.out).2.2
      have hg2 := (good_reads HE0.out).2.2
      have hx1 : (PARSE a.data.toList).1.length = n1 := by have h8 := congrArg List.length HK.out; rw [List.length_map, List.length_map, HX.out.1] at h8; exact h8.symm
      have hy1 : (PARSE b.data.toList).1.length = n2 := by have h8 := congrArg List.length HK'.out; rw [List.length_map, List.length_map, HY.out.1] at h8; exact h8.symm
      have hn1' : n1 ≤ 300 := by omega
      have hn2' : n2 ≤ 300 := by omega
      have HXL := Lib.hid hx1
      have HYL := Lib.hid hy1
      have HPOS : Hid (∀ y ∈ ys, 0 ≤ y.pos ∧ y.pos ≤ 8000) := Lib.hid (key_pos HK'.out (P := fun p => 0 ≤ p ∧ p ≤ 8000) (fun c hc => by
        have := ((good_pos HE0.out).2 c hc).1
        rw [hbl] at this
        omega))
      subst k1 k2
      clear hd0 he0 hg1 hg2 hx1 hy1 hn1 HDS HES
      by_cases hbig : 300 < n1 + n2
      · have hbig' : (300 : Int) < (n1 : Int) + (n2 : Int) := by omega
        go_wp2_with fail
        go_ret
        exact ⟨rfl, HB4.out⟩
      · have hbig' : ¬ (300 : Int) < (n1 : Int) + (n2 : Int) := by omega
        have HJP := Lib.hid (join_parse HD0.out HE0.out HUT.out (by rw [HXL.out, HYL.out]; omega))
        go_wp2_with fail
        refine (HPJ.out _ HB4.out).mono ?_
        rintro e5 w5 ⟨A3, n3, c3, zs, D3, m3, d3, fs, rfl, hz, hf, hb5, hk3, hfs⟩
        rw [HJP.out] at hk3 hfs
        dsimp only at hk3 hfs
        subst hfs
        have k3 : m3 = 0 := hf.1.symm
        subst k3
        have HB5 := Lib.hid (below_trans' HB4.out hb5)
        have HX5 := Lib.hid (HX4.out.up hb5)
        have HY5 := Lib.hid (HY.out.up hb5)
        have HZ := Lib.hid hz
        have HK3 := Lib.hid hk3
        have HO := Lib.hid (own_zero w5 29 4)
        have HBa := Lib.hid ((Below.refl w5.heap.size w5).alloc (Nat.le_refl _) (.cells #[] 29))
        have HRa := Lib.hid (HX5.out.2.1.below HBa.out)
        have HOa := Lib.hid (one_flat one_decC xs)
        have h63 : 0 + n1 ≤ maxLen := by simp only [maxLen]; omega
        have hby : (0 + n1) * 56 ≤ 140737488355328 := by omega
        clear hz hf hb5 hk3 HX HX4 HY HD0 HE0 HUT HJP
        go_wp2_with (at_builtin; refine wpList_append_rd _ rfl (.tmp 56) (.tmp 57) _ rfl w5.heap.size 29 i0 _ 4 56 Tryd.underlying23 hi hz0 hz1 hz2 rfl (by decide) _ 0 _ rfl HO.out _ A1 n1 c1 _ rfl HRa.out HOa.out h63 hby HBa.out.size ?_; intro Aw6 cw6 w6 hown hfm hg; have HO6 := Lib.hid hown; have HB6 := Lib.hid (own_below HO.out hg HBa.out (Nat.le_refl _) HBa.out.size); clear hown hfm hg)
        rw [List.nil_append, Nat.zero_add] at HO6
        have ho6 := HO6.out
        have HN2 := Lib.hid HY5.out.1
        have HN1 := Lib.hid HX5.out.1
        have ha8 : a.size ≤ 8000 := by omega
        clear HO HBa HRa HOa h63 hby
        go_loopw [61, 12] (fun i o wr => ∃ (k : Nat) (WA : Option Addr) (wc : Nat), k ≤ n2 ∧ i = i64 (k : Nat) ∧ o = .slice WA (n1 + k) wc ∧ Hid (wr.ownsRow w5.heap.size 29 4 (.slice WA (n1 + k) wc) (n1 + k) ((xs ++ (ys.take k).map (shiftC ((a.size + 1 : Nat) : Int))).flatMap decC)) ∧ Hid (Below w5.heap.size w5 wr)) (fun i _ _ => n2 - (intOf i).toNat)
        case atStart => exact ⟨0, Aw6, cw6, Nat.zero_le _, rfl, rfl, Lib.hid (by rw [List.take_zero, List.map_nil, List.append_nil]; exact ho6), HB6⟩
        case round =>
          obtain ⟨k, WA, wc, hk, rfl, rfl, HO, HB⟩ := hrel
          by_cases hlt : k < n2
          · have hlt' : (k : Int) < (n2 : Int) := by omega
            have hkl : k < ys.length := by rw [HN2.out]; exact hlt
            obtain ⟨b0, off, rfl, hb0, hc⟩ := rd_el (dec := decC) (s := 4) (fun _ => rfl) (HY5.out.up HB.out).2.1 HN2.out hkl
            have hps := HPOS.out ys[k] (List.getElem_mem hkl)
            have htk : (ys.take (k + 1)).map (shiftC ((a.size + 1 : Nat) : Int)) = (ys.take k).map (shiftC ((a.size + 1 : Nat) : Int)) ++ [shiftC ((a.size + 1 : Nat) : Int) ys[k]] := by rw [List.take_succ_eq_append_getElem hkl, List.map_append]; rfl
            obtain ⟨⟨xk, xm, xA, xn, xc, xl, xp⟩, hx⟩ : ∃ x, ys[k] = x := ⟨_, rfl⟩
            rw [hx] at hc htk hps
            have c0 := hc 0 _ rfl
            have c1 := hc 1 _ rfl
            have c2 := hc 2 _ rfl
            have c3 := hc 3 _ rfl
            rw [Nat.add_zero] at c0
            dsimp only at c0 c1 c2 c3 hps
            have HTK : Hid ((xs ++ (ys.take (k + 1)).map (shiftC ((a.size + 1 : Nat) : Int))).flatMap decC = (xs ++ (ys.take k).map (shiftC ((a.size + 1 : Nat) : Int))).flatMap decC ++ [.int .i64 xk, .string xm, .slice xA xn xc, .int .i64 (xp + ((a.size : Int) + 1))]) := Lib.hid (by rw [htk, ← List.append_assoc, List.flatMap_append, List.flatMap_singleton]; rfl)
            obtain ⟨W2, hW2⟩ : ∃ W2, wr.alloc (.cells #[.int .i64 xk, .string xm, .slice xA xn xc, .int .i64 (xp + ((a.size : Int) + 1))] 29) = W2 := ⟨_, rfl⟩
            have hbb : Below wr.heap.size wr W2 := by rw [← hW2]; exact (Below.refl _ wr).alloc (Nat.le_refl _) _
            have hsz : W2.heap.size = wr.heap.size + 1 := by rw [← hW2]; simp
            have hBa := (below_trans' HB.out hbb).alloc (below_trans' HB.out hbb).size (.cells #[.int .i64 xk, .string xm, .slice xA xn xc, .int .i64 (xp + ((a.size : Int) + 1))] 29)
            have hOa := (own_keep HO.out hbb).kept (World.grownBy_alloc W2 (.cells #[.int .i64 xk, .string xm, .slice xA xn xc, .int .i64 (xp + ((a.size : Int) + 1))] 29) none) (Classical.em _)
            have hRa := rd_fresh W2 29 #[.int .i64 xk, .string xm, .slice xA xn xc, .int .i64 (xp + ((a.size : Int) + 1))] 4 1 [.int .i64 xk, .string xm, .slice xA xn xc, .int .i64 (xp + ((a.size : Int) + 1))] rfl rfl
            rw [hsz] at hRa
            rw [← hW2] at hBa hOa hRa
            have HBA := Lib.hid hBa
            have HOA := Lib.hid hOa
            have HRA := Lib.hid hRa
            have HON : Hid (∀ u ∈ [Value.int .i64 xk, .string xm, .slice xA xn xc, .int .i64 (xp + ((a.size : Int) + 1))], u.oneCell' = true) := Lib.hid (fun u hu => by
              simp only [List.mem_cons, List.not_mem_nil, or_false] at hu
              rcases hu with rfl | rfl | rfl | rfl <;> rfl)
            have h63 : n1 + k + 1 ≤ maxLen := by simp only [maxLen]; omega
            have hby : (n1 + k + 1) * 56 ≤ 140737488355328 := by omega
            clear hb0 hc hx htk hbb hsz hBa hOa hRa hW2 hkl
            go_wp2_with (at_builtin; refine wpList_append_rd _ rfl (.tmp 72) (.tmp 74) _ rfl w5.heap.size 29 i0 _ 4 56 Tryd.underlying23 hi hz0 hz1 hz2 rfl (by decide) _ (n1 + k) _ rfl HOA.out _ (some ⟨wr.heap.size + 1, 0, none⟩) 1 1 _ rfl HRA.out HON.out h63 hby HBA.out.size ?_; intro A5 c5 w9 hown hfm hgr; have HO5 := Lib.hid hown; have HB5 := Lib.hid (own_below HOA.out hgr HBA.out (Nat.le_refl _) HBA.out.size); clear hown hfm hgr)
            refine ⟨⟨k + 1, A5, c5, by omega, rfl, rfl, Lib.hid (by rw [HTK.out]; exact HO5.out), HB5⟩, ?_⟩
            simp only [intOf]; omega
          · have hlt' : ¬ (k : Int) < (n2 : Int) := by omega
            obtain rfl : k = n2 := by omega
            have hw := HO.out
            rw [List.take_of_length_le (by rw [HN2.out]; exact Nat.le_refl _)] at hw
            have hcm : IsCms wr WA (n1 + k) wc (xs ++ ys.map (shiftC ((a.size + 1 : Nat) : Int))) := cms_own hw (by rw [List.length_append, List.length_map, HN1.out, HN2.out]) (fun x hx => by
              rcases List.mem_append.1 hx with hx | hx
              · exact (HX5.out.up HB.out).2.2.2.2 x hx
              · obtain ⟨y, hy, rfl⟩ := List.mem_map.1 hx
                have h1 := (HY5.out.up HB.out).2.2.2.2 y hy
                have h2 := HPOS.out y hy
                exact ⟨h1.kind, h1.name, h1.rd, h1.len, h1.nc, h1.cm, h1.wf, w64_in (by show -9000000000 ≤ y.pos + ((a.size + 1 : Nat) : Int); omega) (by show y.pos + ((a.size + 1 : Nat) : Int) ≤ 9000000000; omega)⟩)
            have HSV := Lib.hid (same_val _ _ _ _ _ _ _ _ wr (HZ.out.up HB.out) hcm)
            have hsm : sameC zs (xs ++ ys.map (shiftC ((a.size + 1 : Nat) : Int))) = true := decide_eq_true (HK3.out.trans (by
              show _ = (xs ++ ys.map (shiftC ((a.size + 1 : Nat) : Int))).map keyQ
              rw [List.map_append, List.map_append, shift_key _ _ _ HK'.out, HK.out, hal]))
            rw [hsm] at HSV
            have HB9 := Lib.hid (below_trans' HB5.out HB.out)
            clear hw hcm hsm HO
            go_wp2_with fail
            refine HSV.out.mono ?_
            rintro e10 w10 ⟨rfl, hb10⟩
            have HB10 := Lib.hid (below_trans' HB9.out hb10)
            clear hb10
            go_wp2_with fail
            go_ret
            exact ⟨rfl, HB10.out⟩
    · have k0 : 0 < m1 + m2 := by
        rcases Nat.eq_zero_or_pos (m1 + m2) with h | h
        · exact absurd ⟨List.eq_nil_of_length_eq_zero (by omega), List.eq_nil_of_length_eq_zero (by omega)⟩ hgood
        · exact h
      have k0' : (0 : Int) < (m1 : Int) + (m2 : Int) := by omega
      have b1 : m1 ≤ 20 := by have := (parse_dgs a.data.toList).2.1; rw [← HDS.out] at this; omega
      have b2 : m2 ≤ 20 := by have := (parse_dgs b.data.toList).2.1; rw [← HES.out] at this; omega
      clear hgood k0 hn1
      go_wp2_with fail
      go_ret
      exact ⟨rfl, HB4.out⟩
end Go.Proofs.YtjfcdfhcmkdicaaDoor.Ps
