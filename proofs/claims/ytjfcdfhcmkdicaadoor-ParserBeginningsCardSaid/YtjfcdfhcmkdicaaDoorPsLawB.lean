/- The walk of the statement on a script cut behind a token. -/
import Derived.Deep.DeepCutAuto
import Derived.Test.YtjfcdfhcmkdicaaDoorPsVal
import Derived.Test.YtjfcdfhcmkdicaaDoorTabs
import Derived.Test.YtjfcdfhcmkdicaaDoorPrT
import Derived.Test.YtjfcdfhcmkdicaaDoorPrA
namespace Go.Proofs.YtjfcdfhcmkdicaaDoor.Ps
open Go.RowKit Go.Proofs.YtjfcdfhcmkdicaaDoor.Lx Go.Proofs.YtjfcdfhcmkdicaaDoor.Pr
set_option linter.unusedVariables false

theorem itoa_nat (m : Nat) (hm : m ≤ 1000000000) {w : World} (h : Lx.Tabs w) :
    Calls Tryd.prog 23 #[.int .i64 (m : Nat)] w fun e w' => e = .returned (.string ⟨(Lib.decDigits m).toArray⟩) ∧ Below w.heap.size w w' := by
  refine (Tryd.strconv_Itoa (m : Int) (by omega) (by omega) w h).mono ?_
  rintro e w' ⟨rfl, k, os, rfl⟩
  exact ⟨by rw [Lib.itoa_nonneg], Lib.below_grow _ w (Nat.le_refl _) k os⟩
theorem cms_to (A : Option Addr) (n c k : Nat) (hk : k ≤ c) (w : World) : (Instr.slice 23 (.slice A n c) none (some (.int .i64 (k : Int))) none).run Tryd.prog w = .ok (.slice A k c) w := by
  rw [run_slice_h w 23 A n c elem_cmd .i64 _ (by omega) (by omega), size_cmd]
  show Result.ok (sliced A 0 (Int.toNat (k : Int)) c 4) w = _
  unfold sliced
  rw [Int.toNat_natCast, Nat.zero_mul, Nat.sub_zero, Nat.sub_zero]
  congr 2
  split
  · rfl
  · cases A <;> rfl
theorem cut_facts {l : List UInt8} {L : LexR} (hL : LEX l = L) (h : (PARSE l).2 = []) {k : Nat} (hk : k < L.toks.length) {t : Tok} (ht : L.toks[k] = t) :
    t.pos + (textL t).length ≤ l.length ∧
    (t.kind = 3 → PARSE (l.take (t.pos + (textL t).length)) = ((PARSE l).1.take (semis (L.toks.take (k + 1))), []) ∧ semis (L.toks.take (k + 1)) ≤ (PARSE l).1.length) ∧
    (t.kind ≠ 3 → PARSE (l.take (t.pos + (textL t).length)) = ([], [(7, t.pos + (textL t).length)])) := by
  subst hL ht
  exact ⟨(cut_lex (good_reads h).1 hk).1, cut_parse h hk⟩
theorem semis_snoc (ts : List Tok) {j : Nat} (h : j < ts.length) : semis (ts.take (j + 1)) = semis (ts.take j) + (if ts[j].kind = 3 then 1 else 0) := by
  rw [List.take_succ_eq_append_getElem h, semis_append]
  congr 1
  unfold semis
  by_cases q : ts[j].kind = 3
  · rw [if_pos q, List.filter_cons_of_pos (by simpa using q)]; rfl
  · rw [if_neg q, List.filter_cons_of_neg (by simpa using q)]; rfl
theorem semis_le (ts : List Tok) : semis ts ≤ ts.length := List.length_filter_le _ _
theorem key_take {xs zs : List Cm} {cs : List PC} {r : Nat} (h : xs.map keyQ = cs.map keyR) (g : zs.map keyQ = (cs.take r).map keyR) : sameC zs (xs.take r) = true :=
  decide_eq_true (g.trans (by
    show _ = (xs.take r).map keyQ
    rw [List.map_take, List.map_take, h]))
set_option maxRecDepth 100000 in
set_option maxHeartbeats 4000000 in
theorem parserBeginnings_walk (s : ByteArray) (x : Int) (w : World) (hs : s.size ≤ maxLen) (_hz : s.size ≤ 140737488351232) (hx : (Lit.int .u16 x).wf = true) (hv : Lx.Vars w) (htb : Lx.Tabs w) :
    Calls Tryd.prog 7 #[.string s, .int .u16 x] w fun e w' => e = .returned (.bool true) ∧ Below w.heap.size w w' := by
  obtain ⟨x0, x1⟩ := bounds_u16 hx
  have HH := Lib.hid (qhead_val w hv)
  have HV := Lib.hid hv
  have HTB := Lib.hid htb
  have HP := Lib.hid (fun W (q : Below w.heap.size w W) => parse_val s hs W (HV.out.up q))
  have HL := Lib.hid (fun W => rlex_val s hs W)
  have hsl := size_list s
  obtain ⟨l, hl⟩ : ∃ l, s.data.toList = l := ⟨_, rfl⟩
  rw [hl] at HL HP hsl
  obtain ⟨L, hL⟩ : ∃ L, LEX l = L := ⟨_, rfl⟩
  rw [hL] at HL
  have HLE := Lib.hid hL
  have HSL := Lib.hid hl
  have HS := Lib.hid hs
  clear hx hv hs _hz htb hl hL
  go_enter Tryd.func7, Tryd.ntmps7
  go_wp2_with fail
  refine HH.out.mono ?_
  rintro e1 w1 ⟨rfl, hb1⟩
  have HB1 := Lib.hid hb1
  clear hb1 HH
  go_wp2_with fail
  refine (HL.out _).mono ?_
  rintro e2 w2 ⟨A0, n0, c0, rfl, hT, hb2⟩
  have HB2 := Lib.hid (below_trans' HB1.out hb2)
  have HT := Lib.hid hT
  clear hT hb2
  go_wp2_with fail
  refine (HP.out _ HB2.out).mono ?_
  rintro e3 w3 ⟨B, m, d, xs, D, q, dc, ds, rfl, hx, hd, hb3, hk, hds⟩
  have HB3 := Lib.hid (below_trans' HB2.out hb3)
  have HX := Lib.hid hx
  have HK := Lib.hid hk
  have HT3 := Lib.hid (HT.out.up hb3)
  have hql := hd.1
  clear hx hd hb3 hk HT
  by_cases herr : L.err = 0
  case neg =>
    have f1 : ((L.err : Int) != 0) = true := by rw [bne_iff_ne]; omega
    clear hds hql herr
    go_wp2_with fail
    go_ret
    exact ⟨rfl, HB3.out⟩
  have f1 : ((L.err : Int) != 0) = false := by rw [herr]; rfl
  by_cases hd0 : ds = []
  case neg =>
    have f2 : (0 : Int) < (q : Int) := by have := List.length_pos_iff.2 hd0; omega
    clear hds hql herr hd0
    go_wp2_with fail
    go_ret
    exact ⟨rfl, HB3.out⟩
  have hq : q = 0 := by rw [← hql, hd0]; rfl
  subst hq
  by_cases hn0 : n0 = 0
  · have f3 : ((n0 : Int) == 0) = true := by rw [hn0]; rfl
    clear hds hql herr hd0 hn0
    go_wp2_with fail
    go_ret
    exact ⟨rfl, HB3.out⟩
  have f3 : ((n0 : Int) == 0) = false := by rw [beq_eq_false_iff_ne]; omega
  have HDS : Hid ((PARSE l).2 = []) := Lib.hid (by rw [← hds, hd0])
  have hn2 : n0 ≤ 2000 := by have h3 := LEX_len l; rw [HLE.out, HT3.out.2.1] at h3; exact h3
  have HN0 := Lib.hid HT3.out.2.1
  obtain ⟨k, hk⟩ : ∃ k : Nat, k = x.toNat % n0 := ⟨_, rfl⟩
  have hkn : k < n0 := by rw [hk]; exact Nat.mod_lt _ (by omega)
  have em : x.tmod (n0 : Int) = (k : Int) := by rw [hk, Int.tmod_eq_emod_of_nonneg x0, Int.natCast_emod, Int.toNat_of_nonneg x0]
  have hn0' : ¬ (n0 : Int) = 0 := by omega
  have hkn' : (k : Int) < (n0 : Int) := by omega
  have hkl : k < L.toks.length := by rw [HN0.out]; exact hkn
  obtain ⟨b, off, rfl, hb, hc⟩ := rd_el (dec := decT) (s := 4) (fun _ => rfl) HT3.out.1 HN0.out hkl
  have hwt := ((lex_wf l).1 L.toks[k] (by rw [HLE.out]; exact List.getElem_mem hkl)).1
  obtain ⟨t, ht⟩ : ∃ t, L.toks[k] = t := ⟨_, rfl⟩
  obtain ⟨g1, g2, g3⟩ := cut_facts HLE.out HDS.out hkl ht
  rw [ht] at hc hwt
  have htn := hwt.n
  obtain ⟨X, hX⟩ : ∃ X, textB t = X := ⟨_, rfl⟩
  have hXs : (textL t).length = X.size := by rw [← hX]; exact Array.length_toList
  rw [hXs] at g1 g2 g3
  obtain ⟨tk, tx, tn, tp⟩ := t
  have hX2 : tk = 2 → (⟨(Lib.decDigits tn).toArray⟩ : ByteArray) = X := by intro e; rw [← hX]; unfold textB; rw [if_pos e]
  have hX3 : tk ≠ 2 → tx = X := by intro e; rw [← hX]; unfold textB; rw [if_neg e]
  have c0' := hc 0 _ rfl
  have c1' := hc 1 _ rfl
  have c2' := hc 2 _ rfl
  have c3' := hc 3 _ rfl
  rw [Nat.add_zero] at c0'
  dsimp only at c0' c1' c2' c3' g1 g2 g3 htn
  rw [hsl] at g1
  have HG2 := Lib.hid g2
  have HG3 := Lib.hid g3
  have HB3T := Lib.hid (HTB.out.up HB3.out)
  clear hds hql herr hd0 hn0 hk hb hc hwt ht hX hXs hkl g2 g3
  go_upto_if 60 with fail
  go_cut [12] (fun s12 wx => s12 = i64 (X.size : Nat) ∧ Hid (Below w3.heap.size w3 wx))
  case first =>
    by_cases h2 : tk = 2
    · have f2 : ((tk : Int) == 2) = true := by rw [h2]; rfl
      have HI := Lib.hid (fun W (z : Below w3.heap.size w3 W) => itoa_nat tn htn (HB3T.out.up z))
      rw [hX2 h2] at HI
      clear h2 hX2 hX3
      go_wp2_with fail
      refine (HI.out _ (Below.refl _ _)).mono ?_
      rintro e5 w5 ⟨rfl, hb5⟩
      have HB5 := Lib.hid hb5
      clear hb5
      go_wp2_with fail
      go_meet
      exact ⟨rfl, HB5⟩
    · have f2 : ((tk : Int) == 2) = false := by rw [beq_eq_false_iff_ne]; omega
      have hxx := hX3 h2
      subst hxx
      clear h2 hX2 hX3
      go_wp2_with fail
      go_meet
      exact ⟨rfl, Lib.hid (Below.refl _ _)⟩
  case rest =>
    rename_i wx
    obtain ⟨rfl, HBx⟩ := hcut
    have HB4 := Lib.hid (below_trans' HB3.out HBx.out)
    have HT4 := Lib.hid (HT3.out.up HBx.out)
    have HX4 := Lib.hid (HX.out.up HBx.out)
    have d0 := (HBx.out.cell (Lx.cell_lt c0')).trans c0'
    have d3 := (HBx.out.cell (Lx.cell_lt c3')).trans c3'
    have hct := cut_to s (tp + X.size) g1
    rw [show ((tp + X.size : Nat) : Int) = (tp : Int) + (X.size : Int) by omega] at hct
    have hsum : IntKind.i64.wrap ((tp : Int) + (X.size : Int)) = (tp : Int) + (X.size : Int) := Go.IntWalk.i64_in _ (by have := HS.out; unfold maxLen at this; omega)
    have hcz : (strT s (tp + X.size)).size = tp + X.size := strT_size g1
    have HPC := Lib.hid (fun W (z : Below w.heap.size w W) => parse_val (strT s (tp + X.size)) (by rw [hcz]; exact Nat.le_trans g1 HS.out) W (HV.out.up z))
    rw [strT_list, HSL.out] at HPC
    obtain ⟨Z, hZ⟩ : ∃ Z, strT s (tp + X.size) = Z := ⟨_, rfl⟩
    rw [hZ] at hct hcz HPC
    have HCZ := Lib.hid hcz
    clear hcz c0' c1' c2' c3' hX2 hX3 hZ
    go_wp2_with fail
    refine (HPC.out _ HB4.out).mono ?_
    rintro e7 w7 ⟨B2, m2, dd2, ys, D2, q2, f2, es, rfl, hy, he, hb7, hk7, hes⟩
    have HB7 := Lib.hid (below_trans' HB4.out hb7)
    have HT7 := Lib.hid (HT4.out.up hb7)
    have HX7 := Lib.hid (HX4.out.up hb7)
    have k0 := (hb7.cell (Lx.cell_lt d0)).trans d0
    by_cases h3 : tk = 3
    · obtain ⟨p1, p2⟩ := HG2.out h3
      rw [p1] at hk7 hes
      dsimp only at hk7 hes
      subst hes
      have hq2 : q2 = 0 := he.1.symm
      subst hq2
      have f5 : ((tk : Int) != 3) = false := by rw [h3]; rfl
      have hml : (PARSE l).1.length = m := by rw [← key_len HK.out, HX7.out.1]
      obtain ⟨K, hK⟩ : ∃ K, k + 1 = K := ⟨_, rfl⟩
      have hKi : (k : Int) + 1 = (K : Int) := by omega
      rw [hK] at p1 p2 hk7
      obtain ⟨M, hM⟩ : ∃ M, semis (L.toks.take K) = M := ⟨_, rfl⟩
      rw [hM] at p2 hk7
      have hMm : M ≤ m := by omega
      have hMd : M ≤ d := Nat.le_trans hMm HX7.out.2.2.1
      have hMm' : (M : Int) ≤ (m : Int) := by omega
      have hts := toks_to (some ⟨b, off, none⟩) n0 c0 K (by have := HT7.out.2.2.1; omega)
      have hms := cms_to B m d M hMd
      have HM := Lib.hid hM
      have HY := Lib.hid hy
      have HSM := Lib.hid (key_take HK.out hk7)
      have hKn : K ≤ n0 := by omega
      clear hy he hb7 hk7 hM p1 p2 h3 d0 d3 hMd
      go_wp2_with fail
      go_loopw [102, 16] (fun i o wr => ∃ j : Nat, j ≤ K ∧ i = i64 (j : Nat) ∧ o = i64 (semis (L.toks.take j) : Nat) ∧ Hid (Below w7.heap.size w7 wr)) (fun i _ _ => K - (intOf i).toNat)
      case atStart => exact ⟨0, Nat.zero_le _, rfl, rfl, Lib.hid (Below.refl _ _)⟩
      case round =>
        obtain ⟨j, hj, rfl, rfl, HB⟩ := hrel
        have hsl2 : semis (L.toks.take j) ≤ 2000 := by have h1 := semis_le (L.toks.take j); rw [List.length_take] at h1; omega
        by_cases hlt : j < K
        · have hlt' : (j : Int) < (K : Int) := by omega
          have hjl : j < L.toks.length := by rw [HN0.out]; omega
          obtain ⟨b1, off1, hf, hb1, hc⟩ := rd_el (dec := decT) (s := 4) (fun _ => rfl) (HT7.out.up HB.out).1 HN0.out hjl
          injection hf with hf
          injection hf with hf1 hf2
          subst hf1 hf2
          have hsn := semis_snoc L.toks hjl
          obtain ⟨⟨uk, ux, un, up⟩, hu⟩ : ∃ t, L.toks[j] = t := ⟨_, rfl⟩
          rw [hu] at hc hsn
          have u0 := hc 0 _ rfl
          have u1 := hc 1 _ rfl
          have u2 := hc 2 _ rfl
          have u3 := hc 3 _ rfl
          rw [Nat.add_zero] at u0
          dsimp only at u0 u1 u2 u3 hsn
          obtain ⟨v, hv⟩ : ∃ v, semis (L.toks.take j) = v := ⟨_, rfl⟩
          rw [hv] at hsn hsl2 ⊢
          have HSN := Lib.hid hsn
          have hBn := Lib.hid (below_trans' HB.out ((Below.refl _ wr).alloc (Nat.le_refl _) (.cells #[.int .i64 (uk : Nat), .string ux, .int .i64 (un : Nat), .int .i64 (up : Nat)] 49)))
          by_cases hu3 : uk = 3
          · have f6 : ((uk : Int) == 3) = true := by rw [hu3]; rfl
            have hs1 : semis (L.toks.take (j + 1)) = v + 1 := by rw [HSN.out, if_pos hu3]
            have HS1 := Lib.hid hs1
            clear hu3 hc hu hb1 hjl hsn hs1 hv
            go_wp2_with fail
            refine ⟨⟨j + 1, by omega, rfl, by rw [HS1.out]; rfl, hBn⟩, ?_⟩
            simp only [intOf]; omega
          · have f6 : ((uk : Int) == 3) = false := by rw [beq_eq_false_iff_ne]; omega
            have hs1 : semis (L.toks.take (j + 1)) = v := by rw [HSN.out, if_neg hu3, Nat.add_zero]
            have HS1 := Lib.hid hs1
            clear hu3 hc hu hb1 hjl hsn hs1 hv
            go_wp2_with fail
            refine ⟨⟨j + 1, by omega, rfl, by rw [HS1.out], hBn⟩, ?_⟩
            simp only [intOf]; omega
        · have hlt' : ¬ (j : Int) < (K : Int) := by omega
          obtain rfl : j = K := by omega
          rw [HM.out] at hsl2 ⊢
          have HSV := Lib.hid (same_val _ _ _ _ _ _ _ _ wr (HY.out.up HB.out) (cms_take (HX7.out.up HB.out) hMm))
          rw [HSM.out] at HSV
          have HB9 := Lib.hid (below_trans' HB7.out HB.out)
          go_wp2_with fail
          refine HSV.out.mono ?_
          rintro e10 w10 ⟨rfl, hb10⟩
          have HB10 := Lib.hid (below_trans' HB9.out hb10)
          clear hb10
          go_wp2_with fail
          go_ret
          exact ⟨rfl, HB10.out⟩
    · have f5 : ((tk : Int) != 3) = true := by rw [bne_iff_ne]; omega
      rw [HG3.out h3] at hes
      dsimp only at hes
      subst hes
      have hbw : Below w7.heap.size w7 (w7.alloc (.cells #[.int .i64 7, .int .i64 (Z.size : Nat)] 41)) := (Below.refl _ _).alloc (Nat.le_refl _) _
      have HDV := Lib.hid (sameDiags_val _ _ _ _ _ _ _ _ _ (he.up hbw) (dgs_blk (l := [(7, tp + X.size)]) (n := 1) (Blk.new w7 _ #[.int .i64 7, .int .i64 (Z.size : Nat)]) (by rw [HCZ.out]; rfl) rfl (by decide)))
      rw [decide_eq_true rfl] at HDV
      have HB8 := Lib.hid (below_trans' HB7.out hbw)
      clear hy he hb7 hk7 hbw h3 d0 d3
      go_wp2_with fail
      refine HDV.out.mono ?_
      rintro e8 w8 ⟨rfl, hb8⟩
      have HB9 := Lib.hid (below_trans' HB8.out hb8)
      clear hb8
      go_wp2_with fail
      go_ret
      exact ⟨rfl, HB9.out⟩
end Go.Proofs.YtjfcdfhcmkdicaaDoor.Ps
