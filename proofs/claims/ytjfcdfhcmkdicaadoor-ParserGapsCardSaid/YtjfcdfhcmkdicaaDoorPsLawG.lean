/- The walk of the statement on other gaps. -/
import Derived.Deep.DeepCutAuto
import Derived.Deep.QuietTactic
import Derived.BigQuiet
import Derived.Test.YtjfcdfhcmkdicaaDoorPsGap
import Derived.Test.YtjfcdfhcmkdicaaDoorPsBare
namespace Go.Proofs.YtjfcdfhcmkdicaaDoor.Ps
open Go.RowKit Go.Proofs.YtjfcdfhcmkdicaaDoor.Lx Go.Proofs.YtjfcdfhcmkdicaaDoor.Pr
set_option linter.unusedVariables false

set_option maxRecDepth 100000 in
set_option maxHeartbeats 6000000 in
theorem parserGaps_walk (s : ByteArray) (A : Option Addr) (n c : Nat) (bs : List UInt8) (w : World) (hs : s.size ≤ maxLen) (_hz : s.size ≤ 140737488351232) (hb : IsBytes w A n c bs) (hv : Lx.Vars w) (htb : Lx.Tabs w) :
    Calls Tryd.prog 8 #[.string s, .slice A n c] w fun e w' => e = .returned (.bool true) ∧ Below w.heap.size w w' := by
  obtain ⟨i0, hi, hz0, hz1, hz2⟩ := info_parts info_byte
  have HH := Lib.hid (qhead_val w hv)
  have HV := Lib.hid hv
  have HTB := Lib.hid htb
  have HBs := Lib.hid hb
  have HL := Lib.hid (fun W => rlex_val s hs W)
  have HPs := Lib.hid (fun W (q : Below w.heap.size w W) => parse_val s hs W (HV.out.up q))
  obtain ⟨l, hl⟩ : ∃ l, s.data.toList = l := ⟨_, rfl⟩
  rw [hl] at HL HPs
  obtain ⟨L, hL⟩ : ∃ L, LEX l = L := ⟨_, rfl⟩
  rw [hL] at HL
  have HLE := Lib.hid hL
  clear hs _hz hb hv htb hl hL
  go_enter Tryd.func8, Tryd.ntmps8
  go_wp2_with fail
  refine HH.out.mono ?_
  rintro e1 w1 ⟨rfl, hb1⟩
  have HB1 := Lib.hid hb1
  clear hb1 HH
  go_wp2_with fail
  refine (HL.out _).mono ?_
  rintro e2 w2 ⟨A0, n0, c0, rfl, hT, hb2⟩
  have HB2 := Lib.hid (below_trans' HB1.out hb2)
  have HT := Lib.hid hT
  clear hT hb2
  by_cases herr : L.err = 0
  case neg =>
    have f1 : ((L.err : Int) != 0) = true := by rw [bne_iff_ne]; omega
    clear herr
    go_wp2_with fail
    go_ret
    exact ⟨rfl, HB2.out⟩
  have f1 : ((L.err : Int) != 0) = false := by rw [herr]; rfl
  have HER : Hid ((LEX l).err = 0) := Lib.hid (by rw [HLE.out]; exact herr)
  have BK := Lib.hid (Blk.new w2 9 #[.string ⟨#[32]⟩, .string ⟨#[10]⟩, .string ⟨#[9, 32]⟩, .string ⟨#[35, 32, 114, 117, 110, 32, 53, 59, 10]⟩, .string ⟨#[32, 35, 10]⟩])
  have HA4 : Hid (Below w2.heap.size w2 (w2.alloc (.cells #[.string ⟨#[32]⟩, .string ⟨#[10]⟩, .string ⟨#[9, 32]⟩, .string ⟨#[35, 32, 114, 117, 110, 32, 53, 59, 10]⟩, .string ⟨#[32, 35, 10]⟩] 9))) := Lib.hid ((Below.refl _ _).alloc (Nat.le_refl _) _)
  have HN0 := Lib.hid HT.out.2.1
  have hn2 : n0 ≤ 2000 := by have h3 := LEX_len l; rw [HLE.out, HN0.out] at h3; exact h3
  clear herr
  go_wp2_with fail
  obtain ⟨w4, hw4⟩ : ∃ w4, w2.alloc (.cells #[.string ⟨#[32]⟩, .string ⟨#[10]⟩, .string ⟨#[9, 32]⟩, .string ⟨#[35, 32, 114, 117, 110, 32, 53, 59, 10]⟩, .string ⟨#[32, 35, 10]⟩] 9) = w4 := ⟨_, rfl⟩
  rw [hw4] at BK HA4 ⊢
  have HB4 := Lib.hid (below_trans' HB2.out HA4.out)
  have HT4 := Lib.hid (HT.out.up HA4.out)
  have HTB4 := Lib.hid (HTB.out.up HB4.out)
  clear hw4
  go_loopw [11, 10] (fun i o wr => ∃ (k m bc : Nat) (BA : Option Addr) (bl : List UInt8), k ≤ n0 ∧ i = i64 (k : Nat) ∧ o = .slice BA m bc ∧ m ≤ 17000 ∧ Hid (bl = gtx (gapR (gapQ bs) 0 (L.toks.take k))) ∧ Hid (wr.ownsRow w4.heap.size 5 1 (.slice BA m bc) m (Lib.byteCells bl)) ∧ Hid (Below w4.heap.size w4 wr)) (fun i _ _ => n0 - (intOf i).toNat)
  case atStart => exact ⟨0, 0, 0, none, [], Nat.zero_le _, rfl, rfl, Nat.zero_le _, Lib.hid (by rw [List.take_zero]; rfl), Lib.hid (World.ownsRow_nil _ _ _ _), Lib.hid (Below.refl _ _)⟩
  case round =>
    obtain ⟨k, m, bc, BA, bl, hk, rfl, rfl, hm, HBL, HO, HBr⟩ := hrel
    by_cases hlt : k < n0
    · have hlt' : (k : Int) < (n0 : Int) := by omega
      by_cases hm8 : m ≤ 8000
      · have hm8' : (m : Int) ≤ 8000 := by omega
        have hkl : k < L.toks.length := by rw [HN0.out]; exact hlt
        obtain ⟨b, off, rfl, hb, hc⟩ := rd_el (dec := decT) (s := 4) (fun _ => rfl) (HT4.out.up HBr.out).1 HN0.out hkl
        have htl8 := txtQ_len HER.out L.toks[k] (by rw [HLE.out]; exact List.getElem_mem hkl)
        have hwt := ((lex_wf l).1 L.toks[k] (by rw [HLE.out]; exact List.getElem_mem hkl)).1
        have htn := hwt.n
        have htk : L.toks.take (k + 1) = L.toks.take k ++ [L.toks[k]] := List.take_succ_eq_append_getElem hkl
        have hgs : gtx (gapR (gapQ bs) 0 (L.toks.take (k + 1))) = gtx (gapR (gapQ bs) 0 (L.toks.take k)) ++ ((textB L.toks[k]).data.toList ++ gapQ bs k) := by
          rw [htk, gapR_snoc, List.length_take, Nat.min_eq_left (Nat.le_of_lt hkl), Nat.zero_add]; rfl
        obtain ⟨t, ht⟩ : ∃ t, L.toks[k] = t := ⟨_, rfl⟩
        rw [ht] at hc htl8 htn hgs
        obtain ⟨X, hX⟩ : ∃ X, textB t = X := ⟨_, rfl⟩
        have hXs : (textL t).length = X.size := by rw [← hX]; exact Array.length_toList
        rw [hXs] at htl8
        rw [hX, ← HBL.out] at hgs
        obtain ⟨tk, tx, tn, tp⟩ := t
        have hX2 : tk = 2 → Lib.itoa (tn : Int) = X.data.toList := by intro e; rw [← hX]; unfold textB; rw [if_pos e, Lib.itoa_nonneg]
        have hX3 : tk ≠ 2 → tx = X := by intro e; rw [← hX]; unfold textB; rw [if_neg e]
        have t0 := hc 0 _ rfl
        have t1 := hc 1 _ rfl
        have t2 := hc 2 _ rfl
        rw [Nat.add_zero] at t0
        dsimp only at t0 t1 t2 htn
        have HAI := Lib.hid (Tryd.strconv_AppendInt_10 w4.heap.size m (tn : Int) (by omega) (by omega) (.slice BA m bc) (Lib.byteCells bl) wr HO.out HBr.out.size (by omega) (fun W hb => HTB4.out.up (HBr.out.trans hb)))
        have HGS := Lib.hid hgs
        have h63 : m + X.size ≤ maxLen := by simp only [maxLen]; omega
        have hby : m + X.size ≤ 140737488355328 := by omega
        clear hb hc hwt htk ht hX hXs hgs hkl
        go_upto_if 44 with fail
        go_cut [10] (fun s10 wx => ∃ (B2 : Option Addr) (m2 c2 : Nat), s10 = .slice B2 m2 c2 ∧ m2 = m + X.size ∧ Hid (wx.ownsRow w4.heap.size 5 1 (.slice B2 m2 c2) m2 (Lib.byteCells (bl ++ X.data.toList))) ∧ Hid (Below w4.heap.size w4 wx))
        case first =>
          by_cases h2 : tk = 2
          · have f2 : ((tk : Int) == 2) = true := by rw [h2]; rfl
            rw [hX2 h2, show X.data.toList.length = X.size from Array.length_toList] at HAI
            clear h2 hX2 hX3
            go_wp2_with fail
            refine HAI.out.mono ?_
            rintro e5 w5 ⟨v5, rfl, ho5, hb5, _⟩
            obtain ⟨A5, c5, rfl, _⟩ := own_form ho5
            have HO5 := Lib.hid ho5
            have HB5 := Lib.hid (HBr.out.trans hb5)
            clear ho5 hb5
            go_wp2_with fail
            go_meet
            exact ⟨A5, m + X.size, c5, rfl, rfl, Lib.hid (by rw [Lib.byteCells_append]; exact HO5.out), HB5⟩
          · have f2 : ((tk : Int) == 2) = false := by rw [beq_eq_false_iff_ne]; omega
            have hxx := hX3 h2
            subst hxx
            clear h2 hX2 hX3
            go_wp2_with (at_builtin; refine Lib.wpList_append_own_string _ rfl (.tmp 52) (.tmp 57) 51 9 rfl w4.heap.size 5 i0 Tryd.underlying51 Tryd.underlying9 hi hz0 hz1 hz2 _ m _ rfl HO.out tx rfl h63 hby HBr.out.size ?_; intro v6 w6 hown hgr hnl; obtain ⟨A6, c6, hv6, _⟩ := own_form hown; subst hv6; have HO6 := Lib.hid hown; have HB6 := Lib.hid (own_below HO.out hgr HBr.out (Nat.le_refl _) HBr.out.size); clear hown hgr hnl)
            go_meet
            exact ⟨A6, m + tx.size, c6, rfl, rfl, Lib.hid (by rw [Lib.byteCells_append]; exact HO6.out), HB6⟩
        case rest =>
          obtain ⟨B2, m2, c2, rfl, hm2, HO2, HB2x⟩ := hcut
          have hm16 : m2 ≤ 16000 := by omega
          clear hX2 hX3 t0 t1 t2 hm2 h63 hby
          by_cases hin : k < n
          · have hin' : (k : Int) < (n : Int) := by omega
            have hbl : k < bs.length := by rw [HBs.out.1]; exact hin
            have hRb : Rd wc w.heap.size 1 A n (bs.flatMap fun c => [ub c]) := by
              rw [flat_one]
              exact HBs.out.2.1.below (HB4.out.trans (HB2x.out.mono HB4.out.size))
            obtain ⟨gb, goff, rfl, hgb, hgc⟩ := rd_el (dec := fun c => [ub c]) (s := 1) (fun _ => rfl) hRb HBs.out.1 hbl
            have gx := hgc 0 _ rfl
            rw [Nat.add_zero, Nat.mul_one] at gx
            obtain ⟨j, hj⟩ : ∃ j, (bs[k]).toNat % 5 = j := ⟨_, rfl⟩
            have hj5 : j < 5 := by rw [← hj]; exact Nat.mod_lt _ (by decide)
            have hj5' : (j : Int) < 5 := by omega
            have hmod : ((bs[k]).toNat : Int).tmod 5 = (j : Int) := by rw [Int.tmod_eq_emod_of_nonneg (by omega), ← hj]; rfl
            have hgf : gapQ bs k = kindQ j := by unfold gapQ; rw [dif_pos hbl, hj]
            have hb255 : (bs[k]).toNat ≤ 255 := by have := UInt8.toNat_lt bs[k]; omega
            obtain ⟨y, hy⟩ : ∃ y, (bs[k]).toNat = y := ⟨_, rfl⟩
            unfold ub at gx
            rw [hy] at gx hmod hb255
            obtain ⟨Kb, hKb⟩ : ∃ K : ByteArray, (⟨(kindQ j).toArray⟩ : ByteArray) = K := ⟨_, rfl⟩
            have hKl : Kb.data.toList = kindQ j := by rw [← hKb]
            have hKs : Kb.size ≤ 9 := by have h1 : Kb.data.toList.length = Kb.size := Array.length_toList; have h2 := kindQ_len j; rw [hKl] at h1; omega
            have kc : wc.cell? ⟨w2.heap.size, j, none⟩ = some (.string Kb) := by
              rw [(BK.out.up' HB2x.out).cell j, ← hKb]
              have hj : j = 0 ∨ j = 1 ∨ j = 2 ∨ j = 3 ∨ j = 4 := by omega
              rcases hj with rfl | rfl | rfl | rfl | rfl <;> rfl
            have HBL9 := Lib.hid (show (bl ++ X.data.toList) ++ Kb.data.toList = gtx (gapR (gapQ bs) 0 (L.toks.take (k + 1))) by rw [HGS.out, hgf, hKl, List.append_assoc])
            have h63 : m2 + Kb.size ≤ maxLen := by simp only [maxLen]; omega
            have hby : m2 + Kb.size ≤ 140737488355328 := by omega
            clear hbl hRb hgb hgc hj hgf hy hKb hKl hj5
            go_wp2_with (at_builtin; refine Lib.wpList_append_own_string _ rfl (.tmp 63) (.tmp 74) 51 9 rfl w4.heap.size 5 i0 Tryd.underlying51 Tryd.underlying9 hi hz0 hz1 hz2 _ m2 _ rfl HO2.out Kb rfl h63 hby HB2x.out.size ?_; intro v6 w6 hown hgr hnl; obtain ⟨A6, c6, hv6, _⟩ := own_form hown; subst hv6; have HO6 := Lib.hid hown; have HB6 := Lib.hid (own_below HO2.out hgr HB2x.out (Nat.le_refl _) HB2x.out.size); clear hown hgr hnl)
            refine ⟨⟨k + 1, m2 + Kb.size, c6, A6, _, by omega, rfl, rfl, by omega, HBL9, Lib.hid (by rw [Lib.byteCells_append]; exact HO6.out), HB6⟩, ?_⟩
            simp only [intOf]; omega
          · have hin' : ¬ (k : Int) < (n : Int) := by omega
            have hgf : gapQ bs k = [32] := by unfold gapQ; rw [dif_neg (by rw [HBs.out.1]; exact hin)]; rfl
            have HBL9 := Lib.hid (show (bl ++ X.data.toList) ++ [32] = gtx (gapR (gapQ bs) 0 (L.toks.take (k + 1))) by rw [HGS.out, hgf, List.append_assoc])
            have hBa := HB2x.out.alloc HB2x.out.size (.cells #[.int .u8 32] 5)
            have hOa := HO2.out.kept (World.grownBy_alloc wc (.cells #[.int .u8 32] 5) none) (Classical.em _)
            have hRa := rd_fresh wc 5 #[.int .u8 32] 1 1 [.int .u8 32] rfl rfl
            have HBA := Lib.hid hBa
            have HOA := Lib.hid hOa
            have HRA := Lib.hid hRa
            have HON : Hid (∀ u ∈ [Value.int .u8 32], u.oneCell' = true) := Lib.hid (fun u hu => by
              simp only [List.mem_cons, List.not_mem_nil, or_false] at hu
              rcases hu with rfl
              rfl)
            have h63 : m2 + 1 ≤ maxLen := by simp only [maxLen]; omega
            have hby : (m2 + 1) * 1 ≤ 140737488355328 := by omega
            clear hin hgf hBa hOa hRa
            go_wp2_with (at_builtin; refine wpList_append_rd _ rfl (.tmp 76) (.tmp 77) _ rfl w4.heap.size 5 i0 _ 1 1 Tryd.underlying51 hi hz0 hz1 hz2 rfl (by decide) _ m2 _ rfl HOA.out _ (some ⟨wc.heap.size, 0, none⟩) 1 1 _ rfl HRA.out HON.out h63 hby HBA.out.size ?_; intro A5 c5 w9 hown hfm hgr; have HO5 := Lib.hid hown; have HB5 := Lib.hid (own_below HOA.out hgr HBA.out (Nat.le_refl _) HBA.out.size); clear hown hfm hgr)
            refine ⟨⟨k + 1, m2 + 1, c5, A5, _, by omega, rfl, rfl, by omega, HBL9, Lib.hid (by rw [Lib.byteCells_append]; exact HO5.out), HB5⟩, ?_⟩
            simp only [intOf]; omega
      · have hm8' : ¬ (m : Int) ≤ 8000 := by omega
        have hm9' : (8000 : Int) < (m : Int) := by omega
        have HBx := Lib.hid (below_trans' HB4.out HBr.out)
        clear hm8
        go_wp2_with fail
        go_ret
        exact ⟨rfl, HBx.out⟩
    · have hlt' : ¬ (k : Int) < (n0 : Int) := by omega
      obtain rfl : k = n0 := by omega
      have HBx := Lib.hid (below_trans' HB4.out HBr.out)
      by_cases hm8 : m ≤ 8000
      case neg =>
        have hm9' : (8000 : Int) < (m : Int) := by omega
        clear hm8
        go_wp2_with fail
        go_ret
        exact ⟨rfl, HBx.out⟩
      have hm8' : ¬ (8000 : Int) < (m : Int) := by omega
      have hblm : bl.length = m := by have := HO.out.1; rw [Lib.byteCells_length] at this; omega
      have hbl := HBL.out
      rw [List.take_of_length_le (by rw [HN0.out]; exact Nat.le_refl _)] at hbl
      rw [← HLE.out] at hbl
      obtain ⟨g1, g2⟩ := gapQ_law HER.out bs (by rw [← hbl]; omega)
      rw [← hbl] at g1 g2
      obtain ⟨e1, e2⟩ := parse_er HER.out g1 g2
      have HE1 := Lib.hid e1
      have HE2 := Lib.hid e2
      obtain ⟨T, hT⟩ : ∃ T : ByteArray, (⟨bl.toArray⟩ : ByteArray) = T := ⟨_, rfl⟩
      have hTl : T.data.toList = bl := by rw [← hT]
      have hTs : T.size ≤ maxLen := by have : T.data.toList.length = T.size := Array.length_toList; rw [hTl] at this; unfold maxLen; omega
      have HPT := Lib.hid (fun W (q : Below w.heap.size w W) => parse_val T hTs W (HV.out.up q))
      rw [hTl] at HPT
      clear hblm hbl g1 g2 e1 e2 hTl hTs hm8
      go_wp2_with fail
      refine (HPs.out _ HBx.out).mono ?_
      rintro e3 w3 ⟨B, p, d, xs, D, q, dc, ds, rfl, hx, hd, hb3, hk3, hds⟩
      have HB3 := Lib.hid (below_trans' HBx.out hb3)
      have HX := Lib.hid hx
      have HD := Lib.hid hd
      have HK := Lib.hid hk3
      have hcv := conv_own (own_keep HO.out hb3)
      rw [hT] at hcv
      have HDS := Lib.hid hds
      clear hx hd hb3 hk3 hds hT
      go_wp2_with fail
      refine (HPT.out _ HB3.out).mono ?_
      rintro e5 w5 ⟨B5, p5, d5, ys, D5, q5, dc5, fs, rfl, hy, hf, hb5, hk5, hfs⟩
      have HB5 := Lib.hid (below_trans' HB3.out hb5)
      have HX5 := Lib.hid (HX.out.up hb5)
      have HD5 := Lib.hid (HD.out.up hb5)
      have HY5 := Lib.hid hy
      have HF5 := Lib.hid hf
      have hkc : xs.map keyC = ys.map keyC := by rw [keyC_of_R HK.out, keyC_of_R hk5, HE1.out]
      have HSB := Lib.hid (same_bare xs ys)
      rw [decide_eq_true hkc] at HSB
      have hee : ds.map (·.1) = fs.map (·.1) := by rw [HDS.out, hfs]; exact HE2.out
      have hqq : q = q5 := by
        have := congrArg List.length hee
        rw [List.length_map, List.length_map, HD5.out.1, hf.1] at this
        exact this
      subst hqq
      have HEE := Lib.hid hee
      have hp3 : p ≤ 100000 := by have h1 := key_len HK.out; rw [HX5.out.1] at h1; have := parse_300 l; omega
      have hp5 : p5 ≤ 100000 := by have h1 := key_len hk5; rw [hy.1] at h1; have := parse_300 bl; omega
      have hq20 : q ≤ 20 := by rw [← HD5.out.1, HDS.out]; exact (parse_dgs l).2.1
      clear hy hf hb5 hk5 hfs hkc hee hcv
      go_wp2_with fail
      go_loopw [96] (fun i wr => ∃ k2 : Nat, k2 ≤ q ∧ i = i64 (k2 : Nat) ∧ Hid (Below w5.heap.size w5 wr)) (fun i _ => q - (intOf i).toNat)
      case atStart => exact ⟨0, Nat.zero_le _, rfl, Lib.hid (Below.refl _ _)⟩
      case round =>
        obtain ⟨k2, hk2, rfl, HBq⟩ := hrel
        by_cases hl2 : k2 < q
        · have hl2' : (k2 : Int) < (q : Int) := by omega
          have hkd : k2 < ds.length := by rw [HD5.out.1]; exact hl2
          have hkf : k2 < fs.length := by rw [HF5.out.1]; exact hl2
          obtain ⟨b0, off0, rfl, hb0, hc0⟩ := rd_el (dec := decD) (s := 2) (fun _ => rfl) (HD5.out.up HBq.out).2.1 HD5.out.1 hkd
          obtain ⟨b6, off6, rfl, hb6, hc6⟩ := rd_el (dec := decD) (s := 2) (fun _ => rfl) (HF5.out.up HBq.out).2.1 HF5.out.1 hkf
          have hsame : ds[k2].1 = fs[k2].1 := by
            have h1 : (ds.map (·.1))[k2]? = (fs.map (·.1))[k2]? := by rw [HEE.out]
            rw [List.getElem?_map, List.getElem?_map, List.getElem?_eq_getElem hkd, List.getElem?_eq_getElem hkf] at h1
            injection h1
          have c1 := hc0 0 _ rfl
          have c2 := hc6 0 _ rfl
          rw [Nat.add_zero] at c1 c2
          rw [← hsame] at c2
          obtain ⟨x1, hx1⟩ : ∃ x, ds[k2].1 = x := ⟨_, rfl⟩
          rw [hx1] at c1 c2
          have d1' : decide ((q : Int) ≤ (k2 : Int)) = false := decide_eq_false (by omega)
          have d1n : decide (q ≤ k2) = false := decide_eq_false (by omega)
          have hup : ∀ a b, Below wr.heap.size wr a → Below a.heap.size a b → Below wr.heap.size wr b := fun a b h k => below_trans' h k
          have cup : ∀ {p : Addr} {u : Value} {W : World}, wr.cell? p = some u → Below wr.heap.size wr W → W.cell? p = some u := fun hc hb => (hb.cell (Lx.cell_lt hc)).trans hc
          have f0 : ∀ s : WOf (Below wr.heap.size wr), s.w.cell? ⟨b0, off0 + k2 * 2, none⟩ = some (.int .i64 (x1 : Nat)) := fun s => cup c1 s.ok
          have f2 : ∀ s : WOf (Below wr.heap.size wr), s.w.cell? ⟨b6, off6 + k2 * 2, none⟩ = some (.int .i64 (x1 : Nat)) := fun s => cup c2 s.ok
          clear hb0 hc0 hb6 hc6 hsame hx1 c1 c2 cup hkd hkf
          go_wp2_with fail
          refine wp_region_ext (Below wr.heap.size wr) (Below.refl _ _) hup (by kernel_rfl) (by kernel_rfl) (fun hne => ?_)
          try simp only [List.append_eq, List.cons_append, List.nil_append]
          repeat (go_big_quiet_step (fail))
          refine wpQuiet_nil ?_
          clear hne
          intro _ hx'
          obtain ⟨⟨wy, hxy⟩, hx''⟩ := hx'
          subst hx''
          clear f0 f2
          go_wp2_with fail
          refine ⟨⟨k2 + 1, by omega, rfl, Lib.hid (below_trans' HBq.out hxy)⟩, ?_⟩
          simp only [intOf]; omega
        · have hl2' : ¬ (k2 : Int) < (q : Int) := by omega
          have HB6 := Lib.hid (below_trans' HB5.out HBq.out)
          have HX6 := Lib.hid (HX5.out.up HBq.out)
          have HY6 := Lib.hid (HY5.out.up HBq.out)
          have HS6 := Lib.hid (strip_val B p d xs wr HX6.out hp3)
          go_wp2_with fail
          refine HS6.out.mono ?_
          rintro e7 w7 ⟨A7, c7, rfl, hi7, hb7⟩
          have HB7 := Lib.hid (below_trans' HB6.out hb7)
          have HI7 := Lib.hid hi7
          have HS7 := Lib.hid (strip_val B5 p5 d5 ys w7 (HY6.out.up hb7) hp5)
          clear hi7 hb7
          go_wp2_with fail
          refine HS7.out.mono ?_
          rintro e8 w8 ⟨A8, c8, rfl, hi8, hb8⟩
          have HB8 := Lib.hid (below_trans' HB7.out hb8)
          have HM8 := Lib.hid (same_val _ _ _ _ _ _ _ _ w8 (HI7.out.up hb8) hi8)
          rw [HSB.out] at HM8
          clear hi8 hb8
          go_wp2_with fail
          refine HM8.out.mono ?_
          rintro e9 w9 ⟨rfl, hb9⟩
          have HB9 := Lib.hid (below_trans' HB8.out hb9)
          clear hb9
          go_wp2_with fail
          go_ret
          exact ⟨rfl, HB9.out⟩
end Go.Proofs.YtjfcdfhcmkdicaaDoor.Ps
