/- The walk of the law of chapter 17 on a further jammer. -/
import Derived.Deep.RegionHeld3
import Derived.Deep.DeepCutAuto
import Derived.Deep.RegionLaw
import Derived.Test.YteeloebhjmmpdaaApp2
import Derived.Test.YteeloebhjmmpdaaMdLaws3
namespace Go.Proofs.Yteeloebhjmmpdaa.Md
open Go.RowKit Go.Proofs.Yteeloebhjmmpdaa.Pl
set_option linter.unusedVariables false

theorem info_jam : (Try.prog.info? 43).map (fun i => (i.zero, i.size, i.bytes)) = some (some (.agg #[.int .i64 0, .int .i64 0, .int .i64 0, .int .i64 0, .int .i64 0]), 5, 40) := by kernel_rfl
theorem one_decJ (a : Jm) : ∀ u ∈ decJ a, u.oneCell' = true := by
  intro u hu
  unfold decJ at hu
  simp only [List.mem_cons, List.not_mem_nil, or_false] at hu
  rcases hu with rfl | rfl | rfl | rfl | rfl <;> rfl

theorem blk5 {w : World} {g : Nat} {t : TypeId} {a b c d e : Value} (h : Blk w g t #[a, b, c, d, e]) : w.cell? ⟨g, 0, none⟩ = some a ∧ w.cell? ⟨g, 1, none⟩ = some b ∧ w.cell? ⟨g, 2, none⟩ = some c ∧ w.cell? ⟨g, 3, none⟩ = some d ∧ w.cell? ⟨g, 4, none⟩ = some e :=
  ⟨h.cell 0, h.cell 1, h.cell 2, h.cell 3, h.cell 4⟩

set_option maxRecDepth 100000 in
set_option maxHeartbeats 4000000 in
theorem mediumJams_walk (A : Option Addr) (n c : Nat) (ra : List Ac) (P : Option Addr) (m d : Nat) (ps : List Pt) (r : Int) (J : Option Addr) (k e : Nat) (js : List Jm) (asn : Int) (jj : Jm) (w : World)
    (g0 : IsActs w A n c ra) (g1 : IsPlaces w P m d ps) (g2 : (Lit.int .i64 r).wf = true) (g3 : IsJams w J k e js) (g4 : (Lit.int .i64 asn).wf = true) (g5 : wfJ jj) :
    Calls Try.prog 15 #[.slice A n c, .slice P m d, i64 r, .slice J k e, i64 asn, .agg #[i64 jj.p.1, i64 jj.p.2, i64 jj.r, i64 jj.ch, i64 jj.til]] w fun e w' => e = .returned (.bool true) ∧ Below w.heap.size w w' := by
  have hn := small_of g0
  have hm := small_of g1
  have hk := small_of g3
  obtain ⟨hl, hR, _, _, _⟩ := g0
  obtain ⟨hl1, hP, _, _, _⟩ := g1
  obtain ⟨hl3, hJ, _, _, _⟩ := g3
  clear g2 g4 g5
  obtain ⟨⟨jx, jy⟩, jr, jc, jt⟩ := jj
  dsimp only
  have HL := Lib.hid hl; clear hl
  have HM := Lib.hid hl1; clear hl1
  have HJ := Lib.hid hl3; clear hl3
  have hB0 := (Below.refl w.heap.size w).alloc (Nat.le_refl _) (.cells #[i64 jx, i64 jy, i64 jr, i64 jc, i64 jt] 43)
  have bJ := Blk.new w 43 #[i64 jx, i64 jy, i64 jr, i64 jc, i64 jt]
  cases hf : (fewB n m k && okm ra ps r asn)
  · have HF := Lib.hid hf; clear hf
    go_enter Try.func15, Try.ntmps15
    go_wp2_with fail
    refine (head_val _).mono ?_
    rintro e w1 ⟨rfl, hb1⟩
    have hB1 := hB0.trans (hb1.mono (by simp))
    go_wp2_with fail
    refine (valid_val A n c P m d w.heap.size J k _ ra ps r asn false HF.out _ (hR.below hB1) (hP.below hB1) hB1.size HL.out HM.out hn hm hk).mono ?_
    rintro e w2 ⟨rfl, hb2⟩
    go_wp2_with fail
    go_ret
    exact ⟨rfl, below_trans' hB1 hb2⟩
  · have hf2 := hf
    rw [Bool.and_eq_true] at hf2
    obtain ⟨hfew, hok⟩ := hf2
    obtain ⟨rfl, hn2⟩ : n = m ∧ n ≤ 200 := by
      have := hok
      rw [okm_frame, HL.out, HM.out] at this
      simp only [Bool.and_eq_true] at this
      exact ⟨(frame_true this.1).1, (frame_true this.1).2.1⟩
    have hk40 : k ≤ 40 := by unfold fewB at hfew; simp only [Bool.and_eq_true, decide_eq_true_eq] at hfew; exact hfew.2.2
    have HF := Lib.hid hf; clear hf hfew
    have HO := Lib.hid hok; clear hok
    obtain ⟨ij, hij, hz0, hz1, hz2⟩ := info_parts info_jam
    go_enter Try.func15, Try.ntmps15
    go_wp2_with fail
    refine (head_val _).mono ?_
    rintro e w1 ⟨rfl, hb1⟩
    have hB1 := hB0.trans (hb1.mono (by simp))
    have bJ1 := bJ.up' hb1
    go_wp2_with fail
    refine (valid_val A n c P n d w.heap.size J k _ ra ps r asn true HF.out _ (hR.below hB1) (hP.below hB1) hB1.size HL.out HM.out hn hm hk).mono ?_
    rintro e w2 ⟨rfl, hb2⟩
    have hB2 := below_trans' hB1 hb2
    have bJ2 := bJ1.up' hb2
    go_wp2_with fail
    refine (mdCatch_good A n c P d w.heap.size J k _ ra ps r js asn HO.out _ (hR.below hB2) (hP.below hB2) (hJ.below hB2) hB2.size HL.out HM.out HJ.out hk).mono ?_
    rintro e w3 ⟨G, rfl, hG, hb3⟩
    have hB3 := below_trans' hB2 hb3
    have BJ3 := Lib.hid (bJ2.up' hb3)
    have HG := Lib.hid hG
    clear hb1 hb2 hb3 hB1 hB2 bJ bJ1 bJ2 hG
    have j0 : w3.cell? ⟨w.heap.size, 0, none⟩ = some (i64 jx) := BJ3.out.cell 0
    have j1 : w3.cell? ⟨w.heap.size, 1, none⟩ = some (i64 jy) := BJ3.out.cell 1
    have j2 : w3.cell? ⟨w.heap.size, 2, none⟩ = some (i64 jr) := BJ3.out.cell 2
    have j3 : w3.cell? ⟨w.heap.size, 3, none⟩ = some (i64 jc) := BJ3.out.cell 3
    have j4 : w3.cell? ⟨w.heap.size, 4, none⟩ = some (i64 jt) := BJ3.out.cell 4
    have own1 : (w3.alloc (.cells #[] 43)).ownsRow w3.heap.size 43 5 (.slice (some ⟨w3.heap.size, 0, none⟩) 0 0) 0 [] := World.ownsRow_lit (base := w3.heap.size) (e := 43) (size := 5) w3 #[] 0 (Nat.le_refl _) (by decide) rfl
    have own2 := World.ownsRow_lit (base := w3.heap.size) (e := 43) (size := 5) (w3.alloc (.cells #[i64 jx, i64 jy, i64 jr, i64 jc, i64 jt] 43)) #[] 0 (by simp) (by decide) rfl
    rw [World.size_alloc] at own2
    have own1a : (w3.alloc (.cells #[] 43)).drew.ownsRow w3.heap.size 43 5 (.slice (some ⟨w3.heap.size, 0, none⟩) 0 0) 0 [] := own1
    have own1b : ((w3.alloc (.cells #[] 43)).alloc (.cells #[i64 jx, i64 jy, i64 jr, i64 jc, i64 jt] 43)).drew.ownsRow w3.heap.size 43 5 (.slice (some ⟨w3.heap.size, 0, none⟩) 0 0) 0 [] := own1.alloc (.cells #[i64 jx, i64 jy, i64 jr, i64 jc, i64 jt] 43)
    have own2a : ((w3.alloc (.cells #[i64 jx, i64 jy, i64 jr, i64 jc, i64 jt] 43)).alloc (.cells #[] 43)).drew.ownsRow w3.heap.size 43 5 (.slice (some ⟨w3.heap.size + 1, 0, none⟩) 0 0) 0 [] := own2
    have OW1 := Lib.hid own1a; clear own1 own1a
    have OW1b := Lib.hid own1b; clear own1b
    have OW2 := Lib.hid own2a; clear own2 own2a
    have hWa : Below w3.heap.size w3 (w3.alloc (.cells #[] 43)).drew := ((Below.refl _ w3).alloc (Nat.le_refl _) _).drew
    have hWb : Below w3.heap.size w3 ((w3.alloc (.cells #[] 43)).alloc (.cells #[i64 jx, i64 jy, i64 jr, i64 jc, i64 jt] 43)).drew := (((Below.refl _ w3).alloc (Nat.le_refl _) _).alloc (by simp) _).drew
    have hWc : Below w3.heap.size w3 ((w3.alloc (.cells #[i64 jx, i64 jy, i64 jr, i64 jc, i64 jt] 43)).alloc (.cells #[] 43)).drew := (((Below.refl _ w3).alloc (Nat.le_refl _) _).alloc (by simp) _).drew
    have bB : Blk ((w3.alloc (.cells #[] 43)).alloc (.cells #[i64 jx, i64 jy, i64 jr, i64 jc, i64 jt] 43)).drew (w3.heap.size + 1) 43 #[i64 jx, i64 jy, i64 jr, i64 jc, i64 jt] := by
      have := Blk.new (w3.alloc (.cells #[] 43)) 43 #[i64 jx, i64 jy, i64 jr, i64 jc, i64 jt]
      rw [World.size_alloc] at this
      exact this
    have bC : Blk ((w3.alloc (.cells #[i64 jx, i64 jy, i64 jr, i64 jc, i64 jt] 43)).alloc (.cells #[] 43)).drew w3.heap.size 43 #[i64 jx, i64 jy, i64 jr, i64 jc, i64 jt] := (Blk.new w3 _ _).alloc _
    have HWa := Lib.hid hWa; clear hWa
    have HWb := Lib.hid hWb; clear hWb
    have HWc := Lib.hid hWc; clear hWc
    have BB := Lib.hid bB; clear bB
    have BC := Lib.hid bC; clear bC
    have hJ3 := Lib.hid ((hJ.below hB3).more hB3.size)
    go_upto_region 5 with fail
    go_cut [16, 17] (fun s16 s17 wx => ∃ G' : Nat, s16 = .slice (some ⟨G', 0, none⟩) n n ∧ s17 = .int .i64 0 ∧ Hid (Rd wx wx.heap.size 1 (some ⟨G', 0, none⟩) n ((catl ra ps r (js ++ [⟨(jx, jy), jr, jc, jt⟩]) asn).map i64)) ∧ Below w3.heap.size w3 wx)
    case first =>
      go_region_held3 (fun W => W.cell? ⟨w.heap.size, 0, none⟩ = some (i64 jx) ∧ W.cell? ⟨w.heap.size, 1, none⟩ = some (i64 jy) ∧ W.cell? ⟨w.heap.size, 2, none⟩ = some (i64 jr) ∧ W.cell? ⟨w.heap.size, 3, none⟩ = some (i64 jc) ∧ W.cell? ⟨w.heap.size, 4, none⟩ = some (i64 jt)) (first | go_keep | (go_split_ands <;> assumption)) (first
        | ((refine step_append_rd2 _ (by rfl) (.tmp 43) (.tmp 44) _ (by rfl) w3.heap.size 43 ij _ 5 40 Try.underlying23 hij hz0 hz1 hz2 rfl (by decide) _ 0 [] (by rfl) ?ho w3.heap.size _ _ _ _ (by rfl) ?hr (one_flat one_decJ js) (by simp only [maxLen]; omega) (by omega) ?hb ?_); (case ho => first | exact OW1.out | exact OW1b.out | exact OW2.out); (case hr => first | exact hJ3.out.below HWa.out | exact hJ3.out.below HWb.out | exact hJ3.out.below HWc.out); (case hb => first | exact HWa.out.size | exact HWb.out.size | exact HWc.out.size); intro X1 q1 wj1 hown1 _ hg1 _; rw [Nat.zero_add]; simp only [Nat.zero_add, List.nil_append] at hown1; have HO1 := Lib.hid hown1; have hbj1 : Below w3.heap.size w3 wj1 := (by first | exact own_below OW1.out hg1 HWa.out (Nat.le_refl _) HWa.out.size | exact own_below OW1b.out hg1 HWb.out (Nat.le_refl _) HWb.out.size | exact own_below OW2.out hg1 HWc.out (Nat.le_refl _) HWc.out.size); (try have BX := Lib.hid (BB.out.grown hg1 (show some (w3.heap.size + 1) ≠ some w3.heap.size by simp))); (try have BX := Lib.hid (BC.out.grown hg1 (show some w3.heap.size ≠ some (w3.heap.size + 1) by simp))); obtain ⟨k0, k1, k2, k3, k4⟩ := blk5 (BJ3.out.up' hbj1); clear hown1 hg1)
        | (have _t := BX; (refine step_append_rd2 _ (by rfl) (.tmp 45) (.tmp 47) _ (by rfl) w3.heap.size 43 ij _ 5 40 Try.underlying23 hij hz0 hz1 hz2 rfl (by decide) _ k (js.flatMap decJ) (by rfl) HO1.out wj1.heap.size _ _ _ [i64 jx, i64 jy, i64 jr, i64 jc, i64 jt] (by rfl) (rd_blk BX.out 5 1 _ rfl rfl) (one_decJ ⟨(jx, jy), jr, jc, jt⟩) (by simp only [maxLen]; omega) (by omega) hbj1.size ?_); intro X2 q2 wj2 hown2 _ hg2 _; have hbj2 : Below w3.heap.size w3 wj2 := own_below HO1.out hg2 hbj1 (Nat.le_refl _) hbj1.size; have HO2 := Lib.hid (Rd.of_own hown2); obtain ⟨l0, l1, l2, l3, l4⟩ := blk5 (BJ3.out.up' hbj2); clear hown2 hg2)
        | ((refine step_append_rd2 _ (by rfl) (.tmp 45) (.tmp 47) _ (by rfl) w3.heap.size 43 ij _ 5 40 Try.underlying23 hij hz0 hz1 hz2 rfl (by decide) _ k (js.flatMap decJ) (by rfl) (HO1.out.alloc (.cells #[i64 jx, i64 jy, i64 jr, i64 jc, i64 jt] 43)) (wj1.heap.size + 1) _ _ _ [i64 jx, i64 jy, i64 jr, i64 jc, i64 jt] (by rfl) (rd_fresh wj1 43 #[i64 jx, i64 jy, i64 jr, i64 jc, i64 jt] 5 1 _ rfl rfl) (one_decJ ⟨(jx, jy), jr, jc, jt⟩) (by simp only [maxLen]; omega) (by omega) (hbj1.alloc hbj1.size (.cells #[i64 jx, i64 jy, i64 jr, i64 jc, i64 jt] 43)).size ?_); intro X2 q2 wj2 hown2 _ hg2 _; have hbj2 : Below w3.heap.size w3 wj2 := own_below (HO1.out.alloc (.cells #[i64 jx, i64 jy, i64 jr, i64 jc, i64 jt] 43)) hg2 (hbj1.alloc hbj1.size (.cells #[i64 jx, i64 jy, i64 jr, i64 jc, i64 jt] 43)) (Nat.le_refl _) (hbj1.alloc hbj1.size (.cells #[i64 jx, i64 jy, i64 jr, i64 jc, i64 jt] 43)).size; have HO2 := Lib.hid (Rd.of_own hown2); obtain ⟨l0, l1, l2, l3, l4⟩ := blk5 (BJ3.out.up' hbj2); clear hown2 hg2)
        | ((go_at_call 30; refine (mdCatch_good A n c P d wj2.heap.size X2 (k + 1) q2 ra ps r (js ++ [⟨(jx, jy), jr, jc, jt⟩]) asn HO.out _ ?h1 ?h2 ?h3 (Nat.le_refl _) HL.out HM.out ?h4 ?h5).mono ?_); (case h1 => exact ((hR.below hB3).below' hbj2 hB3.size).more (Nat.le_trans hB3.size hbj2.size)); (case h2 => exact ((hP.below hB3).below' hbj2 hB3.size).more (Nat.le_trans hB3.size hbj2.size)); (case h3 => rw [List.flatMap_append]; exact HO2.out); (case h4 => rw [List.length_append, HJ.out]; rfl); (case h5 => unfold maxLen; omega); rintro e w5 ⟨G', rfl, hG', hb5⟩; have HG' := Lib.hid hG'; have hbj5 := below_trans' hbj2 hb5; obtain ⟨n0, n1, n2, n3, n4⟩ := blk5 (BJ3.out.up' hbj5); clear hG' hb5)
        | fail)
      all_goals
        go_wp2_with fail
        go_meet
        exact ⟨G', rfl, rfl, HG', hbj5⟩
    case rest =>
      obtain ⟨G', rfl, rfl, HG', hbc⟩ := hcut
      have HG5 := Lib.hid (HG.out.up hbc)
      have BJ5 := Lib.hid (BJ3.out.up' hbc)
      have hB5 := below_trans' hB3 hbc
      clear HG BJ3 OW1 OW1b OW2 HWa HWb HWc BB BC hJ3 j0 j1 j2 j3 j4 hbc
      go_wp2_with fail
      go_loopw [18, 19, 20, 75] (fun _ _ _ i wr => ∃ t : Nat, t ≤ n ∧ i = .int .i64 t ∧ Below wc.heap.size wc wr) (fun _ _ _ i _ => n - (intOf i).toNat)
      case atStart => exact ⟨0, Nat.zero_le _, rfl, Below.refl _ _⟩
      case round =>
        obtain ⟨i, hi, rfl, hb7⟩ := hrel
        by_cases hlt : i < n
        · have hil : i < ra.length := by have := HL.out; omega
          have hip : i < ps.length := by have := HM.out; omega
          have hB7 := below_trans' hB5 hb7
          obtain ⟨b, off, rfl, hb, hc2⟩ := rd_el (dec := decA) (fun _ => rfl) (hR.below hB7) HL.out hil
          obtain ⟨q, qo, rfl, hq, hc4⟩ := rd_el (dec := decP) (fun _ => rfl) (hP.below hB7) HM.out hip
          obtain ⟨z, hz⟩ : ∃ z, cat ra ps r js asn i = z := ⟨_, rfl⟩
          obtain ⟨y, hy⟩ : ∃ y, cat ra ps r (js ++ [⟨(jx, jy), jr, jc, jt⟩]) asn i = y := ⟨_, rfl⟩
          have hjc := jams_cat (ra := ra) (ps := ps) (r := r) (asn := asn) (js := js) (j := ⟨(jx, jy), jr, jc, jt⟩) (i := i)
          rw [hz, hy, getD_of hil, getD_of hip] at hjc
          have cx : wr.cell? ⟨G, i, none⟩ = some (i64 z) := by
            obtain ⟨b', off', u, e, _, hu, hc⟩ := (HG5.out.up hb7).at_ hlt
            simp only [Option.some.injEq, Addr.mk.injEq, and_true] at e
            obtain ⟨rfl, rfl⟩ := e
            rw [List.getElem?_map, catl_get hil, hz] at hu
            rw [Nat.zero_add] at hc
            rw [hc]
            simpa using hu.symm
          have cy : wr.cell? ⟨G', i, none⟩ = some (i64 y) := by
            obtain ⟨b', off', u, e, _, hu, hc⟩ := (HG'.out.up hb7).at_ hlt
            simp only [Option.some.injEq, Addr.mk.injEq, and_true] at e
            obtain ⟨rfl, rfl⟩ := e
            rw [List.getElem?_map, catl_get hil, hy] at hu
            rw [Nat.zero_add] at hc
            rw [hc]
            simpa using hu.symm
          have CX := Lib.hid cx; clear cx hz
          have CY := Lib.hid cy; clear cy hy
          obtain ⟨⟨la, lc, ls, ll, lh⟩, el⟩ : ∃ a, ra[i] = a := ⟨_, rfl⟩
          obtain ⟨⟨ox, oy⟩, eo⟩ : ∃ a, ps[i] = a := ⟨_, rfl⟩
          rw [el] at hc2 hjc
          rw [eo] at hc4 hjc
          dsimp only at hjc
          have c0 : wr.cell? ⟨b, off + i * 5, none⟩ = some (i64 la) := hc2 0 _ rfl
          have c1 : wr.cell? ⟨b, off + i * 5 + 1, none⟩ = some (i64 lc) := hc2 1 _ rfl
          have c2 : wr.cell? ⟨b, off + i * 5 + 2, none⟩ = some (i64 ls) := hc2 2 _ rfl
          have c3 : wr.cell? ⟨b, off + i * 5 + 3, none⟩ = some (i64 ll) := hc2 3 _ rfl
          have c4 : wr.cell? ⟨b, off + i * 5 + 4, none⟩ = some (i64 lh) := hc2 4 _ rfl
          have bA := Blk.new wr 55 #[i64 la, i64 lc, i64 ls, i64 ll, i64 lh]
          have hBA := (Below.refl wr.heap.size wr).alloc (Nat.le_refl _) (.cells #[i64 la, i64 lc, i64 ls, i64 ll, i64 lh] 55)
          obtain ⟨W2, hW2⟩ : ∃ W2, W2 = wr.alloc (.cells #[i64 la, i64 lc, i64 ls, i64 ll, i64 lh] 55) := ⟨_, rfl⟩
          rw [← hW2] at bA hBA
          have HW2 := Lib.hid hW2; clear hW2
          have hb8 := below_trans' hb7 hBA
          have cyW := cup CY.out hBA
          have cxW := cup CX.out hBA
          have CYW := Lib.hid cyW; clear cyW
          have CXW := Lib.hid cxW; clear cxW
          by_cases h1 : la = 1
          · subst h1
            obtain ⟨v, hv⟩ : ∃ v, jams ⟨(jx, jy), jr, jc, jt⟩ (ox, oy) lc asn = v := ⟨_, rfl⟩
            have hjv : jammed [⟨(jx, jy), jr, jc, jt⟩] (ox, oy) lc asn = v := by rw [← hv]; simp [jammed]
            rw [hv] at hjc
            have hjc' : y = if v = true then -2 else z := by rw [hjc]; simp
            have HJC := Lib.hid hjc'; clear hjc hjc' hv
            have a0 : W2.cell? ⟨wr.heap.size, 0, none⟩ = some (i64 1) := bA.cell 0
            have a1 : W2.cell? ⟨wr.heap.size, 1, none⟩ = some (i64 lc) := bA.cell 1
            have p0 : W2.cell? ⟨q, qo + i * 2, none⟩ = some (i64 ox) := cup (hc4 0 _ rfl) hBA
            have p1 : W2.cell? ⟨q, qo + i * 2 + 1, none⟩ = some (i64 oy) := cup (hc4 1 _ rfl) hBA
            obtain ⟨j0, j1, j2, j3, j4⟩ := blk5 ((BJ5.out.up' hb7).up' hBA)
            clear hc2 hc4
            have hrd : Rd (W2.alloc (.cells #[i64 jx, i64 jy, i64 jr, i64 jc, i64 jt] 43)).drew (W2.heap.size + 1) 5 (some ⟨W2.heap.size, 0, none⟩) 1 ([(⟨(jx, jy), jr, jc, jt⟩ : Jm)].flatMap decJ) := rd_fresh W2 43 #[i64 jx, i64 jy, i64 jr, i64 jc, i64 jt] 5 1 _ rfl rfl
            have JV := Lib.hid (jammed_val (some ⟨W2.heap.size, 0, none⟩) 1 1 (W2.heap.size + 1) [⟨(jx, jy), jr, jc, jt⟩] ox oy lc asn v hjv (W2.alloc (.cells #[i64 jx, i64 jy, i64 jr, i64 jc, i64 jt] 43)).drew hrd (by simp) rfl (by decide))
            have hW9 : Below W2.heap.size W2 (W2.alloc (.cells #[i64 jx, i64 jy, i64 jr, i64 jc, i64 jt] 43)).drew := ((Below.refl W2.heap.size W2).alloc (Nat.le_refl _) _).drew
            have HW9 := Lib.hid hW9; clear hW9 hrd hjv
            go_upto_region 11 with fail
            rw [← HW2.out]
            clear c0 c1 c2 c3 c4
            go_region_held3 (fun W => (W.cell? ⟨wr.heap.size, 0, none⟩ = some (i64 1) ∧ W.cell? ⟨wr.heap.size, 1, none⟩ = some (i64 lc)) ∧ (W.cell? ⟨q, qo + i * 2, none⟩ = some (i64 ox) ∧ W.cell? ⟨q, qo + i * 2 + 1, none⟩ = some (i64 oy)) ∧ (W.cell? ⟨w.heap.size, 0, none⟩ = some (i64 jx) ∧ W.cell? ⟨w.heap.size, 1, none⟩ = some (i64 jy) ∧ W.cell? ⟨w.heap.size, 2, none⟩ = some (i64 jr) ∧ W.cell? ⟨w.heap.size, 3, none⟩ = some (i64 jc) ∧ W.cell? ⟨w.heap.size, 4, none⟩ = some (i64 jt))) (first | go_keep | (go_split_ands <;> assumption)) (first
              | (go_at_call 23; (refine JV.out.mono ?_); rintro e w9 ⟨rfl, hb9⟩; have hb9' := HW9.out.trans (hb9.mono HW9.out.size); have s0 := cup a0 hb9'; have s1 := cup a1 hb9'; have s2 := cup p0 hb9'; have s3 := cup p1 hb9'; have s4 := cup j0 hb9'; have s5 := cup j1 hb9'; have s6 := cup j2 hb9'; have s7 := cup j3 hb9'; have s8 := cup j4 hb9')
              | fail)
            have cx := cup CXW.out hb9'
            have cy := cup CYW.out hb9'
            have hb10 := below_trans' hb8 hb9'
            clear s0 s1 s2 s3 s4 s5 s6 s7 s8 a0 a1 p0 p1 j0 j1 j2 j3 j4
            cases v
            · obtain rfl : y = z := HJC.out
              go_wp2_with fail
              go_quiet (fail)
              go_wp2_with fail
              go_roundw
              case rel => exact ⟨i + 1, by omega, by go_num, below_drewN' hb10 _⟩
              case measure => simp [intOf]; omega
            · obtain rfl : y = -2 := HJC.out
              go_wp2_with fail
              go_quiet (fail)
              go_wp2_with fail
              go_roundw
              case rel => exact ⟨i + 1, by omega, by go_num, below_drewN' hb10 _⟩
              case measure => simp [intOf]; omega
          · obtain rfl : y = z := by rw [hjc, if_neg (fun h => h1 h.1)]
            have k1 : (la == 1) = false := by rw [beq_eq_false_iff_ne]; exact h1
            have hup : ∀ a b, Below W2.heap.size W2 a → Below a.heap.size a b → Below W2.heap.size W2 b := fun a b h k => below_trans' h k
            have a0 : ∀ s : WOf (Below W2.heap.size W2), s.w.cell? ⟨wr.heap.size, 0, none⟩ = some (i64 la) := fun s => (bA.up' s.ok).cell 0
            clear hjc h1 hc2 hc4
            go_wp2_with fail
            rw [← HW2.out]
            refine wp_region_ext (Below W2.heap.size W2) (Below.refl _ _) hup (by kernel_rfl) (by kernel_rfl) (fun hne => ?_)
            try simp only [List.append_eq, List.cons_append, List.nil_append]
            repeat (go_big_quiet_step (fail))
            refine wpQuiet_nil ?_
            clear hne
            intro wx hx'
            obtain ⟨⟨_, hx⟩, hx''⟩ := hx'
            subst hx''
            have cx := cup CXW.out hx
            have cy := cup CYW.out hx
            have hb10 := below_trans' hb8 hx
            clear a0 c0 c1 c2 c3 c4
            go_wp2_with fail
            go_quiet (fail)
            go_wp2_with fail
            go_roundw
            case rel => exact ⟨i + 1, by omega, by go_num, below_drewN' hb10 _⟩
            case measure => simp [intOf]; omega
        · go_wp2_with fail
          go_ret
          exact ⟨rfl, below_trans' hB5 hb7⟩
end Go.Proofs.Yteeloebhjmmpdaa.Md
