/- The walk of the statement on canonical texts: other gaps, the same canonical text; it is its own canonical text. -/
import Derived.Deep.RegionHeld3
import Derived.Test.YtmdogklgbifacaaDoorPsCan3
namespace Go.Proofs.YtmdogklgbifacaaDoor.Pr
open Go.RowKit Go.Proofs.YtmdogklgbifacaaDoor.Lx Go.Proofs.YtmdogklgbifacaaDoor.Ps
set_option linter.unusedVariables false

def kindB (j : Nat) : List UInt8 := if j = 0 then [32] else if j = 1 then [10] else if j = 2 then [9] else [32, 35, 32, 120, 32, 59, 10]
theorem kind_good (j : Nat) : GoodG (kindB j) ∧ kindB j ≠ [] := by
  unfold kindB
  split
  · exact ⟨good_blank, by simp⟩
  · split
    · exact ⟨good_line, by simp⟩
    · split
      · exact ⟨goodG_of (c := 9) (r := []) (by decide) (by decide) (by kernel_rfl) (by kernel_rfl) (by kernel_rfl), by simp⟩
      · exact ⟨goodG_of (c := 32) (r := [35, 32, 120, 32, 59, 10]) (by decide) (by decide) (by kernel_rfl) (by kernel_rfl) (by kernel_rfl), by simp⟩
def gapF (bs : List UInt8) (i : Nat) : List UInt8 := kindB (if h : i < bs.length then (bs[i]).toNat % 4 else 0)
theorem other_law {l : List UInt8} (he : (LEX l).err = 0) (bs : List UInt8) (hlen : (gtx (gapR (gapF bs) 0 (LEX l).toks)).length ≤ 8000) :
    (LEX (gtx (gapR (gapF bs) 0 (LEX l).toks))).err = 0 ∧ (LEX (gtx (gapR (gapF bs) 0 (LEX l).toks))).toks.map er = (LEX l).toks.map er := by
  have hg := LEX_good (l := l) he
  have hgood := gapR_good (gapF bs) (fun i => kind_good _) (LEX l).toks 0 (fun t ht => (all_good _ [] l 0 0 _ rfl hg.2.1 t ht).imp fun _ h => h.1)
  have h1 := (gtx_LEX hgood).1 hlen (by rw [gapR_len]; exact LEX_len l)
  rw [h1]
  exact ⟨rfl, gapR_er _ _ _ _⟩
theorem txt_len {l : List UInt8} (he : (LEX l).err = 0) : ∀ t ∈ (LEX l).toks, (textL t).length ≤ 8000 := by
  have hg := LEX_good (l := l) he
  intro t ht
  obtain ⟨_, _, h2⟩ := all_good _ [] l 0 0 _ rfl hg.2.1 t ht
  exact Nat.le_trans h2 hg.1
theorem kind_len (j : Nat) : (kindB j).length ≤ 7 := by
  unfold kindB
  split
  · decide
  · split
    · decide
    · split <;> decide
theorem gapR_size (bs : List UInt8) : ∀ (ts : List Tok) (i : Nat), (∀ t ∈ ts, (textL t).length ≤ 8000) → (gtx (gapR (gapF bs) i ts)).length ≤ ts.length * 8007
  | [], i, _ => Nat.le_refl _
  | t :: ts, i, h => by
    have h1 := h t (List.mem_cons_self ..)
    have h2 := gapR_size bs ts (i + 1) (fun u hu => h u (List.mem_cons_of_mem _ hu))
    have h3 : (gapF bs i).length ≤ 7 := kind_len _
    simp only [gapR, gtx, List.length_append, List.length_cons]
    omega
theorem keyC_of_R {xs : List Cm} {cs : List PC} (h : xs.map keyQ = cs.map keyR) : xs.map keyC = cs.map keyP := by
  have h1 : xs.map keyC = (xs.map keyQ).map (fun x => (x.1, x.2.1, x.2.2.1)) := by rw [List.map_map]; rfl
  have h2 : cs.map keyP = (cs.map keyR).map (fun x => (x.1, x.2.1, x.2.2.1)) := by rw [List.map_map]; rfl
  rw [h1, h, ← h2]
theorem valid_of {xs : List Cm} {l : List UInt8} (h : xs.map keyQ = (PARSE l).1.map keyR) (h2 : (PARSE l).2 = []) (he : (LEX l).err = 0) : validB xs = true := by
  obtain ⟨g1, g2, _⟩ := parse_good h2 he
  have hk := keyC_of_R h
  rw [valid_key, hk, List.length_map, List.all_map]
  rw [Bool.and_eq_true]
  refine ⟨decide_eq_true g1, List.all_eq_true.2 (fun c hc => g2 c hc)⟩
theorem canon {xs : List Cm} (hv : validB xs = true) : (printL xs = ([], 2)) ∨ (printL xs = (outL xs, 0) ∧ PARSE (outL xs) = (cmdsAt 0 xs, [])) := by
  rw [print_law]
  rcases rprint_cases xs with ⟨x1, _⟩ | ⟨_, _, x2⟩ | ⟨x1, x8, x2000, x2⟩
  · rw [hv] at x1; cases x1
  · exact .inl x2
  · exact .inr ⟨x2, parse_out x1 x8 x2000⟩
set_option maxRecDepth 100000 in
set_option maxHeartbeats 4000000 in
theorem printerCanonical_walk (s : ByteArray) (A : Option Addr) (n c : Nat) (bs : List UInt8) (w : World) (hs : s.size ≤ maxLen) (_hz : s.size ≤ 140737488351232) (hb : IsBytes w A n c bs) (hv : VarP w) :
    Calls Tryd.prog 7 #[.string s, .slice A n c] w fun e w' => e = .returned (.bool true) ∧ Below w.heap.size w w' := by
  have HH := Lib.hid (head_val w hv)
  have HV := Lib.hid hv
  have HBs := Lib.hid hb
  have HL := Lib.hid (fun W => rlex_val s hs W)
  have HPs := Lib.hid (fun W (q : Below w.heap.size w W) => parse_val s hs W (HV.out.up q).err)
  obtain ⟨l, hl⟩ : ∃ l, s.data.toList = l := ⟨_, rfl⟩
  rw [hl] at HL HPs
  obtain ⟨L, hL⟩ : ∃ L, LEX l = L := ⟨_, rfl⟩
  rw [hL] at HL
  have HLE := Lib.hid hL
  clear hs _hz hb hv hl hL
  go_enter Tryd.func7, Tryd.ntmps7
  go_wp2_with fail
  refine HH.out.mono ?_
  rintro e1 w1 ⟨rfl, hb1⟩
  have HB1 := Lib.hid hb1
  clear hb1
  go_wp2_with fail
  refine (HL.out _).mono ?_
  rintro e2 w2 ⟨A0, n0, c0, rfl, hT, hb2⟩
  have HB2 := Lib.hid (below_trans' HB1.out hb2)
  have HT := Lib.hid hT
  clear hT hb2
  go_wp2_with fail
  refine (HPs.out _ HB2.out).mono ?_
  rintro e3 w3 ⟨B, m, d, xs, D, k, f, ds, rfl, hx, hd, hb3, hk, hds⟩
  have HB3 := Lib.hid (below_trans' HB2.out hb3)
  have HX := Lib.hid hx
  have HK := Lib.hid hk
  have HT3 := Lib.hid (HT.out.up hb3)
  have hkl := hd.1
  clear hx hd hb3 hk HT
  by_cases hgood : L.err = 0 ∧ ds = []
  · obtain ⟨herr, hds0⟩ := hgood
    have hk0 : k = 0 := by rw [← hkl, hds0]; rfl
    subst hk0
    have f1 : ((L.err : Int) != 0) = false := by rw [herr]; rfl
    have HER : Hid ((LEX l).err = 0) := Lib.hid (by rw [HLE.out]; exact herr)
    have HDS : Hid ((PARSE l).2 = []) := Lib.hid (by rw [← hds, hds0])
    have HVX := Lib.hid (valid_of HK.out HDS.out HER.out)
    have BK := Lib.hid (Blk.new w3 9 #[.string ⟨#[32]⟩, .string ⟨#[10]⟩, .string ⟨#[9]⟩, .string ⟨#[32, 35, 32, 120, 32, 59, 10]⟩])
    have HA4 : Hid (Below w3.heap.size w3 (w3.alloc (.cells #[.string ⟨#[32]⟩, .string ⟨#[10]⟩, .string ⟨#[9]⟩, .string ⟨#[32, 35, 32, 120, 32, 59, 10]⟩] 9))) := Lib.hid ((Below.refl _ _).alloc (Nat.le_refl _) _)
    have HN0 := Lib.hid HT3.out.2.1
    clear hds hds0 hkl herr
    go_wp2_with fail
    obtain ⟨w4, hw4⟩ : ∃ w4, w3.alloc (.cells #[.string ⟨#[32]⟩, .string ⟨#[10]⟩, .string ⟨#[9]⟩, .string ⟨#[32, 35, 32, 120, 32, 59, 10]⟩] 9) = w4 := ⟨_, rfl⟩
    rw [hw4] at BK HA4 ⊢
    have HB4 := Lib.hid (below_trans' HB3.out HA4.out)
    have HT4 := Lib.hid (HT3.out.up HA4.out)
    have HX4 := Lib.hid (HX.out.up HA4.out)
    clear hw4
    go_loopw [49, 12] (fun i o wr => ∃ (k : Nat) (O : ByteArray), k ≤ n0 ∧ i = i64 (k : Nat) ∧ o = .string O ∧ Hid (O.data.toList = gtx (gapR (gapF bs) 0 (L.toks.take k))) ∧ Hid (Below w4.heap.size w4 wr)) (fun i _ _ => n0 - (intOf i).toNat)
    case atStart => exact ⟨0, ⟨#[]⟩, Nat.zero_le _, rfl, rfl, Lib.hid (by rw [List.take_zero]; rfl), Lib.hid (Below.refl _ _)⟩
    case round =>
      obtain ⟨k, O, hk, rfl, rfl, HO, HBr⟩ := hrel
      by_cases hlt : k < n0
      · have hlt' : (k : Int) < (n0 : Int) := by omega
        have hn20 : (k : Int) + 1 ≤ 2001 := by
          have h3 := LEX_len l
          rw [HLE.out, HN0.out] at h3
          omega
        have hkw : wrap64 ((k : Int) + 1) = (k : Int) + 1 := Go.IntWalk.wrap64_in _ (by omega)
        have hkl : k < L.toks.length := by rw [HN0.out]; exact hlt
        have hTr := HT4.out.up HBr.out
        obtain ⟨b, off, rfl, hb, hc⟩ := rd_el (dec := decT) (s := 4) (fun _ => rfl) hTr.1 HN0.out hkl
        have htl8 : (textB L.toks[k]).size ≤ 8000 := by
          have h1 : (textL L.toks[k]).length = (textB L.toks[k]).size := Array.length_toList
          have h2 := txt_len HER.out L.toks[k] (by rw [HLE.out]; exact List.getElem_mem hkl)
          omega
        have hOl : O.size ≤ 2000 * 8007 := by
          have h1 : O.data.toList.length = O.size := Array.length_toList
          have h2 := gapR_size bs (L.toks.take k) 0 (fun t ht => txt_len HER.out t (by rw [HLE.out]; exact List.mem_of_mem_take ht))
          have h3 := LEX_len l
          rw [HLE.out] at h3
          rw [List.length_take, Nat.min_eq_left (Nat.le_of_lt hkl)] at h2
          rw [← h1, HO.out]
          omega
        have hwt := ((lex_wf l).1 L.toks[k] (by rw [HLE.out]; exact List.getElem_mem hkl)).1
        have HTX := Lib.hid (text_val L.toks[k] hwt.n)
        have htk : L.toks.take (k + 1) = L.toks.take k ++ [L.toks[k]] := List.take_succ_eq_append_getElem hkl
        have HGS : Hid (gtx (gapR (gapF bs) 0 (L.toks.take (k + 1))) = gtx (gapR (gapF bs) 0 (L.toks.take k)) ++ ((textB L.toks[k]).data.toList ++ gapF bs k)) := Lib.hid (by
          rw [htk, gapR_snoc, List.length_take, Nat.min_eq_left (Nat.le_of_lt hkl), Nat.zero_add]; rfl)
        obtain ⟨⟨tk, tx, tn, tp⟩, hx⟩ : ∃ x, L.toks[k] = x := ⟨_, rfl⟩
        rw [hx] at hc HTX HGS htl8
        have c0 := hc 0 _ rfl
        have c1 := hc 1 _ rfl
        have c2 := hc 2 _ rfl
        have c3 := hc 3 _ rfl
        rw [Nat.add_zero] at c0
        dsimp only at c0 c1 c2 c3 HTX
        obtain ⟨X, hX⟩ : ∃ X, textB ⟨tk, tx, tn, tp⟩ = X := ⟨_, rfl⟩
        rw [hX] at HTX HGS htl8
        have hK := BK.out.up' HBr.out
        have BT := Lib.hid (Blk.new wr 41 #[i64 (tk : Nat), .string tx, i64 (tn : Nat), i64 (tp : Nat)])
        have HA5 : Hid (Below wr.heap.size wr (wr.alloc (.cells #[i64 (tk : Nat), .string tx, i64 (tn : Nat), i64 (tp : Nat)] 41))) := Lib.hid ((Below.refl _ _).alloc (Nat.le_refl _) _)
        have HK5 := Lib.hid (hK.up' HA5.out)
        clear hlt hb hc hx hX hwt hTr htk hkl hK
        obtain ⟨w5, hw5⟩ : ∃ w5, wr.alloc (.cells #[i64 (tk : Nat), .string tx, i64 (tn : Nat), i64 (tp : Nat)] 41) = w5 := ⟨_, rfl⟩
        have HW5 := Lib.hid hw5
        have hq1 : ¬ 9223372036854775807 < X.size + 1 := by omega
        have hq3 : ¬ 9223372036854775807 < X.size + 7 := by omega
        have hq2 : ¬ 9223372036854775807 < O.size + (X.size + 1) := by omega
        have hq4 : ¬ 9223372036854775807 < O.size + (X.size + 7) := by omega
        rw [hw5] at BT HA5 HK5
        clear hw5
        by_cases hin : k < n
        · have hin' : (k : Int) < (n : Int) := by omega
          have hbl : k < bs.length := by rw [HBs.out.1]; exact hin
          have hRb : Rd w5 w.heap.size 1 A n (bs.flatMap fun c => [ub c]) := by
            rw [flat_one]
            exact HBs.out.2.1.below (HB4.out.trans ((HBr.out.trans (HA5.out.mono HBr.out.size)).mono HB4.out.size))
          obtain ⟨gb, goff, rfl, hgb, hgc⟩ := rd_el (dec := fun c => [ub c]) (s := 1) (fun _ => rfl) hRb HBs.out.1 hbl
          have gx := hgc 0 _ rfl
          rw [Nat.add_zero, Nat.mul_one] at gx
          obtain ⟨j, hj⟩ : ∃ j, (bs[k]).toNat % 4 = j := ⟨_, rfl⟩
          have hj4 : j < 4 := by rw [← hj]; exact Nat.mod_lt _ (by decide)
          have hmod : ((bs[k]).toNat : Int).tmod 4 = (j : Int) := by rw [Int.tmod_eq_emod_of_nonneg (by omega), ← hj]; rfl
          have hgf : gapF bs k = kindB j := by unfold gapF; rw [dif_pos hbl, hj]
          rw [hgf] at HGS
          have hb255 : (bs[k]).toNat ≤ 255 := by have := UInt8.toNat_lt bs[k]; omega
          obtain ⟨y, hy⟩ : ∃ y, (bs[k]).toNat = y := ⟨_, rfl⟩
          unfold ub at gx
          rw [hy] at gx hmod hb255
          rw [← HW5.out] at gx
          clear hin hRb hgb hgc hj hgf hbl hy
          have hj' : j = 0 ∨ j = 1 ∨ j = 2 ∨ j = 3 := by omega
          clear hj4
          rcases hj' with rfl | rfl | rfl | rfl
          · go_wp2_with fail
            rw [show wr.alloc (.cells #[.int .i64 (tk : Nat), .string tx, .int .i64 (tn : Nat), .int .i64 (tp : Nat)] 41) = w5 from HW5.out]
            have e0 : w5.drew.cell? ⟨wr.heap.size, 0, none⟩ = some (i64 (tk : Nat)) := BT.out.drew.cell 0
            have e1 : w5.drew.cell? ⟨wr.heap.size, 1, none⟩ = some (.string tx) := BT.out.drew.cell 1
            have e2 : w5.drew.cell? ⟨wr.heap.size, 2, none⟩ = some (i64 (tn : Nat)) := BT.out.drew.cell 2
            have e3 : w5.drew.cell? ⟨wr.heap.size, 3, none⟩ = some (i64 (tp : Nat)) := BT.out.drew.cell 3
            have ek : w5.drew.cell? ⟨w3.heap.size, 0, none⟩ = some (.string ⟨#[32]⟩) := HK5.out.drew.cell 0
            go_region_held3 (fun W' => (((W'.cell? ⟨wr.heap.size, 0, none⟩ = some (i64 (tk : Nat)) ∧ W'.cell? ⟨wr.heap.size, 1, none⟩ = some (.string tx)) ∧ W'.cell? ⟨wr.heap.size, 2, none⟩ = some (i64 (tn : Nat))) ∧ W'.cell? ⟨wr.heap.size, 3, none⟩ = some (i64 (tp : Nat))) ∧ W'.cell? ⟨w3.heap.size, 0, none⟩ = some (.string ⟨#[32]⟩)) (first | exact ⟨⟨⟨⟨e0, e1⟩, e2⟩, e3⟩, ek⟩ | exact ⟨⟨⟨⟨g0, g1⟩, g2⟩, g3⟩, gk⟩) (first | (go_at_call 19; refine (HTX.out _).mono ?_; rintro e9 w9 ⟨rfl, hb9⟩; have HB9 := Lib.hid hb9; have g0 : w9.cell? ⟨wr.heap.size, 0, none⟩ = some (i64 (tk : Nat)) := (BT.out.drew.up' hb9).cell 0; have g1 : w9.cell? ⟨wr.heap.size, 1, none⟩ = some (.string tx) := (BT.out.drew.up' hb9).cell 1; have g2 : w9.cell? ⟨wr.heap.size, 2, none⟩ = some (i64 (tn : Nat)) := (BT.out.drew.up' hb9).cell 2; have g3 : w9.cell? ⟨wr.heap.size, 3, none⟩ = some (i64 (tp : Nat)) := (BT.out.drew.up' hb9).cell 3; have gk : w9.cell? ⟨w3.heap.size, 0, none⟩ = some (.string ⟨#[32]⟩) := (HK5.out.drew.up' hb9).cell 0; clear hb9) | fail)
            go_wp2_with fail
            refine ⟨⟨k + 1, O ++ (X ++ ⟨#[32]⟩), by omega, rfl, rfl, Lib.hid ?_, Lib.hid (below_trans' HBr.out (below_trans' HA5.out (below_trans' (Below.refl _ _).drew HB9.out)))⟩, ?_⟩
            · rw [HGS.out, add_list, add_list, HO.out]; rfl
            · simp only [intOf]; omega
          · go_wp2_with fail
            rw [show wr.alloc (.cells #[.int .i64 (tk : Nat), .string tx, .int .i64 (tn : Nat), .int .i64 (tp : Nat)] 41) = w5 from HW5.out]
            have e0 : w5.drew.cell? ⟨wr.heap.size, 0, none⟩ = some (i64 (tk : Nat)) := BT.out.drew.cell 0
            have e1 : w5.drew.cell? ⟨wr.heap.size, 1, none⟩ = some (.string tx) := BT.out.drew.cell 1
            have e2 : w5.drew.cell? ⟨wr.heap.size, 2, none⟩ = some (i64 (tn : Nat)) := BT.out.drew.cell 2
            have e3 : w5.drew.cell? ⟨wr.heap.size, 3, none⟩ = some (i64 (tp : Nat)) := BT.out.drew.cell 3
            have ek : w5.drew.cell? ⟨w3.heap.size, 1, none⟩ = some (.string ⟨#[10]⟩) := HK5.out.drew.cell 1
            go_region_held3 (fun W' => (((W'.cell? ⟨wr.heap.size, 0, none⟩ = some (i64 (tk : Nat)) ∧ W'.cell? ⟨wr.heap.size, 1, none⟩ = some (.string tx)) ∧ W'.cell? ⟨wr.heap.size, 2, none⟩ = some (i64 (tn : Nat))) ∧ W'.cell? ⟨wr.heap.size, 3, none⟩ = some (i64 (tp : Nat))) ∧ W'.cell? ⟨w3.heap.size, 1, none⟩ = some (.string ⟨#[10]⟩)) (first | exact ⟨⟨⟨⟨e0, e1⟩, e2⟩, e3⟩, ek⟩ | exact ⟨⟨⟨⟨g0, g1⟩, g2⟩, g3⟩, gk⟩) (first | (go_at_call 19; refine (HTX.out _).mono ?_; rintro e9 w9 ⟨rfl, hb9⟩; have HB9 := Lib.hid hb9; have g0 : w9.cell? ⟨wr.heap.size, 0, none⟩ = some (i64 (tk : Nat)) := (BT.out.drew.up' hb9).cell 0; have g1 : w9.cell? ⟨wr.heap.size, 1, none⟩ = some (.string tx) := (BT.out.drew.up' hb9).cell 1; have g2 : w9.cell? ⟨wr.heap.size, 2, none⟩ = some (i64 (tn : Nat)) := (BT.out.drew.up' hb9).cell 2; have g3 : w9.cell? ⟨wr.heap.size, 3, none⟩ = some (i64 (tp : Nat)) := (BT.out.drew.up' hb9).cell 3; have gk : w9.cell? ⟨w3.heap.size, 1, none⟩ = some (.string ⟨#[10]⟩) := (HK5.out.drew.up' hb9).cell 1; clear hb9) | fail)
            go_wp2_with fail
            refine ⟨⟨k + 1, O ++ (X ++ ⟨#[10]⟩), by omega, rfl, rfl, Lib.hid ?_, Lib.hid (below_trans' HBr.out (below_trans' HA5.out (below_trans' (Below.refl _ _).drew HB9.out)))⟩, ?_⟩
            · rw [HGS.out, add_list, add_list, HO.out]; rfl
            · simp only [intOf]; omega
          · go_wp2_with fail
            rw [show wr.alloc (.cells #[.int .i64 (tk : Nat), .string tx, .int .i64 (tn : Nat), .int .i64 (tp : Nat)] 41) = w5 from HW5.out]
            have e0 : w5.drew.cell? ⟨wr.heap.size, 0, none⟩ = some (i64 (tk : Nat)) := BT.out.drew.cell 0
            have e1 : w5.drew.cell? ⟨wr.heap.size, 1, none⟩ = some (.string tx) := BT.out.drew.cell 1
            have e2 : w5.drew.cell? ⟨wr.heap.size, 2, none⟩ = some (i64 (tn : Nat)) := BT.out.drew.cell 2
            have e3 : w5.drew.cell? ⟨wr.heap.size, 3, none⟩ = some (i64 (tp : Nat)) := BT.out.drew.cell 3
            have ek : w5.drew.cell? ⟨w3.heap.size, 2, none⟩ = some (.string ⟨#[9]⟩) := HK5.out.drew.cell 2
            go_region_held3 (fun W' => (((W'.cell? ⟨wr.heap.size, 0, none⟩ = some (i64 (tk : Nat)) ∧ W'.cell? ⟨wr.heap.size, 1, none⟩ = some (.string tx)) ∧ W'.cell? ⟨wr.heap.size, 2, none⟩ = some (i64 (tn : Nat))) ∧ W'.cell? ⟨wr.heap.size, 3, none⟩ = some (i64 (tp : Nat))) ∧ W'.cell? ⟨w3.heap.size, 2, none⟩ = some (.string ⟨#[9]⟩)) (first | exact ⟨⟨⟨⟨e0, e1⟩, e2⟩, e3⟩, ek⟩ | exact ⟨⟨⟨⟨g0, g1⟩, g2⟩, g3⟩, gk⟩) (first | (go_at_call 19; refine (HTX.out _).mono ?_; rintro e9 w9 ⟨rfl, hb9⟩; have HB9 := Lib.hid hb9; have g0 : w9.cell? ⟨wr.heap.size, 0, none⟩ = some (i64 (tk : Nat)) := (BT.out.drew.up' hb9).cell 0; have g1 : w9.cell? ⟨wr.heap.size, 1, none⟩ = some (.string tx) := (BT.out.drew.up' hb9).cell 1; have g2 : w9.cell? ⟨wr.heap.size, 2, none⟩ = some (i64 (tn : Nat)) := (BT.out.drew.up' hb9).cell 2; have g3 : w9.cell? ⟨wr.heap.size, 3, none⟩ = some (i64 (tp : Nat)) := (BT.out.drew.up' hb9).cell 3; have gk : w9.cell? ⟨w3.heap.size, 2, none⟩ = some (.string ⟨#[9]⟩) := (HK5.out.drew.up' hb9).cell 2; clear hb9) | fail)
            go_wp2_with fail
            refine ⟨⟨k + 1, O ++ (X ++ ⟨#[9]⟩), by omega, rfl, rfl, Lib.hid ?_, Lib.hid (below_trans' HBr.out (below_trans' HA5.out (below_trans' (Below.refl _ _).drew HB9.out)))⟩, ?_⟩
            · rw [HGS.out, add_list, add_list, HO.out]; rfl
            · simp only [intOf]; omega
          · go_wp2_with fail
            rw [show wr.alloc (.cells #[.int .i64 (tk : Nat), .string tx, .int .i64 (tn : Nat), .int .i64 (tp : Nat)] 41) = w5 from HW5.out]
            have e0 : w5.drew.cell? ⟨wr.heap.size, 0, none⟩ = some (i64 (tk : Nat)) := BT.out.drew.cell 0
            have e1 : w5.drew.cell? ⟨wr.heap.size, 1, none⟩ = some (.string tx) := BT.out.drew.cell 1
            have e2 : w5.drew.cell? ⟨wr.heap.size, 2, none⟩ = some (i64 (tn : Nat)) := BT.out.drew.cell 2
            have e3 : w5.drew.cell? ⟨wr.heap.size, 3, none⟩ = some (i64 (tp : Nat)) := BT.out.drew.cell 3
            have ek : w5.drew.cell? ⟨w3.heap.size, 3, none⟩ = some (.string ⟨#[32, 35, 32, 120, 32, 59, 10]⟩) := HK5.out.drew.cell 3
            go_region_held3 (fun W' => (((W'.cell? ⟨wr.heap.size, 0, none⟩ = some (i64 (tk : Nat)) ∧ W'.cell? ⟨wr.heap.size, 1, none⟩ = some (.string tx)) ∧ W'.cell? ⟨wr.heap.size, 2, none⟩ = some (i64 (tn : Nat))) ∧ W'.cell? ⟨wr.heap.size, 3, none⟩ = some (i64 (tp : Nat))) ∧ W'.cell? ⟨w3.heap.size, 3, none⟩ = some (.string ⟨#[32, 35, 32, 120, 32, 59, 10]⟩)) (first | exact ⟨⟨⟨⟨e0, e1⟩, e2⟩, e3⟩, ek⟩ | exact ⟨⟨⟨⟨g0, g1⟩, g2⟩, g3⟩, gk⟩) (first | (go_at_call 19; refine (HTX.out _).mono ?_; rintro e9 w9 ⟨rfl, hb9⟩; have HB9 := Lib.hid hb9; have g0 : w9.cell? ⟨wr.heap.size, 0, none⟩ = some (i64 (tk : Nat)) := (BT.out.drew.up' hb9).cell 0; have g1 : w9.cell? ⟨wr.heap.size, 1, none⟩ = some (.string tx) := (BT.out.drew.up' hb9).cell 1; have g2 : w9.cell? ⟨wr.heap.size, 2, none⟩ = some (i64 (tn : Nat)) := (BT.out.drew.up' hb9).cell 2; have g3 : w9.cell? ⟨wr.heap.size, 3, none⟩ = some (i64 (tp : Nat)) := (BT.out.drew.up' hb9).cell 3; have gk : w9.cell? ⟨w3.heap.size, 3, none⟩ = some (.string ⟨#[32, 35, 32, 120, 32, 59, 10]⟩) := (HK5.out.drew.up' hb9).cell 3; clear hb9) | fail)
            go_wp2_with fail
            refine ⟨⟨k + 1, O ++ (X ++ ⟨#[32, 35, 32, 120, 32, 59, 10]⟩), by omega, rfl, rfl, Lib.hid ?_, Lib.hid (below_trans' HBr.out (below_trans' HA5.out (below_trans' (Below.refl _ _).drew HB9.out)))⟩, ?_⟩
            · rw [HGS.out, add_list, add_list, HO.out]; rfl
            · simp only [intOf]; omega
        · have hin' : ¬ (k : Int) < (n : Int) := by omega
          have hgf : gapF bs k = kindB 0 := by unfold gapF; rw [dif_neg (by rw [HBs.out.1]; exact hin)]
          rw [hgf] at HGS
          go_wp2_with fail
          rw [show wr.alloc (.cells #[.int .i64 (tk : Nat), .string tx, .int .i64 (tn : Nat), .int .i64 (tp : Nat)] 41) = w5 from HW5.out]
          have e0 : w5.drew.cell? ⟨wr.heap.size, 0, none⟩ = some (i64 (tk : Nat)) := BT.out.drew.cell 0
          have e1 : w5.drew.cell? ⟨wr.heap.size, 1, none⟩ = some (.string tx) := BT.out.drew.cell 1
          have e2 : w5.drew.cell? ⟨wr.heap.size, 2, none⟩ = some (i64 (tn : Nat)) := BT.out.drew.cell 2
          have e3 : w5.drew.cell? ⟨wr.heap.size, 3, none⟩ = some (i64 (tp : Nat)) := BT.out.drew.cell 3
          have ek : w5.drew.cell? ⟨w3.heap.size, 0, none⟩ = some (.string ⟨#[32]⟩) := HK5.out.drew.cell 0
          go_region_held3 (fun W' => (((W'.cell? ⟨wr.heap.size, 0, none⟩ = some (i64 (tk : Nat)) ∧ W'.cell? ⟨wr.heap.size, 1, none⟩ = some (.string tx)) ∧ W'.cell? ⟨wr.heap.size, 2, none⟩ = some (i64 (tn : Nat))) ∧ W'.cell? ⟨wr.heap.size, 3, none⟩ = some (i64 (tp : Nat))) ∧ W'.cell? ⟨w3.heap.size, 0, none⟩ = some (.string ⟨#[32]⟩)) (first | exact ⟨⟨⟨⟨e0, e1⟩, e2⟩, e3⟩, ek⟩ | exact ⟨⟨⟨⟨g0, g1⟩, g2⟩, g3⟩, gk⟩) (first | (go_at_call 19; refine (HTX.out _).mono ?_; rintro e9 w9 ⟨rfl, hb9⟩; have HB9 := Lib.hid hb9; have g0 : w9.cell? ⟨wr.heap.size, 0, none⟩ = some (i64 (tk : Nat)) := (BT.out.drew.up' hb9).cell 0; have g1 : w9.cell? ⟨wr.heap.size, 1, none⟩ = some (.string tx) := (BT.out.drew.up' hb9).cell 1; have g2 : w9.cell? ⟨wr.heap.size, 2, none⟩ = some (i64 (tn : Nat)) := (BT.out.drew.up' hb9).cell 2; have g3 : w9.cell? ⟨wr.heap.size, 3, none⟩ = some (i64 (tp : Nat)) := (BT.out.drew.up' hb9).cell 3; have gk : w9.cell? ⟨w3.heap.size, 0, none⟩ = some (.string ⟨#[32]⟩) := (HK5.out.drew.up' hb9).cell 0; clear hb9) | fail)
          go_wp2_with fail
          refine ⟨⟨k + 1, O ++ (X ++ ⟨#[32]⟩), by omega, rfl, rfl, Lib.hid ?_, Lib.hid (below_trans' HBr.out (below_trans' HA5.out (below_trans' (Below.refl _ _).drew HB9.out)))⟩, ?_⟩
          · rw [HGS.out, add_list, add_list, HO.out]; rfl
          · simp only [intOf]; omega
      · have hlt' : ¬ (k : Int) < (n0 : Int) := by omega
        have hO := HO.out
        rw [List.take_of_length_le (by rw [HN0.out]; omega)] at hO
        have HOL := Lib.hid hO
        have HB5 := Lib.hid (below_trans' HB4.out HBr.out)
        have HP1 := Lib.hid (print_val B m d xs wr (HX4.out.up HBr.out) (HV.out.up HB5.out))
        clear hO
        rcases canon HVX.out with hc | ⟨hc, hpc⟩
        · have HPR := Lib.hid hc
          rw [hc] at HP1
          dsimp only at HP1
          clear hc
          go_wp2_with fail
          refine HP1.out.mono ?_
          rintro g1 w6 ⟨rfl, hb6⟩
          have HB6 := Lib.hid (below_trans' HB5.out hb6)
          clear hb6
          by_cases hlong : 8000 < O.size
          · have hlong' : ¬ (O.size : Int) ≤ 8000 := by omega
            go_wp2_with fail
            go_ret
            exact ⟨rfl, HB6.out⟩
          · have hlong' : (O.size : Int) ≤ 8000 := by omega
            have HPO := Lib.hid (parse_val O (by unfold maxLen; omega) w6 (HV.out.up HB6.out).err)
            have hol := other_law HER.out bs (by rw [HLE.out, ← HOL.out]; have h1 : O.data.toList.length = O.size := Array.length_toList; omega)
            rw [HLE.out, ← HOL.out] at hol
            have hps := parse_same (l := l) HDS.out HER.out hol.1 (by rw [HLE.out]; exact hol.2.symm)
            have HPS := Lib.hid hps
            clear hol hps hlong
            go_wp2_with fail
            refine HPO.out.mono ?_
            rintro g2 w7 ⟨B7, m7, d7, zs, D7, k7, q7, gs, rfl, hz, hg7, hb7, hkz, hgs⟩
            have hgs0 : gs = [] := by rw [hgs]; exact HPS.out.1
            have hk7 : k7 = 0 := by rw [← hg7.1, hgs0]; rfl
            subst hk7
            have HB7 := Lib.hid (below_trans' HB6.out hb7)
            have HP7 := Lib.hid (print_val B7 m7 d7 zs w7 hz (HV.out.up HB7.out))
            have hkk : zs.map keyC = xs.map keyC := by rw [keyC_of_R hkz, keyC_of_R HK.out]; exact HPS.out.2
            rw [print_key hkk, HPR.out] at HP7
            dsimp only at HP7
            clear hz hg7 hb7 hkz hgs hgs0 hkk
            go_wp2_with fail
            refine HP7.out.mono ?_
            rintro g3 w8 ⟨rfl, hb8⟩
            have HB8 := Lib.hid (below_trans' HB7.out hb8)
            clear hb8
            go_wp2_with fail
            go_ret
            exact ⟨rfl, HB8.out⟩
        · have HPR := Lib.hid hc
          rw [hc] at HP1
          dsimp only at HP1
          have HPC := Lib.hid hpc
          obtain ⟨T, hT⟩ : ∃ T : ByteArray, (⟨(outL xs).toArray⟩ : ByteArray) = T := ⟨_, rfl⟩
          have HTT := Lib.hid hT
          rw [hT] at HP1
          clear hT hpc
          clear hc
          go_wp2_with fail
          refine HP1.out.mono ?_
          rintro g1 w6 ⟨rfl, hb6⟩
          have HB6 := Lib.hid (below_trans' HB5.out hb6)
          clear hb6
          by_cases hlong : 8000 < O.size
          · have hlong' : ¬ (O.size : Int) ≤ 8000 := by omega
            have hTl : T.data.toList = outL xs := by rw [← HTT.out]
            have HPA2 := Lib.hid (parse_val T (by rw [← HTT.out]; have h1 := rprint_ok (l := xs) (by rw [← print_law, HPR.out]); show (outL xs).length ≤ _; unfold maxLen; omega) w6 (HV.out.up (HB6.out)).err)
            go_wp2_with fail
            refine HPA2.out.mono ?_
            rintro f1' v1 ⟨B2, m2, d2, ys, D2, k2, q2, es, rfl, hy, he2, hv1, hky, hes⟩
            rw [hTl, HPC.out] at hky hes
            dsimp only at hky hes
            subst hes
            have hk2 : k2 = 0 := he2.1.symm
            subst hk2
            have HV1 := Lib.hid (below_trans' (HB6.out) hv1)
            have HP9 := Lib.hid (print_val B2 m2 d2 ys v1 hy (HV.out.up HV1.out))
            rw [print_key (keys_back HVX.out hky), HPR.out] at HP9
            dsimp only at HP9
            rw [HTT.out] at HP9
            clear hy he2 hv1 hky hTl
            go_wp2_with fail
            refine HP9.out.mono ?_
            rintro f2' v2 ⟨rfl, hv2⟩
            have HV2 := Lib.hid (below_trans' HV1.out hv2)
            clear hv2
            go_wp2_with fail
            go_ret
            exact ⟨rfl, HV2.out⟩
          · have hlong' : (O.size : Int) ≤ 8000 := by omega
            have HPO := Lib.hid (parse_val O (by unfold maxLen; omega) w6 (HV.out.up HB6.out).err)
            have hol := other_law HER.out bs (by rw [HLE.out, ← HOL.out]; have h1 : O.data.toList.length = O.size := Array.length_toList; omega)
            rw [HLE.out, ← HOL.out] at hol
            have hps := parse_same (l := l) HDS.out HER.out hol.1 (by rw [HLE.out]; exact hol.2.symm)
            have HPS := Lib.hid hps
            clear hol hps hlong
            go_wp2_with fail
            refine HPO.out.mono ?_
            rintro g2 w7 ⟨B7, m7, d7, zs, D7, k7, q7, gs, rfl, hz, hg7, hb7, hkz, hgs⟩
            have hgs0 : gs = [] := by rw [hgs]; exact HPS.out.1
            have hk7 : k7 = 0 := by rw [← hg7.1, hgs0]; rfl
            subst hk7
            have HB7 := Lib.hid (below_trans' HB6.out hb7)
            have HP7 := Lib.hid (print_val B7 m7 d7 zs w7 hz (HV.out.up HB7.out))
            have hkk : zs.map keyC = xs.map keyC := by rw [keyC_of_R hkz, keyC_of_R HK.out]; exact HPS.out.2
            rw [print_key hkk, HPR.out] at HP7
            dsimp only at HP7
            rw [HTT.out] at HP7
            clear hz hg7 hb7 hkz hgs hgs0 hkk
            go_wp2_with fail
            refine HP7.out.mono ?_
            rintro g3 w8 ⟨rfl, hb8⟩
            have HB8 := Lib.hid (below_trans' HB7.out hb8)
            clear hb8
            have hTl : T.data.toList = outL xs := by rw [← HTT.out]
            have HPA2 := Lib.hid (parse_val T (by rw [← HTT.out]; have h1 := rprint_ok (l := xs) (by rw [← print_law, HPR.out]); show (outL xs).length ≤ _; unfold maxLen; omega) w8 (HV.out.up (HB8.out)).err)
            go_wp2_with fail
            refine HPA2.out.mono ?_
            rintro f1' v1 ⟨B2, m2, d2, ys, D2, k2, q2, es, rfl, hy, he2, hv1, hky, hes⟩
            rw [hTl, HPC.out] at hky hes
            dsimp only at hky hes
            subst hes
            have hk2 : k2 = 0 := he2.1.symm
            subst hk2
            have HV1 := Lib.hid (below_trans' (HB8.out) hv1)
            have HP9 := Lib.hid (print_val B2 m2 d2 ys v1 hy (HV.out.up HV1.out))
            rw [print_key (keys_back HVX.out hky), HPR.out] at HP9
            dsimp only at HP9
            rw [HTT.out] at HP9
            clear hy he2 hv1 hky hTl
            go_wp2_with fail
            refine HP9.out.mono ?_
            rintro f2' v2 ⟨rfl, hv2⟩
            have HV2 := Lib.hid (below_trans' HV1.out hv2)
            clear hv2
            go_wp2_with fail
            go_ret
            exact ⟨rfl, HV2.out⟩
  · by_cases herr : L.err = 0
    · have f1 : ((L.err : Int) != 0) = false := by rw [herr]; rfl
      have hk0 : ds ≠ [] := fun q => hgood ⟨herr, q⟩
      have f2 : (0 : Int) < (k : Int) := by have := List.length_pos_iff.2 hk0; omega
      clear hds hk0 hkl herr
      go_wp2_with fail
      go_ret
      exact ⟨rfl, HB3.out⟩
    · have f1 : ((L.err : Int) != 0) = true := by rw [bne_iff_ne]; omega
      clear hds hkl herr
      go_wp2_with fail
      go_ret
      exact ⟨rfl, HB3.out⟩
end Go.Proofs.YtmdogklgbifacaaDoor.Pr
