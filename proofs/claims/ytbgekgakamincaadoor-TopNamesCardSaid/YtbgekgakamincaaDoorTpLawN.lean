/- The walk of the statement on names replaced one for one. -/
import Derived.Deep.QuietTactic
import Derived.BigQuiet
import Derived.Test.YtbgekgakamincaaDoorTpRen
namespace Go.Proofs.YtbgekgakamincaaDoor.Tp
open Go.RowKit Go.Proofs.YtbgekgakamincaaDoor.Lx Go.Proofs.YtbgekgakamincaaDoor.Pr Go.Proofs.YtbgekgakamincaaDoor.Ps
set_option linter.unusedVariables false

theorem few_names {l : List Cm} (h : fewB l = true) : l.length ≤ 310 ∧ ∀ x ∈ l, x.name.size ≤ 50 := by
  unfold fewB at h
  rw [Bool.and_eq_true] at h
  refine ⟨of_decide_eq_true h.1, fun x hx => ?_⟩
  have := List.all_eq_true.1 h.2 x hx
  unfold shortC at this
  simp only [Bool.and_eq_true, decide_eq_true_eq] at this
  omega
theorem ren_in {W : World} {x : Cm} (h : Cm.In W x) (hs : x.name.size ≤ 50) : Cm.In W (renC x) :=
  ⟨h.kind, by show (renB x.name).size ≤ maxLen; rw [renB_size]; unfold maxLen; omega, h.rd, h.len, h.nc, h.cm, h.wf, h.pos⟩
set_option maxRecDepth 100000 in
set_option maxHeartbeats 8000000 in
theorem topNames_walk (A : Option Addr) (n c : Nat) (l : List Cm) (w : World) (h : IsCms w A n c l) (hv : VarP w) :
    Calls Tryd.prog 4 #[.slice A n c] w fun e w' => e = .returned (.bool true) ∧ Below w.heap.size w w' := by
  obtain ⟨i0, hi, hz0, hz1, hz2⟩ := info_parts info_cmd
  have HH := Lib.hid (thead_val w hv)
  have HV := Lib.hid hv
  have HI := Lib.hid h
  have HN := Lib.hid h.1
  have HF := Lib.hid (fun W (q : Below w.heap.size w W) => few_val A n c l W (h.up q))
  obtain ⟨f, hf⟩ : ∃ v, fewB l = v := ⟨_, rfl⟩
  rw [hf] at HF
  clear h hv
  go_enter Tryd.func4, Tryd.ntmps4
  go_wp2_with fail
  refine HH.out.mono ?_
  rintro e1 w1 ⟨rfl, hb1⟩
  have HB1 := Lib.hid hb1
  clear hb1 HH
  cases f with
  | false =>
    go_wp2_with fail
    refine (HF.out _ HB1.out).mono ?_
    rintro e2 w2 ⟨rfl, rfl⟩
    go_wp2_with fail
    go_ret
    exact ⟨rfl, HB1.out⟩
  | true =>
    obtain ⟨hl310, hnm⟩ := few_names hf
    have HNM := Lib.hid hnm
    have hn310 : n ≤ 310 := by rw [← HN.out]; exact hl310
    clear hf hnm hl310
    go_wp2_with fail
    refine (HF.out _ HB1.out).mono ?_
    rintro e2 w2 ⟨rfl, rfl⟩
    go_wp2_with fail
    go_loopw [27, 4] (fun i o wr => ∃ (k wc : Nat) (WA : Option Addr), k ≤ n ∧ i = i64 (k : Nat) ∧ o = .slice WA k wc ∧ Hid (wr.ownsRow w1.heap.size 40 4 (.slice WA k wc) k (((l.take k).map renC).flatMap decC)) ∧ Hid (Below w1.heap.size w1 wr)) (fun i _ _ => n - (intOf i).toNat)
    case atStart => exact ⟨0, 0, none, Nat.zero_le _, rfl, rfl, Lib.hid (World.ownsRow_nil _ _ _ _), Lib.hid (Below.refl _ _)⟩
    case round =>
      obtain ⟨k, wc, WA, hk, rfl, rfl, HO, HB⟩ := hrel
      by_cases hlt : k < n
      · have hlt' : (k : Int) < (n : Int) := by omega
        have hkl : k < l.length := by rw [HN.out]; exact hlt
        obtain ⟨b0, off, rfl, hb0, hc⟩ := rd_el (dec := decC) (s := 4) (fun _ => rfl) (HI.out.up (below_trans' HB1.out HB.out)).2.1 HN.out hkl
        have hns := HNM.out l[k] (List.getElem_mem hkl)
        have htk : (l.take (k + 1)).map renC = (l.take k).map renC ++ [renC l[k]] := by rw [List.take_succ_eq_append_getElem hkl, List.map_append]; rfl
        obtain ⟨⟨xk, xm, xA, xn, xc, xl, xp⟩, hx⟩ : ∃ x, l[k] = x := ⟨_, rfl⟩
        rw [hx] at hc htk hns
        have c0 := hc 0 _ rfl
        have c1 := hc 1 _ rfl
        have c2 := hc 2 _ rfl
        have c3 := hc 3 _ rfl
        rw [Nat.add_zero] at c0
        dsimp only at c0 c1 c2 c3 hns
        have HRN := Lib.hid (fun W => renamed_val xm (by omega) W)
        obtain ⟨R, hR⟩ : ∃ R, renB xm = R := ⟨_, rfl⟩
        rw [hR] at HRN
        have HTK : Hid (((l.take (k + 1)).map renC).flatMap decC = ((l.take k).map renC).flatMap decC ++ [.int .i64 xk, .string R, .slice xA xn xc, .int .i64 xp]) := Lib.hid (by rw [htk, List.flatMap_append, List.flatMap_singleton, ← hR]; rfl)
        have BT := Lib.hid (Blk.new wr 40 #[.int .i64 xk, .string xm, .slice xA xn xc, .int .i64 xp])
        have hbe : Below wr.heap.size wr (wr.alloc (.cells #[.int .i64 xk, .string xm, .slice xA xn xc, .int .i64 xp] 40)) := (Below.refl _ wr).alloc (Nat.le_refl _) _
        have HBE := Lib.hid hbe
        clear hb0 hc htk hx hR hbe hkl
        go_wp2_with fail
        refine (HRN.out _).mono ?_
        rintro e4 w4 ⟨rfl, hb4⟩
        have BT4 := Lib.hid (BT.out.up' hb4)
        have z1 := BT4.out.frozen 1
        have b1 : w4.cell? ⟨wr.heap.size, 1, none⟩ = some (.string xm) := BT4.out.cell 1
        have BS := Lib.hid (BT4.out.set_ 1 (.string R))
        have s0 : (w4.setCell ⟨wr.heap.size, 1, none⟩ (.string R)).cell? ⟨wr.heap.size, 0, none⟩ = some (.int .i64 xk) := BS.out.cell 0
        have s1 : (w4.setCell ⟨wr.heap.size, 1, none⟩ (.string R)).cell? ⟨wr.heap.size, 1, none⟩ = some (.string R) := BS.out.cell 1
        have s2 : (w4.setCell ⟨wr.heap.size, 1, none⟩ (.string R)).cell? ⟨wr.heap.size, 2, none⟩ = some (.slice xA xn xc) := BS.out.cell 2
        have s3 : (w4.setCell ⟨wr.heap.size, 1, none⟩ (.string R)).cell? ⟨wr.heap.size, 3, none⟩ = some (.int .i64 xp) := BS.out.cell 3
        have hb3 : Below wr.heap.size wr (w4.setCell ⟨wr.heap.size, 1, none⟩ (.string R)) := (below_trans' HBE.out hb4).setCell (p := ⟨wr.heap.size, 1, none⟩) (Nat.le_refl _) _
        have hsz : (w4.setCell ⟨wr.heap.size, 1, none⟩ (.string R)).heap.size = w4.heap.size := by simp
        have hBa := (below_trans' HB.out hb3).alloc (below_trans' HB.out hb3).size (.cells #[.int .i64 xk, .string R, .slice xA xn xc, .int .i64 xp] 40)
        have hOa := (own_keep HO.out hb3).kept (World.grownBy_alloc _ (.cells #[.int .i64 xk, .string R, .slice xA xn xc, .int .i64 xp] 40) none) (Classical.em _)
        have hRa := rd_fresh (w4.setCell ⟨wr.heap.size, 1, none⟩ (.string R)) 40 #[.int .i64 xk, .string R, .slice xA xn xc, .int .i64 xp] 4 1 [.int .i64 xk, .string R, .slice xA xn xc, .int .i64 xp] rfl rfl
        rw [hsz] at hRa
        have HBA := Lib.hid hBa
        have HOA := Lib.hid hOa
        have HRA := Lib.hid hRa
        have HON : Hid (∀ u ∈ [Value.int .i64 xk, .string R, .slice xA xn xc, .int .i64 xp], u.oneCell' = true) := Lib.hid (fun u hu => by
          simp only [List.mem_cons, List.not_mem_nil, or_false] at hu
          rcases hu with rfl | rfl | rfl | rfl <;> rfl)
        have h63 : k + 1 ≤ maxLen := by simp only [maxLen]; omega
        have hby : (k + 1) * 56 ≤ 140737488355328 := by omega
        clear hb4 hb3 hBa hOa hRa hsz
        go_wp2_with (at_builtin; refine wpList_append_rd _ rfl (.tmp 35) (.tmp 37) _ rfl w1.heap.size 40 i0 _ 4 56 Tryd.underlying25 hi hz0 hz1 hz2 rfl (by decide) _ k _ rfl HOA.out _ (some ⟨w4.heap.size, 0, none⟩) 1 1 _ rfl HRA.out HON.out h63 hby HBA.out.size ?_; intro A5 c5 w5 hown hfm hgr; have HO5 := Lib.hid hown; have HB5 := Lib.hid (own_below HOA.out hgr HBA.out (Nat.le_refl _) HBA.out.size); clear hown hfm hgr)
        refine ⟨⟨k + 1, c5, A5, by omega, rfl, rfl, Lib.hid (by rw [HTK.out]; exact HO5.out), HB5⟩, ?_⟩
        simp only [intOf]; omega
      · have hlt' : ¬ (k : Int) < (n : Int) := by omega
        obtain rfl : k = n := by omega
        have HBr := Lib.hid (below_trans' HB1.out HB.out)
        have hw := HO.out
        rw [List.take_of_length_le (by rw [HN.out]; exact Nat.le_refl _)] at hw
        have HM := Lib.hid (cms_own hw (by rw [List.length_map]; exact HN.out) (fun x hx => by
          obtain ⟨y, hy, rfl⟩ := List.mem_map.1 hx
          exact ren_in ((HI.out.up HBr.out).2.2.2.2 y hy) (HNM.out y hy)))
        have HPA := Lib.hid (print_val A k c l wr (HI.out.up HBr.out) (HV.out.up HBr.out))
        obtain ⟨T, hT⟩ : ∃ T : ByteArray, (⟨(printL l).1.toArray⟩ : ByteArray) = T := ⟨_, rfl⟩
        obtain ⟨E, hE⟩ : ∃ E, (printL l).2 = E := ⟨_, rfl⟩
        rw [hT, hE] at HPA
        have HT := Lib.hid hT
        have HE := Lib.hid hE
        clear hw HO hT hE
        go_wp2_with fail
        refine HPA.out.mono ?_
        rintro e3 w3 ⟨rfl, hb3⟩
        have HB3 := Lib.hid (below_trans' HBr.out hb3)
        have HM3 := Lib.hid (HM.out.up hb3)
        have HPB := Lib.hid (print_val WA k wc _ w3 HM3.out (HV.out.up HB3.out))
        obtain ⟨U, hU⟩ : ∃ U : ByteArray, (⟨(printL (l.map renC)).1.toArray⟩ : ByteArray) = U := ⟨_, rfl⟩
        obtain ⟨E2, hE2⟩ : ∃ E, (printL (l.map renC)).2 = E := ⟨_, rfl⟩
        rw [hU, hE2] at HPB
        have HU := Lib.hid hU
        have HE2 := Lib.hid hE2
        clear hb3 hU hE2
        go_wp2_with fail
        refine HPB.out.mono ?_
        rintro e4 w4 ⟨rfl, hb4⟩
        have HB4 := Lib.hid (below_trans' HB3.out hb4)
        have HM4 := Lib.hid (HM3.out.up hb4)
        clear hb4
        by_cases hE0 : E = 0
        case neg =>
          have f1 : ((E : Int) != 0) = true := by rw [bne_iff_ne]; omega
          clear hE0
          go_wp2_with fail
          go_ret
          exact ⟨rfl, HB4.out⟩
        have f1 : ((E : Int) != 0) = false := by rw [hE0]; rfl
        have HVA := Lib.hid (rvalid_val WA k wc _ w4 HM4.out)
        obtain ⟨v, hvm⟩ : ∃ v, validB (l.map renC) = v := ⟨_, rfl⟩
        rw [hvm] at HVA
        cases v with
        | false =>
          clear hvm hE0
          go_wp2_with fail
          refine HVA.out.mono ?_
          rintro e5 w5 ⟨rfl, hb5⟩
          have HB5 := Lib.hid (below_trans' HB4.out hb5)
          clear hb5
          go_wp2_with fail
          go_ret
          exact ⟨rfl, HB5.out⟩
        | true =>
          have hpl := HE.out
          rw [hE0, print_law] at hpl
          obtain ⟨r1, r2, r3, r4⟩ := rprint_ok hpl
          obtain ⟨g1, g2, g3, ts, us, g4, g5, g6⟩ := names_law r1 r2 r3 hvm
          have hTl : T.data.toList = outL l := by rw [← HT.out, print_law, r4]
          have hUl : U.data.toList = outL (l.map renC) := by rw [← HU.out, g1]
          have hE20 : E2 = 0 := by rw [← HE2.out, g1]
          subst hE20
          have hTs : T.data.toList.length = T.size := Array.length_toList
          have hUs : U.data.toList.length = U.size := Array.length_toList
          have hT8 : T.size ≤ 8000 := by rw [← hTs, hTl]; exact r2
          have hUT : U.size = T.size := by rw [← hTs, ← hUs, hTl, hUl, g2]
          rw [← hTl] at g4
          rw [← hUl] at g3 g5
          have HLT := Lib.hid (fun W (q : Below w.heap.size w W) => lex_isT T (by unfold maxLen; omega) _ g4 W (HV.out.up q).err)
          have HLU := Lib.hid (fun W (q : Below w.heap.size w W) => lex_isT U (by unfold maxLen; omega) _ g5 W (HV.out.up q).err)
          have HPU := Lib.hid (fun W (q : Below w.heap.size w W) => parse_isT U (by unfold maxLen; omega) _ g3 W (HV.out.up q).err)
          have f2 : ((T.size : Int) != (U.size : Int)) = false := by rw [bne_eq_false_iff_eq, hUT]
          have HWT := Lib.hid (fun t (ht : t ∈ ts) => ((lex_wf T.data.toList).1 t (by rw [g4]; exact ht)).1)
          have HVM := Lib.hid hvm
          have HG6 := Lib.hid g6
          have hun := g6.len
          clear hpl r1 r2 r3 r4 g1 g2 g3 g4 g5 g6 hTl hUl hTs hUs hT8 hUT hvm hE0
          go_wp2_with fail
          refine HVA.out.mono ?_
          rintro e5 w5 ⟨rfl, hb5⟩
          have HB5 := Lib.hid (below_trans' HB4.out hb5)
          have HM5 := Lib.hid (HM4.out.up hb5)
          clear hb5
          go_wp2_with fail
          refine (HLT.out _ HB5.out).mono ?_
          rintro e6 w6 ⟨A6, n6, c6, rfl, hT6, hb6⟩
          dsimp only at hT6
          have HB6 := Lib.hid (below_trans' HB5.out hb6)
          have HM6 := Lib.hid (HM5.out.up hb6)
          have HT6 := Lib.hid hT6
          clear hT6 hb6
          go_wp2_with fail
          refine (HLU.out _ HB6.out).mono ?_
          rintro e7 w7 ⟨A7, n7, c7, rfl, hT7, hb7⟩
          dsimp only at hT7
          have HB7 := Lib.hid (below_trans' HB6.out hb7)
          have HM7 := Lib.hid (HM6.out.up hb7)
          have HT67 := Lib.hid (HT6.out.up hb7)
          have HT7 := Lib.hid hT7
          have hnn : n7 = n6 := by rw [← HT7.out.2.1, ← HT67.out.2.1, hun]
          subst hnn
          have hn2 : n7 ≤ maxLen := Nat.le_trans HT7.out.2.2.1 HT7.out.2.2.2
          unfold maxLen at hn2
          clear hT7 hb7 hun
          go_wp2_with fail
          go_loopw [96] (fun i wr => ∃ k2 : Nat, k2 ≤ n7 ∧ i = i64 (k2 : Nat) ∧ Hid (Below w7.heap.size w7 wr)) (fun i _ => n7 - (intOf i).toNat)
          case atStart => exact ⟨0, Nat.zero_le _, rfl, Lib.hid (Below.refl _ _)⟩
          case round =>
            obtain ⟨k2, hk2, rfl, HBq⟩ := hrel
            by_cases hl2 : k2 < n7
            · have hl2' : (k2 : Int) < (n7 : Int) := by omega
              have hkt : k2 < ts.length := by rw [HT67.out.2.1]; exact hl2
              have hku : k2 < us.length := by rw [HT7.out.2.1]; exact hl2
              obtain ⟨b1, off1, rfl, hb1, hc1⟩ := rd_el (dec := decT) (s := 4) (fun _ => rfl) (HT67.out.up HBq.out).1 HT67.out.2.1 hkt
              obtain ⟨b2, off2, rfl, hb2, hc2⟩ := rd_el (dec := decT) (s := 4) (fun _ => rfl) (HT7.out.up HBq.out).1 HT7.out.2.1 hku
              obtain ⟨q1, q2, q3⟩ := HG6.out.get k2 hkt hku
              have hsz := (HWT.out ts[k2] (List.getElem_mem hkt)).size
              obtain ⟨⟨tk, tx, tn, tp⟩, ht⟩ : ∃ t, ts[k2] = t := ⟨_, rfl⟩
              obtain ⟨⟨uk, ux, un, up⟩, hu⟩ : ∃ t, us[k2] = t := ⟨_, rfl⟩
              rw [ht] at hc1 q1 q2 q3 hsz
              rw [hu] at hc2 q1 q2 q3
              dsimp only at q1 q2 q3 hsz
              subst q1 q2
              have t1 := hc1 1 _ rfl
              have t2 := hc1 2 _ rfl
              have t3 := hc1 3 _ rfl
              have u1 := hc2 1 _ rfl
              have u2 := hc2 2 _ rfl
              have u3 := hc2 3 _ rfl
              dsimp only at t1 t2 t3 u1 u2 u3
              have hup : ∀ a b, Below wr.heap.size wr a → Below a.heap.size a b → Below wr.heap.size wr b := fun a b h k => below_trans' h k
              have cup : ∀ {p : Addr} {u : Value} {W : World}, wr.cell? p = some u → Below wr.heap.size wr W → W.cell? p = some u := fun hc hb => (hb.cell (Lx.cell_lt hc)).trans hc
              have f3 : ∀ s : WOf (Below wr.heap.size wr), s.w.cell? ⟨b1, off1 + k2 * 4 + 1, none⟩ = some (.string tx) := fun s => cup t1 s.ok
              have f4 : ∀ s : WOf (Below wr.heap.size wr), s.w.cell? ⟨b1, off1 + k2 * 4 + 2, none⟩ = some (.int .i64 (tn : Nat)) := fun s => cup t2 s.ok
              have f5 : ∀ s : WOf (Below wr.heap.size wr), s.w.cell? ⟨b1, off1 + k2 * 4 + 3, none⟩ = some (.int .i64 (tp : Nat)) := fun s => cup t3 s.ok
              have f7 : ∀ s : WOf (Below wr.heap.size wr), s.w.cell? ⟨b2, off2 + k2 * 4 + 2, none⟩ = some (.int .i64 (tn : Nat)) := fun s => cup u2 s.ok
              have f8 : ∀ s : WOf (Below wr.heap.size wr), s.w.cell? ⟨b2, off2 + k2 * 4 + 3, none⟩ = some (.int .i64 (tp : Nat)) := fun s => cup u3 s.ok
              by_cases hxy : tx = ux
              · subst hxy
                have f6 : ∀ s : WOf (Below wr.heap.size wr), s.w.cell? ⟨b2, off2 + k2 * 4 + 1, none⟩ = some (.string tx) := fun s => cup u1 s.ok
                clear hb1 hc1 hb2 hc2 q3 ht hu t1 t2 t3 u1 u2 u3 cup hkt hku hsz
                go_wp2_with fail
                refine wp_region_ext (Below wr.heap.size wr) (Below.refl _ _) hup (by kernel_rfl) (by kernel_rfl) (fun hne => ?_)
                try simp only [List.append_eq, List.cons_append, List.nil_append]
                repeat (go_big_quiet_step (fail))
                refine wpQuiet_nil ?_
                clear hne
                intro _ hx'
                obtain ⟨⟨wy, hxy⟩, hx''⟩ := hx'
                subst hx''
                clear f3 f4 f5 f6 f7 f8
                go_wp2_with fail
                refine ⟨⟨k2 + 1, by omega, rfl, Lib.hid (below_trans' HBq.out hxy)⟩, ?_⟩
                simp only [intOf]; omega
              · have hren := q3.resolve_left hxy
                have f6 : ∀ s : WOf (Below wr.heap.size wr), s.w.cell? ⟨b2, off2 + k2 * 4 + 1, none⟩ = some (.string ux) := fun s => cup u1 s.ok
                have gne : (tx.toList == ux.toList) = false := by rw [beq_eq_false_iff_ne]; exact fun e => hxy (bytes_of_list e)
                have HRN := Lib.hid (fun W => renamed_val tx (by omega) W)
                rw [← hren] at HRN
                clear hb1 hc1 hb2 hc2 q3 ht hu t1 t2 t3 u1 u2 u3 cup hkt hku hsz hxy hren
                go_wp2_with fail
                refine wp_region_ext (Below wr.heap.size wr) (Below.refl _ _) hup (by kernel_rfl) (by kernel_rfl) (fun hne => ?_)
                try simp only [List.append_eq, List.cons_append, List.nil_append]
                repeat (go_big_quiet_step (with_reducible exact calls_ext hup (HRN.out _)))
                refine wpQuiet_nil ?_
                clear hne
                intro _ hx'
                obtain ⟨⟨wy, hxy⟩, hx''⟩ := hx'
                subst hx''
                clear f3 f4 f5 f6 f7 f8
                go_wp2_with fail
                refine ⟨⟨k2 + 1, by omega, rfl, Lib.hid (below_trans' HBq.out hxy)⟩, ?_⟩
                simp only [intOf]; omega
            · have hl2' : ¬ (k2 : Int) < (n7 : Int) := by omega
              have HB8 := Lib.hid (below_trans' HB7.out HBq.out)
              have HM8 := Lib.hid (HM7.out.up HBq.out)
              go_wp2_with fail
              refine (HPU.out _ HB8.out).mono ?_
              rintro e9 w9 ⟨A9, n9, c9, zs, D9, q9, d9, es, rfl, hz, he, hb9, hk9, hes⟩
              dsimp only at hk9 hes
              subst hes
              have hq9 : q9 = 0 := he.1.symm
              subst hq9
              have HB9 := Lib.hid (below_trans' HB8.out hb9)
              have HM9 := Lib.hid (HM8.out.up hb9)
              have HZ := Lib.hid hz
              have hzk := keys_back HVM.out hk9
              have hn9 : n9 ≤ 100000 := by
                have h1 := congrArg List.length hzk
                rw [List.length_map, List.length_map, List.length_map, hz.1, HN.out] at h1
                omega
              have HSB := Lib.hid (same_bare zs (l.map renC))
              rw [decide_eq_true hzk] at HSB
              have HS9 := Lib.hid (strip_val A9 n9 c9 zs w9 HZ.out hn9)
              clear hz he hb9 hk9 hzk
              go_wp2_with fail
              refine HS9.out.mono ?_
              rintro e10 w10 ⟨A10, c10, rfl, hi10, hb10⟩
              have HB10 := Lib.hid (below_trans' HB9.out hb10)
              have HI10 := Lib.hid hi10
              have HS10 := Lib.hid (strip_val WA k wc _ w10 (HM9.out.up hb10) (by omega))
              clear hi10 hb10
              go_wp2_with fail
              refine HS10.out.mono ?_
              rintro e11 w11 ⟨A11, c11, rfl, hi11, hb11⟩
              have HB11 := Lib.hid (below_trans' HB10.out hb11)
              have HSM := Lib.hid (same_val _ _ _ _ _ _ _ _ w11 (HI10.out.up hb11) hi11)
              rw [HSB.out] at HSM
              clear hi11 hb11
              go_wp2_with fail
              refine HSM.out.mono ?_
              rintro e12 w12 ⟨rfl, hb12⟩
              have HB12 := Lib.hid (below_trans' HB11.out hb12)
              clear hb12
              go_wp2_with fail
              go_ret
              exact ⟨rfl, HB12.out⟩
end Go.Proofs.YtbgekgakamincaaDoor.Tp
