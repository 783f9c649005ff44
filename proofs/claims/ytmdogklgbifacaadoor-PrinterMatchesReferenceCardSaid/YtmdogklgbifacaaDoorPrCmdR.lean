/- The reference's command and Valid. -/
import Derived.Test.YtmdogklgbifacaaDoorPrCounts
import Derived.Test.YtmdogklgbifacaaDoorPrName
import Derived.Test.YtmdogklgbifacaaDoorPrValid
namespace Go.Proofs.YtmdogklgbifacaaDoor.Pr
open Go.RowKit Go.Proofs.YtmdogklgbifacaaDoor.Lx
set_option linter.unusedVariables false

theorem form_some {k : Int} (h : k = 1 ∨ k = 2 ∨ k = 3 ∨ k = 4 ∨ k = 5 ∨ k = 6 ∨ k = 7 ∨ k = 8 ∨ k = 9 ∨ k = 10 ∨ k = 11) : ((formB k).toList == []) = false := by
  rcases h with rfl | rfl | rfl | rfl | rfl | rfl | rfl | rfl | rfl | rfl | rfl <;> (rw [Lib.toList_data]; decide)
theorem shape_none {k : Int} (h1 : ¬ (k = 1 ∨ k = 2 ∨ k = 3 ∨ k = 4 ∨ k = 5 ∨ k = 6 ∨ k = 7 ∨ k = 8 ∨ k = 9 ∨ k = 10 ∨ k = 11)) : shapeOf k = (false, -1) := by
  unfold shapeOf
  rw [if_neg (by omega), if_neg (by omega), if_neg (by omega), if_neg (by omega), if_neg (by omega), if_neg (by omega), if_neg (by omega), if_neg (by omega), if_neg (by omega)]
theorem name_ne {s : ByteArray} (h : nameB s = true) : s.size ≠ 0 := by
  intro h0; unfold nameB at h; rw [decide_eq_false (fun h => h h0)] at h; cases h
theorem str_ne {s : ByteArray} (he : s.size ≠ 0) : (s.toList == []) = false := by
  rw [beq_eq_false_iff_ne]
  intro e
  have e2 : s = ⟨#[]⟩ := Lx.bytes_of_list (e.trans (by rw [ByteArray.toList, ByteArray.toList.loop]; rfl))
  exact he (by rw [e2]; rfl)
theorem str_nil {s : ByteArray} (he : s.size = 0) : (s.toList == []) = true := by
  have e2 : s.toList = [] := by rw [Lib.toList_data]; exact List.eq_nil_of_length_eq_zero (Array.length_toList.trans he)
  rw [e2]; rfl
set_option maxRecDepth 100000 in
set_option maxHeartbeats 4000000 in
theorem rcommand_val (x : Cm) (w : World) (hx : Cm.In w x) :
    Calls Tryd.prog 26 #[.agg #[.int .i64 x.kind, .string x.name, .slice x.A x.n x.c, .int .i64 x.pos]] w fun e w' => e = .returned (.bool (cmB x)) ∧ Below w.heap.size w w' := by
  obtain ⟨k, nm, A, n, c, ns, p⟩ := x
  have HX := Lib.hid hx
  have hn := hx.len
  dsimp only at hn
  have hnm : n ≤ 9223372036854775807 := Nat.le_trans hx.nc (Nat.le_trans hx.cm (by decide))
  have HF := Lib.hid (form_val k)
  have HS := Lib.hid (counts_val k)
  have HN := Lib.hid (rname_val nm hx.name)
  have HB0 : Hid (Below w.heap.size w (w.alloc (.cells #[.int .i64 k, .string nm, .slice A n c, .int .i64 p] 46))) := Lib.hid ((Below.refl _ w).alloc (Nat.le_refl _) _)
  have BX : Hid (Blk (w.alloc (.cells #[.int .i64 k, .string nm, .slice A n c, .int .i64 p] 46)) w.heap.size 46 #[.int .i64 k, .string nm, .slice A n c, .int .i64 p]) := Lib.hid (Blk.new w _ _)
  have HLN := Lib.hid hn
  by_cases h1 : k = 1 ∨ k = 2 ∨ k = 3 ∨ k = 4 ∨ k = 5 ∨ k = 6 ∨ k = 7 ∨ k = 8 ∨ k = 9 ∨ k = 10 ∨ k = 11
  · have hfs := form_some h1
    obtain ⟨F, hF⟩ : ∃ F, formB k = F := ⟨_, rfl⟩
    rw [hF] at hfs HF
    rw [cnt_shape h1] at HS
    obtain ⟨⟨named, many⟩, hsh⟩ : ∃ q, shapeOf k = q := ⟨_, rfl⟩
    rw [hsh] at HS
    dsimp only at HS
    obtain ⟨nb, hnb⟩ : ∃ v, nameB nm = v := ⟨_, rfl⟩
    rw [hnb] at HN
    obtain ⟨em, hem⟩ : ∃ t, ((n : Int) != many) = t := ⟨_, rfl⟩
    have hcm : cmdB k nm ns = (!em && ((named == decide (nm.size ≠ 0)) && ((!named || nb) && numsB k 0 ns))) := by
      unfold cmdB; rw [hsh, hn, hnb, ← hem, show decide ((n : Int) = many) = !((n : Int) != many) by rw [Bool.eq_iff_iff]; simp, Bool.and_assoc]
    cases named with
    | true =>
      cases nb with
      | false =>
        have HR : Hid (cmdB k nm ns = false) := Lib.hid (by rw [hcm]; simp)
        clear hx hsh hcm hn h1 hF hnb
        go_enter Tryd.func26, Tryd.ntmps26
        go_wp2_with fail
        refine (HF.out _).mono ?_
        rintro e w1 ⟨rfl, hw1⟩
        rw [hw1] at BX HB0
        have c0 : w1.cell? ⟨w.heap.size, 0, none⟩ = some (.int .i64 k) := BX.out.cell 0
        have c1 : w1.cell? ⟨w.heap.size, 1, none⟩ = some (.string nm) := BX.out.cell 1
        have c2 : w1.cell? ⟨w.heap.size, 2, none⟩ = some (.slice A n c) := BX.out.cell 2
        clear hw1
        go_wp2_with fail
        refine (HS.out _).mono ?_
        rintro e w2 ⟨rfl, hb2⟩
        have BX2 := Lib.hid (BX.out.up' hb2)
        have HB2 := Lib.hid (below_trans' HB0.out hb2)
        clear hb2 c0 c1 c2
        have c0 : w2.cell? ⟨w.heap.size, 0, none⟩ = some (.int .i64 k) := BX2.out.cell 0
        have c1 : w2.cell? ⟨w.heap.size, 1, none⟩ = some (.string nm) := BX2.out.cell 1
        have c2 : w2.cell? ⟨w.heap.size, 2, none⟩ = some (.slice A n c) := BX2.out.cell 2
        go_wp2_with fail
        refine (HN.out _).mono ?_
        rintro e w3 ⟨rfl, hb3⟩
        have BX3 := Lib.hid (BX2.out.up' hb3)
        have HB3 := Lib.hid (below_trans' HB2.out hb3)
        clear hb3 c0 c1 c2
        have c0 : w3.cell? ⟨w.heap.size, 0, none⟩ = some (.int .i64 k) := BX3.out.cell 0
        have c1 : w3.cell? ⟨w.heap.size, 1, none⟩ = some (.string nm) := BX3.out.cell 1
        have c2 : w3.cell? ⟨w.heap.size, 2, none⟩ = some (.slice A n c) := BX3.out.cell 2
        go_wp2_with fail
        go_ret
        unfold cmB
        rw [HR.out]
        exact ⟨rfl, HB3.out⟩
      | true =>
        have hne := str_ne (name_ne hnb)
        have hne0 := name_ne hnb
        cases em with
        | true =>
          have HR : Hid (cmdB k nm ns = false) := Lib.hid (by rw [hcm]; simp)
          clear hx hsh hcm hn h1 hF hnb
          go_enter Tryd.func26, Tryd.ntmps26
          go_wp2_with fail
          refine (HF.out _).mono ?_
          rintro e w1 ⟨rfl, hw1⟩
          rw [hw1] at BX HB0
          have c0 : w1.cell? ⟨w.heap.size, 0, none⟩ = some (.int .i64 k) := BX.out.cell 0
          have c1 : w1.cell? ⟨w.heap.size, 1, none⟩ = some (.string nm) := BX.out.cell 1
          have c2 : w1.cell? ⟨w.heap.size, 2, none⟩ = some (.slice A n c) := BX.out.cell 2
          clear hw1
          go_wp2_with fail
          refine (HS.out _).mono ?_
          rintro e w2 ⟨rfl, hb2⟩
          have BX2 := Lib.hid (BX.out.up' hb2)
          have HB2 := Lib.hid (below_trans' HB0.out hb2)
          clear hb2 c0 c1 c2
          have c0 : w2.cell? ⟨w.heap.size, 0, none⟩ = some (.int .i64 k) := BX2.out.cell 0
          have c1 : w2.cell? ⟨w.heap.size, 1, none⟩ = some (.string nm) := BX2.out.cell 1
          have c2 : w2.cell? ⟨w.heap.size, 2, none⟩ = some (.slice A n c) := BX2.out.cell 2
          go_wp2_with fail
          refine (HN.out _).mono ?_
          rintro e w3 ⟨rfl, hb3⟩
          have BX3 := Lib.hid (BX2.out.up' hb3)
          have HB3 := Lib.hid (below_trans' HB2.out hb3)
          clear hb3 c0 c1 c2
          have c0 : w3.cell? ⟨w.heap.size, 0, none⟩ = some (.int .i64 k) := BX3.out.cell 0
          have c1 : w3.cell? ⟨w.heap.size, 1, none⟩ = some (.string nm) := BX3.out.cell 1
          have c2 : w3.cell? ⟨w.heap.size, 2, none⟩ = some (.slice A n c) := BX3.out.cell 2
          go_wp2_with fail
          go_ret
          unfold cmB
          rw [HR.out]
          exact ⟨rfl, HB3.out⟩
        | false =>
          obtain rfl : (n : Int) = many := by simpa using hem
          have HR : Hid (cmdB k nm ns = numsB k 0 ns) := Lib.hid (by rw [hcm, decide_eq_true hne0]; simp)
          clear hx hsh hcm hn h1 hF hnb
          go_enter Tryd.func26, Tryd.ntmps26
          go_wp2_with fail
          refine (HF.out _).mono ?_
          rintro e w1 ⟨rfl, hw1⟩
          rw [hw1] at BX HB0
          have c0 : w1.cell? ⟨w.heap.size, 0, none⟩ = some (.int .i64 k) := BX.out.cell 0
          have c1 : w1.cell? ⟨w.heap.size, 1, none⟩ = some (.string nm) := BX.out.cell 1
          have c2 : w1.cell? ⟨w.heap.size, 2, none⟩ = some (.slice A n c) := BX.out.cell 2
          clear hw1
          go_wp2_with fail
          refine (HS.out _).mono ?_
          rintro e w2 ⟨rfl, hb2⟩
          have BX2 := Lib.hid (BX.out.up' hb2)
          have HB2 := Lib.hid (below_trans' HB0.out hb2)
          clear hb2 c0 c1 c2
          have c0 : w2.cell? ⟨w.heap.size, 0, none⟩ = some (.int .i64 k) := BX2.out.cell 0
          have c1 : w2.cell? ⟨w.heap.size, 1, none⟩ = some (.string nm) := BX2.out.cell 1
          have c2 : w2.cell? ⟨w.heap.size, 2, none⟩ = some (.slice A n c) := BX2.out.cell 2
          go_wp2_with fail
          refine (HN.out _).mono ?_
          rintro e w3 ⟨rfl, hb3⟩
          have BX3 := Lib.hid (BX2.out.up' hb3)
          have HB3 := Lib.hid (below_trans' HB2.out hb3)
          clear hb3 c0 c1 c2
          have c0 : w3.cell? ⟨w.heap.size, 0, none⟩ = some (.int .i64 k) := BX3.out.cell 0
          have c1 : w3.cell? ⟨w.heap.size, 1, none⟩ = some (.string nm) := BX3.out.cell 1
          have c2 : w3.cell? ⟨w.heap.size, 2, none⟩ = some (.slice A n c) := BX3.out.cell 2
          go_wp2_with fail
          go_loopw [5, 6] (fun i o wr => ∃ (j : Nat) (z : Value), j ≤ n ∧ i = i64 (j : Nat) ∧ o = z ∧ Hid (numsB k 0 ns = numsB k j (ns.drop j)) ∧ w3 = wr) (fun i _ _ => n - (intOf i).toNat)
          case atStart => exact ⟨0, _, Nat.zero_le _, rfl, rfl, Lib.hid rfl, rfl⟩
          case round =>
            obtain ⟨j, z, hj, rfl, rfl, HG, rfl⟩ := hrel
            by_cases hlt : j < n
            · have hlt' : (j : Int) < (n : Int) := by omega
              have hjn : j < ns.length := by rw [HLN.out]; exact hlt
              obtain ⟨b, off, rfl, hb, hcc⟩ := (HX.out.rd.up HB3.out).2 (by show 0 < n; omega)
              have hg := HG.out
              rw [List.drop_eq_getElem_cons hjn] at hg
              have hc := hcc j (iv ns[j]) (by rw [List.getElem?_map, List.getElem?_eq_getElem hjn]; rfl)
              obtain ⟨v, hv⟩ : ∃ v, ns[j] = v := ⟨_, rfl⟩
              rw [hv] at hc hg
              unfold iv at hc
              simp only [numsB] at hg
              clear hb hcc
              by_cases hq3 : k = 3
              · have f3 : (k == 3) = true := by rw [beq_iff_eq]; exact hq3
                by_cases hq4 : j = 2
                · have f4 : ((j : Int) == 2) = true := by rw [beq_iff_eq]; omega
                  by_cases q1 : v < -1000000000
                  · have hch : numB k j v = false := by unfold numB; rw [decide_eq_false (show ¬ 0 ≤ v by omega), decide_eq_false (show ¬ (-1000000000 ≤ v) by omega)]; simp
                    clear hq3 hq4
                    rw [hch, Bool.false_and] at hg
                    have HG2 : Hid (cmdB k nm ns = false) := Lib.hid (HR.out.trans hg)
                    clear hg hch hv
                    go_wp2_with fail
                    go_ret
                    unfold cmB
                    rw [HG2.out]
                    exact ⟨rfl, HB3.out⟩
                  · by_cases q2 : 1000000000 < v
                    · have hch : numB k j v = false := by unfold numB; rw [decide_eq_false (show ¬ v ≤ 1000000000 by omega)]; rfl
                      clear hq3 hq4
                      rw [hch, Bool.false_and] at hg
                      have HG2 : Hid (cmdB k nm ns = false) := Lib.hid (HR.out.trans hg)
                      clear hg hch hv
                      go_wp2_with fail
                      go_ret
                      unfold cmB
                      rw [HG2.out]
                      exact ⟨rfl, HB3.out⟩
                    · have hch : numB k j v = true := by unfold numB; rw [decide_eq_true (show v ≤ 1000000000 by omega), decide_eq_true hq3, decide_eq_true hq4, decide_eq_true (show -1000000000 ≤ v by omega)]; simp
                      clear hq3 hq4
                      rw [hch, Bool.true_and] at hg
                      have HG2 := Lib.hid hg
                      clear hg hch hv
                      go_wp2_with fail
                      case roundEnd =>
                        refine ⟨⟨j + 1, _, by omega, rfl, rfl, Lib.hid HG2.out, trivial⟩, ?_⟩
                        simp only [intOf]; omega
                · have f4 : ((j : Int) == 2) = false := by rw [beq_eq_false_iff_ne]; omega
                  have hq : k ≠ 3 ∨ j ≠ 2 := .inr hq4
                  clear hq3 hq4
                  by_cases q1 : v < 0
                  · have hch : numB k j v = false := by unfold numB; rw [decide_eq_false (show ¬ 0 ≤ v by omega)]; rcases hq with h | h <;> simp [h]
                    clear hq
                    rw [hch, Bool.false_and] at hg
                    have HG2 : Hid (cmdB k nm ns = false) := Lib.hid (HR.out.trans hg)
                    clear hg hch hv
                    go_wp2_with fail
                    go_ret
                    unfold cmB
                    rw [HG2.out]
                    exact ⟨rfl, HB3.out⟩
                  · by_cases q2 : 1000000000 < v
                    · have hch : numB k j v = false := by unfold numB; rw [decide_eq_false (show ¬ v ≤ 1000000000 by omega)]; rfl
                      clear hq
                      rw [hch, Bool.false_and] at hg
                      have HG2 : Hid (cmdB k nm ns = false) := Lib.hid (HR.out.trans hg)
                      clear hg hch hv
                      go_wp2_with fail
                      go_ret
                      unfold cmB
                      rw [HG2.out]
                      exact ⟨rfl, HB3.out⟩
                    · have hch : numB k j v = true := by unfold numB; rw [decide_eq_true (show v ≤ 1000000000 by omega), decide_eq_true (show 0 ≤ v by omega)]; rfl
                      clear hq
                      rw [hch, Bool.true_and] at hg
                      have HG2 := Lib.hid hg
                      clear hg hch hv
                      go_wp2_with fail
                      case roundEnd =>
                        refine ⟨⟨j + 1, _, by omega, rfl, rfl, Lib.hid HG2.out, trivial⟩, ?_⟩
                        simp only [intOf]; omega
              · have f3 : (k == 3) = false := by rw [beq_eq_false_iff_ne]; exact hq3
                have hq : k ≠ 3 ∨ j ≠ 2 := .inl hq3
                clear hq3
                by_cases q1 : v < 0
                · have hch : numB k j v = false := by unfold numB; rw [decide_eq_false (show ¬ 0 ≤ v by omega)]; rcases hq with h | h <;> simp [h]
                  clear hq
                  rw [hch, Bool.false_and] at hg
                  have HG2 : Hid (cmdB k nm ns = false) := Lib.hid (HR.out.trans hg)
                  clear hg hch hv
                  go_wp2_with fail
                  go_ret
                  unfold cmB
                  rw [HG2.out]
                  exact ⟨rfl, HB3.out⟩
                · by_cases q2 : 1000000000 < v
                  · have hch : numB k j v = false := by unfold numB; rw [decide_eq_false (show ¬ v ≤ 1000000000 by omega)]; rfl
                    clear hq
                    rw [hch, Bool.false_and] at hg
                    have HG2 : Hid (cmdB k nm ns = false) := Lib.hid (HR.out.trans hg)
                    clear hg hch hv
                    go_wp2_with fail
                    go_ret
                    unfold cmB
                    rw [HG2.out]
                    exact ⟨rfl, HB3.out⟩
                  · have hch : numB k j v = true := by unfold numB; rw [decide_eq_true (show v ≤ 1000000000 by omega), decide_eq_true (show 0 ≤ v by omega)]; rfl
                    clear hq
                    rw [hch, Bool.true_and] at hg
                    have HG2 := Lib.hid hg
                    clear hg hch hv
                    go_wp2_with fail
                    case roundEnd =>
                      refine ⟨⟨j + 1, _, by omega, rfl, rfl, Lib.hid HG2.out, trivial⟩, ?_⟩
                      simp only [intOf]; omega
            · have hlt' : ¬ (j : Int) < (n : Int) := by omega
              obtain rfl : j = n := by omega
              have hg := HG.out
              rw [List.drop_of_length_le (by rw [HLN.out]; exact Nat.le_refl _)] at hg
              have HG2 : Hid (cmdB k nm ns = true) := Lib.hid (HR.out.trans hg)
              clear hg
              go_wp2_with fail
              go_ret
              unfold cmB
              rw [HG2.out]
              exact ⟨rfl, HB3.out⟩
    | false =>
      by_cases he : nm.size = 0
      · have hne := str_nil he
        cases em with
        | true =>
          have HR : Hid (cmdB k nm ns = false) := Lib.hid (by rw [hcm]; simp)
          clear hx hsh hcm hn h1 hF hnb
          go_enter Tryd.func26, Tryd.ntmps26
          go_wp2_with fail
          refine (HF.out _).mono ?_
          rintro e w1 ⟨rfl, hw1⟩
          rw [hw1] at BX HB0
          have c0 : w1.cell? ⟨w.heap.size, 0, none⟩ = some (.int .i64 k) := BX.out.cell 0
          have c1 : w1.cell? ⟨w.heap.size, 1, none⟩ = some (.string nm) := BX.out.cell 1
          have c2 : w1.cell? ⟨w.heap.size, 2, none⟩ = some (.slice A n c) := BX.out.cell 2
          clear hw1
          go_wp2_with fail
          refine (HS.out _).mono ?_
          rintro e w2 ⟨rfl, hb2⟩
          have BX2 := Lib.hid (BX.out.up' hb2)
          have HB2 := Lib.hid (below_trans' HB0.out hb2)
          clear hb2 c0 c1 c2
          have c0 : w2.cell? ⟨w.heap.size, 0, none⟩ = some (.int .i64 k) := BX2.out.cell 0
          have c1 : w2.cell? ⟨w.heap.size, 1, none⟩ = some (.string nm) := BX2.out.cell 1
          have c2 : w2.cell? ⟨w.heap.size, 2, none⟩ = some (.slice A n c) := BX2.out.cell 2
          go_wp2_with fail
          go_ret
          unfold cmB
          rw [HR.out]
          exact ⟨rfl, HB2.out⟩
        | false =>
          obtain rfl : (n : Int) = many := by simpa using hem
          have HR : Hid (cmdB k nm ns = numsB k 0 ns) := Lib.hid (by rw [hcm, decide_eq_false (fun h => h he)]; simp)
          clear hx hsh hcm hn h1 hF hnb
          go_enter Tryd.func26, Tryd.ntmps26
          go_wp2_with fail
          refine (HF.out _).mono ?_
          rintro e w1 ⟨rfl, hw1⟩
          rw [hw1] at BX HB0
          have c0 : w1.cell? ⟨w.heap.size, 0, none⟩ = some (.int .i64 k) := BX.out.cell 0
          have c1 : w1.cell? ⟨w.heap.size, 1, none⟩ = some (.string nm) := BX.out.cell 1
          have c2 : w1.cell? ⟨w.heap.size, 2, none⟩ = some (.slice A n c) := BX.out.cell 2
          clear hw1
          go_wp2_with fail
          refine (HS.out _).mono ?_
          rintro e w2 ⟨rfl, hb2⟩
          have BX2 := Lib.hid (BX.out.up' hb2)
          have HB2 := Lib.hid (below_trans' HB0.out hb2)
          clear hb2 c0 c1 c2
          have c0 : w2.cell? ⟨w.heap.size, 0, none⟩ = some (.int .i64 k) := BX2.out.cell 0
          have c1 : w2.cell? ⟨w.heap.size, 1, none⟩ = some (.string nm) := BX2.out.cell 1
          have c2 : w2.cell? ⟨w.heap.size, 2, none⟩ = some (.slice A n c) := BX2.out.cell 2
          go_wp2_with fail
          go_loopw [5, 6] (fun i o wr => ∃ (j : Nat) (z : Value), j ≤ n ∧ i = i64 (j : Nat) ∧ o = z ∧ Hid (numsB k 0 ns = numsB k j (ns.drop j)) ∧ w2 = wr) (fun i _ _ => n - (intOf i).toNat)
          case atStart => exact ⟨0, _, Nat.zero_le _, rfl, rfl, Lib.hid rfl, rfl⟩
          case round =>
            obtain ⟨j, z, hj, rfl, rfl, HG, rfl⟩ := hrel
            by_cases hlt : j < n
            · have hlt' : (j : Int) < (n : Int) := by omega
              have hjn : j < ns.length := by rw [HLN.out]; exact hlt
              obtain ⟨b, off, rfl, hb, hcc⟩ := (HX.out.rd.up HB2.out).2 (by show 0 < n; omega)
              have hg := HG.out
              rw [List.drop_eq_getElem_cons hjn] at hg
              have hc := hcc j (iv ns[j]) (by rw [List.getElem?_map, List.getElem?_eq_getElem hjn]; rfl)
              obtain ⟨v, hv⟩ : ∃ v, ns[j] = v := ⟨_, rfl⟩
              rw [hv] at hc hg
              unfold iv at hc
              simp only [numsB] at hg
              clear hb hcc
              by_cases hq3 : k = 3
              · have f3 : (k == 3) = true := by rw [beq_iff_eq]; exact hq3
                by_cases hq4 : j = 2
                · have f4 : ((j : Int) == 2) = true := by rw [beq_iff_eq]; omega
                  by_cases q1 : v < -1000000000
                  · have hch : numB k j v = false := by unfold numB; rw [decide_eq_false (show ¬ 0 ≤ v by omega), decide_eq_false (show ¬ (-1000000000 ≤ v) by omega)]; simp
                    clear hq3 hq4
                    rw [hch, Bool.false_and] at hg
                    have HG2 : Hid (cmdB k nm ns = false) := Lib.hid (HR.out.trans hg)
                    clear hg hch hv
                    go_wp2_with fail
                    go_ret
                    unfold cmB
                    rw [HG2.out]
                    exact ⟨rfl, HB2.out⟩
                  · by_cases q2 : 1000000000 < v
                    · have hch : numB k j v = false := by unfold numB; rw [decide_eq_false (show ¬ v ≤ 1000000000 by omega)]; rfl
                      clear hq3 hq4
                      rw [hch, Bool.false_and] at hg
                      have HG2 : Hid (cmdB k nm ns = false) := Lib.hid (HR.out.trans hg)
                      clear hg hch hv
                      go_wp2_with fail
                      go_ret
                      unfold cmB
                      rw [HG2.out]
                      exact ⟨rfl, HB2.out⟩
                    · have hch : numB k j v = true := by unfold numB; rw [decide_eq_true (show v ≤ 1000000000 by omega), decide_eq_true hq3, decide_eq_true hq4, decide_eq_true (show -1000000000 ≤ v by omega)]; simp
                      clear hq3 hq4
                      rw [hch, Bool.true_and] at hg
                      have HG2 := Lib.hid hg
                      clear hg hch hv
                      go_wp2_with fail
                      case roundEnd =>
                        refine ⟨⟨j + 1, _, by omega, rfl, rfl, Lib.hid HG2.out, trivial⟩, ?_⟩
                        simp only [intOf]; omega
                · have f4 : ((j : Int) == 2) = false := by rw [beq_eq_false_iff_ne]; omega
                  have hq : k ≠ 3 ∨ j ≠ 2 := .inr hq4
                  clear hq3 hq4
                  by_cases q1 : v < 0
                  · have hch : numB k j v = false := by unfold numB; rw [decide_eq_false (show ¬ 0 ≤ v by omega)]; rcases hq with h | h <;> simp [h]
                    clear hq
                    rw [hch, Bool.false_and] at hg
                    have HG2 : Hid (cmdB k nm ns = false) := Lib.hid (HR.out.trans hg)
                    clear hg hch hv
                    go_wp2_with fail
                    go_ret
                    unfold cmB
                    rw [HG2.out]
                    exact ⟨rfl, HB2.out⟩
                  · by_cases q2 : 1000000000 < v
                    · have hch : numB k j v = false := by unfold numB; rw [decide_eq_false (show ¬ v ≤ 1000000000 by omega)]; rfl
                      clear hq
                      rw [hch, Bool.false_and] at hg
                      have HG2 : Hid (cmdB k nm ns = false) := Lib.hid (HR.out.trans hg)
                      clear hg hch hv
                      go_wp2_with fail
                      go_ret
                      unfold cmB
                      rw [HG2.out]
                      exact ⟨rfl, HB2.out⟩
                    · have hch : numB k j v = true := by unfold numB; rw [decide_eq_true (show v ≤ 1000000000 by omega), decide_eq_true (show 0 ≤ v by omega)]; rfl
                      clear hq
                      rw [hch, Bool.true_and] at hg
                      have HG2 := Lib.hid hg
                      clear hg hch hv
                      go_wp2_with fail
                      case roundEnd =>
                        refine ⟨⟨j + 1, _, by omega, rfl, rfl, Lib.hid HG2.out, trivial⟩, ?_⟩
                        simp only [intOf]; omega
              · have f3 : (k == 3) = false := by rw [beq_eq_false_iff_ne]; exact hq3
                have hq : k ≠ 3 ∨ j ≠ 2 := .inl hq3
                clear hq3
                by_cases q1 : v < 0
                · have hch : numB k j v = false := by unfold numB; rw [decide_eq_false (show ¬ 0 ≤ v by omega)]; rcases hq with h | h <;> simp [h]
                  clear hq
                  rw [hch, Bool.false_and] at hg
                  have HG2 : Hid (cmdB k nm ns = false) := Lib.hid (HR.out.trans hg)
                  clear hg hch hv
                  go_wp2_with fail
                  go_ret
                  unfold cmB
                  rw [HG2.out]
                  exact ⟨rfl, HB2.out⟩
                · by_cases q2 : 1000000000 < v
                  · have hch : numB k j v = false := by unfold numB; rw [decide_eq_false (show ¬ v ≤ 1000000000 by omega)]; rfl
                    clear hq
                    rw [hch, Bool.false_and] at hg
                    have HG2 : Hid (cmdB k nm ns = false) := Lib.hid (HR.out.trans hg)
                    clear hg hch hv
                    go_wp2_with fail
                    go_ret
                    unfold cmB
                    rw [HG2.out]
                    exact ⟨rfl, HB2.out⟩
                  · have hch : numB k j v = true := by unfold numB; rw [decide_eq_true (show v ≤ 1000000000 by omega), decide_eq_true (show 0 ≤ v by omega)]; rfl
                    clear hq
                    rw [hch, Bool.true_and] at hg
                    have HG2 := Lib.hid hg
                    clear hg hch hv
                    go_wp2_with fail
                    case roundEnd =>
                      refine ⟨⟨j + 1, _, by omega, rfl, rfl, Lib.hid HG2.out, trivial⟩, ?_⟩
                      simp only [intOf]; omega
            · have hlt' : ¬ (j : Int) < (n : Int) := by omega
              obtain rfl : j = n := by omega
              have hg := HG.out
              rw [List.drop_of_length_le (by rw [HLN.out]; exact Nat.le_refl _)] at hg
              have HG2 : Hid (cmdB k nm ns = true) := Lib.hid (HR.out.trans hg)
              clear hg
              go_wp2_with fail
              go_ret
              unfold cmB
              rw [HG2.out]
              exact ⟨rfl, HB2.out⟩
      · have hne := str_ne he
        have HR : Hid (cmdB k nm ns = false) := Lib.hid (by rw [hcm, decide_eq_true he]; simp)
        clear hx hsh hcm hn h1 hF hnb
        go_enter Tryd.func26, Tryd.ntmps26
        go_wp2_with fail
        refine (HF.out _).mono ?_
        rintro e w1 ⟨rfl, hw1⟩
        rw [hw1] at BX HB0
        have c0 : w1.cell? ⟨w.heap.size, 0, none⟩ = some (.int .i64 k) := BX.out.cell 0
        have c1 : w1.cell? ⟨w.heap.size, 1, none⟩ = some (.string nm) := BX.out.cell 1
        have c2 : w1.cell? ⟨w.heap.size, 2, none⟩ = some (.slice A n c) := BX.out.cell 2
        clear hw1
        go_wp2_with fail
        refine (HS.out _).mono ?_
        rintro e w2 ⟨rfl, hb2⟩
        have BX2 := Lib.hid (BX.out.up' hb2)
        have HB2 := Lib.hid (below_trans' HB0.out hb2)
        clear hb2 c0 c1 c2
        have c0 : w2.cell? ⟨w.heap.size, 0, none⟩ = some (.int .i64 k) := BX2.out.cell 0
        have c1 : w2.cell? ⟨w.heap.size, 1, none⟩ = some (.string nm) := BX2.out.cell 1
        have c2 : w2.cell? ⟨w.heap.size, 2, none⟩ = some (.slice A n c) := BX2.out.cell 2
        go_wp2_with fail
        go_ret
        unfold cmB
        rw [HR.out]
        exact ⟨rfl, HB2.out⟩
  · have hfs : formB k = ⟨#[]⟩ := form_none h1
    rw [hfs] at HF
    have hee : ((⟨#[]⟩ : ByteArray).toList == []) = true := by rw [Lib.toList_data]; rfl
    have HR : Hid (cmdB k nm ns = false) := Lib.hid (by unfold cmdB; rw [shape_none h1, decide_eq_false (show ¬ ((ns.length : Int) = -1) by omega)]; rfl)
    clear hx hn h1 hfs
    go_enter Tryd.func26, Tryd.ntmps26
    go_wp2_with fail
    refine (HF.out _).mono ?_
    rintro e w1 ⟨rfl, hw1⟩
    rw [hw1] at BX HB0
    have c0 : w1.cell? ⟨w.heap.size, 0, none⟩ = some (.int .i64 k) := BX.out.cell 0
    have c1 : w1.cell? ⟨w.heap.size, 1, none⟩ = some (.string nm) := BX.out.cell 1
    have c2 : w1.cell? ⟨w.heap.size, 2, none⟩ = some (.slice A n c) := BX.out.cell 2
    clear hw1
    go_wp2_with fail
    go_ret
    unfold cmB
    rw [HR.out]
    exact ⟨rfl, HB0.out⟩
set_option maxRecDepth 100000 in
set_option maxHeartbeats 1000000 in
theorem rvalid_val (A : Option Addr) (n c : Nat) (l : List Cm) (w : World) (h : IsCms w A n c l) :
    Calls Tryd.prog 14 #[.slice A n c] w fun e w' => e = .returned (.bool (validB l)) ∧ Below w.heap.size w w' := by
  have hnm : n ≤ 9223372036854775807 := Nat.le_trans h.2.2.1 (Nat.le_trans h.2.2.2.1 (by decide))
  have HI := Lib.hid h
  have HN := Lib.hid h.1
  clear h
  go_enter Tryd.func14, Tryd.ntmps14
  go_wp2_with fail
  go_loopw [3] (fun i wr => ∃ k : Nat, k ≤ n ∧ i = i64 (k : Nat) ∧ Hid (l.all cmB = (l.drop k).all cmB) ∧ Below w.heap.size w wr) (fun i _ => n - (intOf i).toNat)
  case atStart => exact ⟨0, Nat.zero_le _, rfl, Lib.hid rfl, Below.refl _ _⟩
  case round =>
    obtain ⟨k, hk, rfl, HG, hB⟩ := hrel
    have HB := Lib.hid hB
    clear hB
    by_cases hlt : k < n
    · have hlt' : (k : Int) < (n : Int) := by omega
      have hkl : k < l.length := by rw [HN.out]; exact hlt
      obtain ⟨b, off, rfl, hb, hc⟩ := rd_el (dec := decC) (s := 4) (fun _ => rfl) (HI.out.up HB.out).2.1 HN.out hkl
      have hg := HG.out
      rw [List.drop_eq_getElem_cons hkl, List.all_cons] at hg
      have HV := Lib.hid (rcommand_val l[k] _ ((HI.out.up HB.out).2.2.2.2 _ (List.getElem_mem hkl)))
      obtain ⟨⟨xk, xm, xA, xn, xc, xs, xp⟩, hx⟩ : ∃ x, l[k] = x := ⟨_, rfl⟩
      rw [hx] at hc hg HV
      have c0 := hc 0 _ rfl
      have c1 := hc 1 _ rfl
      have c2 := hc 2 _ rfl
      have c3 := hc 3 _ rfl
      rw [Nat.add_zero] at c0
      dsimp only at c0 c1 c2 c3 HV
      obtain ⟨v, hv⟩ : ∃ v, cmB ⟨xk, xm, xA, xn, xc, xs, xp⟩ = v := ⟨_, rfl⟩
      rw [hv] at hg HV
      have HG2 := Lib.hid hg
      clear hlt hb hc hx hv hg hkl
      cases v with
      | true =>
        go_wp2_with fail
        refine HV.out.mono ?_
        rintro e w1 ⟨rfl, hb1⟩
        have HB1 := Lib.hid (below_trans' HB.out hb1)
        clear hb1
        go_wp2_with fail
        case roundEnd =>
          refine ⟨⟨k + 1, by omega, rfl, Lib.hid (HG2.out.trans (Bool.true_and _)), HB1.out⟩, ?_⟩
          simp only [intOf]; omega
      | false =>
        go_wp2_with fail
        refine HV.out.mono ?_
        rintro e w1 ⟨rfl, hb1⟩
        have HB1 := Lib.hid (below_trans' HB.out hb1)
        clear hb1
        go_wp2_with fail
        go_ret
        have hr : validB l = false := by unfold validB; rw [HG2.out]; simp
        rw [hr]
        exact ⟨rfl, HB1.out⟩
    · have hlt' : ¬ (k : Int) < (n : Int) := by omega
      obtain rfl : k = n := by omega
      have hg := HG.out
      rw [List.drop_of_length_le (by rw [HN.out]; exact Nat.le_refl _)] at hg
      have HG2 : Hid (validB l = decide ((k : Int) ≤ 300)) := Lib.hid (by unfold validB; rw [hg, HN.out, Bool.eq_iff_iff]; simp; omega)
      clear hg
      go_wp2_with fail
      go_ret
      rw [HG2.out]
      exact ⟨rfl, HB.out⟩
end Go.Proofs.YtmdogklgbifacaaDoor.Pr
