/- parser.shape, parser.isCommand. -/
import Derived.Test.YtmdogklgbifacaaDoorPrWord
import Derived.Test.YtmdogklgbifacaaDoorPrArgs
namespace Go.Proofs.YtmdogklgbifacaaDoor.Pr
open Go.RowKit Go.Proofs.YtmdogklgbifacaaDoor.Lx
set_option linter.unusedVariables false

def shapeOf (k : Int) : Bool × Int :=
  if k = 1 then (false, 2) else if k = 2 ∨ k = 7 then (true, 2) else if k = 3 then (true, 4) else if k = 4 then (true, 3)
  else if k = 5 ∨ k = 6 then (true, 1) else if k = 8 then (false, 6) else if k = 9 then (false, 4) else if k = 10 then (false, 3)
  else if k = 11 then (false, 1) else (false, -1)
set_option maxRecDepth 100000 in
set_option maxHeartbeats 2000000 in
theorem shape_val (k : Int) (w : World) :
    Calls Tryd.prog 60 #[.int .i64 k] w fun e w' => e = .returned (.tuple #[.bool (shapeOf k).1, .int .i64 (shapeOf k).2]) ∧ w = w' := by
  by_cases h1 : k = 1 ∨ k = 2 ∨ k = 3 ∨ k = 4 ∨ k = 5 ∨ k = 6 ∨ k = 7 ∨ k = 8 ∨ k = 9 ∨ k = 10 ∨ k = 11
  · rcases h1 with rfl | rfl | rfl | rfl | rfl | rfl | rfl | rfl | rfl | rfl | rfl <;>
    · go_enter Tryd.func60, Tryd.ntmps60
      go_wp2_with fail
      go_ret2
      exact ⟨rfl, rfl⟩
  · have hs : shapeOf k = (false, -1) := by
      unfold shapeOf
      rw [if_neg (by omega), if_neg (by omega), if_neg (by omega), if_neg (by omega), if_neg (by omega), if_neg (by omega), if_neg (by omega), if_neg (by omega), if_neg (by omega)]
    have HS := Lib.hid hs
    have f1 : (k == 1) = false := by rw [beq_eq_false_iff_ne]; omega
    have f2 : (k == 2) = false := by rw [beq_eq_false_iff_ne]; omega
    have f3 : (k == 3) = false := by rw [beq_eq_false_iff_ne]; omega
    have f4 : (k == 4) = false := by rw [beq_eq_false_iff_ne]; omega
    have f5 : (k == 5) = false := by rw [beq_eq_false_iff_ne]; omega
    have f6 : (k == 6) = false := by rw [beq_eq_false_iff_ne]; omega
    have f7 : (k == 7) = false := by rw [beq_eq_false_iff_ne]; omega
    have f8 : (k == 8) = false := by rw [beq_eq_false_iff_ne]; omega
    have f9 : (k == 9) = false := by rw [beq_eq_false_iff_ne]; omega
    have f10 : (k == 10) = false := by rw [beq_eq_false_iff_ne]; omega
    have f11 : (k == 11) = false := by rw [beq_eq_false_iff_ne]; omega
    clear h1 hs
    go_enter Tryd.func60, Tryd.ntmps60
    go_wp2_with fail
    go_ret2
    rw [HS.out]
    exact ⟨rfl, rfl⟩

def numB (k : Int) (i : Nat) (v : Int) : Bool := decide (v ≤ 1000000000) && (decide (0 ≤ v) || (decide (k = 3) && (decide (i = 2) && decide (-1000000000 ≤ v))))
def numsB (k : Int) : Nat → List Int → Bool
  | _, [] => true
  | i, v :: r => numB k i v && numsB k (i + 1) r
/-- Is a command valid? -/
def cmdB (k : Int) (name : ByteArray) (ns : List Int) : Bool :=
  (decide ((ns.length : Int) = (shapeOf k).2) && ((shapeOf k).1 == decide (name.size ≠ 0))) && ((!(shapeOf k).1 || nameB name) && numsB k 0 ns)
set_option maxRecDepth 100000 in
set_option maxHeartbeats 2000000 in
theorem isCommand_val (x : Cm) (w : World) (hx : Cm.In w x) :
    Calls Tryd.prog 38 #[.agg #[.int .i64 x.kind, .string x.name, .slice x.A x.n x.c, .int .i64 x.pos]] w fun e w' => e = .returned (.bool (cmdB x.kind x.name x.ns)) ∧ Below w.heap.size w w' := by
  obtain ⟨k, nm, A, n, c, ns, p⟩ := x
  have HX := Lib.hid hx
  have hn := hx.len
  dsimp only at hn
  have hnm : n ≤ 9223372036854775807 := Nat.le_trans hx.nc (Nat.le_trans hx.cm (by decide))
  have HS := Lib.hid (shape_val k)
  obtain ⟨⟨named, many⟩, hsh⟩ : ∃ q, shapeOf k = q := ⟨_, rfl⟩
  rw [hsh] at HS
  have HN := Lib.hid (isName_val nm hx.name)
  have HB0 : Hid (Below w.heap.size w (w.alloc (.cells #[.int .i64 k, .string nm, .slice A n c, .int .i64 p] 46))) := Lib.hid ((Below.refl _ w).alloc (Nat.le_refl _) _)
  have BX : Hid (Blk (w.alloc (.cells #[.int .i64 k, .string nm, .slice A n c, .int .i64 p] 46)) w.heap.size 46 #[.int .i64 k, .string nm, .slice A n c, .int .i64 p]) := Lib.hid (Blk.new w _ _)
  dsimp only at HS
  by_cases hm : (n : Int) = many
  · have hm' : ((n : Int) != many) = false := by rw [bne_eq_false_iff_eq]; exact hm
    have HLN := Lib.hid hn
    have hcm : cmdB k nm ns = ((named == decide (nm.size ≠ 0)) && ((!named || nameB nm) && numsB k 0 ns)) := by unfold cmdB; rw [hsh, hn, decide_eq_true hm, Bool.true_and]
    by_cases he : nm.size = 0
    · have hne : (nm.toList == []) = true := by
        have e2 : nm.toList = [] := by rw [Lib.toList_data]; exact List.eq_nil_of_length_eq_zero (Array.length_toList.trans he)
        rw [e2]; rfl
      rw [decide_eq_false (fun h => h he)] at hcm
      cases named with
      | true =>
        have HR : Hid (cmdB k nm ns = false) := Lib.hid (by rw [hcm]; rfl)
        clear hx hsh hcm he hn
        go_enter Tryd.func38, Tryd.ntmps38
        go_wp2_with fail
        refine (HS.out _).mono ?_
        rintro e w1 ⟨rfl, hw1⟩
        rw [hw1] at BX HB0
        have c0 : w1.cell? ⟨w.heap.size, 0, none⟩ = some (.int .i64 k) := BX.out.cell 0
        have c1 : w1.cell? ⟨w.heap.size, 1, none⟩ = some (.string nm) := BX.out.cell 1
        have c2 : w1.cell? ⟨w.heap.size, 2, none⟩ = some (.slice A n c) := BX.out.cell 2
        clear hw1
        go_wp2_with fail
        go_ret
        rw [HR.out]
        exact ⟨rfl, HB0.out⟩
      | false =>
        have HR : Hid (cmdB k nm ns = numsB k 0 ns) := Lib.hid (by rw [hcm]; simp)
        clear hx hsh hcm he hn hm
        go_enter Tryd.func38, Tryd.ntmps38
        go_wp2_with fail
        refine (HS.out _).mono ?_
        rintro e w1 ⟨rfl, hw1⟩
        rw [hw1] at BX HB0
        have c0 : w1.cell? ⟨w.heap.size, 0, none⟩ = some (.int .i64 k) := BX.out.cell 0
        have c1 : w1.cell? ⟨w.heap.size, 1, none⟩ = some (.string nm) := BX.out.cell 1
        have c2 : w1.cell? ⟨w.heap.size, 2, none⟩ = some (.slice A n c) := BX.out.cell 2
        clear hw1
        go_wp2_with fail
        go_loopw [37] (fun i wr => ∃ (j : Nat), j ≤ n ∧ i = i64 (j : Nat) ∧ Hid (numsB k 0 ns = numsB k j (ns.drop j)) ∧ w1 = wr) (fun i _ => n - (intOf i).toNat)
        case atStart => exact ⟨0, Nat.zero_le _, rfl, Lib.hid rfl, rfl⟩
        case round =>
          obtain ⟨j, hj, rfl, HG, rfl⟩ := hrel
          by_cases hlt : j < n
          · have hlt' : (j : Int) < (n : Int) := by omega
            have hjn : j < ns.length := by rw [HLN.out]; exact hlt
            obtain ⟨b, off, rfl, hb, hcc⟩ := (HX.out.rd.up HB0.out).2 (by show 0 < n; omega)
            have hg := HG.out
            rw [List.drop_eq_getElem_cons hjn] at hg
            have hc := hcc j (iv ns[j]) (by rw [List.getElem?_map, List.getElem?_eq_getElem hjn]; rfl)
            obtain ⟨v, hv⟩ : ∃ v, ns[j] = v := ⟨_, rfl⟩
            rw [hv] at hc hg
            unfold iv at hc
            simp only [numsB] at hg
            clear hb hcc
            by_cases q1 : 1000000000 < v
            · have hch : numB k j v = false := by unfold numB; rw [decide_eq_false (show ¬ v ≤ 1000000000 by omega)]; rfl
              rw [hch, Bool.false_and] at hg
              have HG2 : Hid (cmdB k nm ns = false) := Lib.hid (HR.out.trans hg)
              clear hg hch hv
              go_wp2_with fail
              go_ret
              rw [HG2.out]
              exact ⟨rfl, HB0.out⟩
            · by_cases q2 : v < 0
              · by_cases q3 : k = 3
                · have f3 : (k != 3) = false := by rw [bne_eq_false_iff_eq]; exact q3
                  by_cases q4 : j = 2
                  · have f4 : ((j : Int) != 2) = false := by rw [bne_eq_false_iff_eq]; omega
                    by_cases q5 : v < -1000000000
                    · have hch : numB k j v = false := by unfold numB; rw [decide_eq_false (show ¬ 0 ≤ v by omega), decide_eq_false (show ¬ (-1000000000 ≤ v) by omega)]; simp
                      clear q3 q4
                      rw [hch, Bool.false_and] at hg
                      have HG2 : Hid (cmdB k nm ns = false) := Lib.hid (HR.out.trans hg)
                      clear hg hch hv
                      go_wp2_with fail
                      go_ret
                      rw [HG2.out]
                      exact ⟨rfl, HB0.out⟩
                    · have hch : numB k j v = true := by unfold numB; rw [decide_eq_true (show v ≤ 1000000000 by omega), decide_eq_true q3, decide_eq_true q4, decide_eq_true (show -1000000000 ≤ v by omega)]; simp
                      clear q3 q4
                      rw [hch, Bool.true_and] at hg
                      have HG2 := Lib.hid hg
                      clear hg hch hv
                      go_wp2_with fail
                      case roundEnd =>
                        refine ⟨⟨j + 1, by omega, rfl, Lib.hid HG2.out, trivial⟩, ?_⟩
                        simp only [intOf]; omega
                  · have f4 : ((j : Int) != 2) = true := by rw [bne_iff_ne]; omega
                    have hch : numB k j v = false := by unfold numB; rw [decide_eq_false (show ¬ 0 ≤ v by omega), decide_eq_false q4]; simp
                    clear q3 q4
                    rw [hch, Bool.false_and] at hg
                    have HG2 : Hid (cmdB k nm ns = false) := Lib.hid (HR.out.trans hg)
                    clear hg hch hv
                    go_wp2_with fail
                    go_ret
                    rw [HG2.out]
                    exact ⟨rfl, HB0.out⟩
                · have f3 : (k != 3) = true := by rw [bne_iff_ne]; exact q3
                  have hch : numB k j v = false := by unfold numB; rw [decide_eq_false (show ¬ 0 ≤ v by omega), decide_eq_false q3]; simp
                  clear q3
                  rw [hch, Bool.false_and] at hg
                  have HG2 : Hid (cmdB k nm ns = false) := Lib.hid (HR.out.trans hg)
                  clear hg hch hv
                  go_wp2_with fail
                  go_ret
                  rw [HG2.out]
                  exact ⟨rfl, HB0.out⟩
              · have hch : numB k j v = true := by unfold numB; rw [decide_eq_true (show v ≤ 1000000000 by omega), decide_eq_true (show 0 ≤ v by omega)]; rfl
                rw [hch, Bool.true_and] at hg
                have HG2 := Lib.hid hg
                clear hg hch hv
                go_wp2_with fail
                case roundEnd =>
                  refine ⟨⟨j + 1, by omega, rfl, Lib.hid HG2.out, trivial⟩, ?_⟩
                  simp only [intOf]; omega
          · have hlt' : ¬ (j : Int) < (n : Int) := by omega
            obtain rfl : j = n := by omega
            have hg := HG.out
            rw [List.drop_of_length_le (by rw [HLN.out]; exact Nat.le_refl _)] at hg
            have HG2 : Hid (cmdB k nm ns = true) := Lib.hid (HR.out.trans hg)
            clear hg
            go_wp2_with fail
            go_ret
            rw [HG2.out]
            exact ⟨rfl, HB0.out⟩
    · have hne : (nm.toList == []) = false := by
        rw [beq_eq_false_iff_ne]
        intro e
        have e2 : nm = ⟨#[]⟩ := Lx.bytes_of_list (e.trans (by rw [ByteArray.toList, ByteArray.toList.loop]; rfl))
        exact he (by rw [e2]; rfl)
      rw [decide_eq_true he] at hcm
      cases named with
      | false =>
        have HR : Hid (cmdB k nm ns = false) := Lib.hid (by rw [hcm]; rfl)
        clear hx hsh hcm he hn
        go_enter Tryd.func38, Tryd.ntmps38
        go_wp2_with fail
        refine (HS.out _).mono ?_
        rintro e w1 ⟨rfl, hw1⟩
        rw [hw1] at BX HB0
        have c0 : w1.cell? ⟨w.heap.size, 0, none⟩ = some (.int .i64 k) := BX.out.cell 0
        have c1 : w1.cell? ⟨w.heap.size, 1, none⟩ = some (.string nm) := BX.out.cell 1
        have c2 : w1.cell? ⟨w.heap.size, 2, none⟩ = some (.slice A n c) := BX.out.cell 2
        clear hw1
        go_wp2_with fail
        go_ret
        rw [HR.out]
        exact ⟨rfl, HB0.out⟩
      | true =>
        obtain ⟨nb, hnb⟩ : ∃ v, nameB nm = v := ⟨_, rfl⟩
        rw [hnb] at hcm HN
        cases nb with
        | false =>
          have HR : Hid (cmdB k nm ns = false) := Lib.hid (by rw [hcm]; rfl)
          clear hx hsh hcm he hn
          go_enter Tryd.func38, Tryd.ntmps38
          go_wp2_with fail
          refine (HS.out _).mono ?_
          rintro e w1 ⟨rfl, hw1⟩
          rw [hw1] at BX HB0
          have c0 : w1.cell? ⟨w.heap.size, 0, none⟩ = some (.int .i64 k) := BX.out.cell 0
          have c1 : w1.cell? ⟨w.heap.size, 1, none⟩ = some (.string nm) := BX.out.cell 1
          have c2 : w1.cell? ⟨w.heap.size, 2, none⟩ = some (.slice A n c) := BX.out.cell 2
          clear hw1
          go_wp2_with fail
          refine (HN.out _).mono ?_
          rintro e w2 ⟨rfl, hb2⟩
          have HB2 := Lib.hid (below_trans' HB0.out hb2)
          clear hb2
          go_wp2_with fail
          go_ret
          rw [HR.out]
          exact ⟨rfl, HB2.out⟩
        | true =>
          have HR : Hid (cmdB k nm ns = numsB k 0 ns) := Lib.hid (by rw [hcm]; simp)
          clear hx hsh hcm he hn hm
          go_enter Tryd.func38, Tryd.ntmps38
          go_wp2_with fail
          refine (HS.out _).mono ?_
          rintro e w1 ⟨rfl, hw1⟩
          rw [hw1] at BX HB0
          have c0 : w1.cell? ⟨w.heap.size, 0, none⟩ = some (.int .i64 k) := BX.out.cell 0
          have c1 : w1.cell? ⟨w.heap.size, 1, none⟩ = some (.string nm) := BX.out.cell 1
          have c2 : w1.cell? ⟨w.heap.size, 2, none⟩ = some (.slice A n c) := BX.out.cell 2
          clear hw1
          go_wp2_with fail
          refine (HN.out _).mono ?_
          rintro e w2 ⟨rfl, hb2⟩
          have BX2 := Lib.hid (BX.out.up' hb2)
          have HB2 := Lib.hid (below_trans' HB0.out hb2)
          clear hb2 c0 c1 c2
          have c0 : w2.cell? ⟨w.heap.size, 0, none⟩ = some (.int .i64 k) := BX2.out.cell 0
          have c1 : w2.cell? ⟨w.heap.size, 1, none⟩ = some (.string nm) := BX2.out.cell 1
          have c2 : w2.cell? ⟨w.heap.size, 2, none⟩ = some (.slice A n c) := BX2.out.cell 2
          go_wp2_with fail
          go_loopw [37] (fun i wr => ∃ (j : Nat), j ≤ n ∧ i = i64 (j : Nat) ∧ Hid (numsB k 0 ns = numsB k j (ns.drop j)) ∧ w2 = wr) (fun i _ => n - (intOf i).toNat)
          case atStart => exact ⟨0, Nat.zero_le _, rfl, Lib.hid rfl, rfl⟩
          case round =>
            obtain ⟨j, hj, rfl, HG, rfl⟩ := hrel
            by_cases hlt : j < n
            · have hlt' : (j : Int) < (n : Int) := by omega
              have hjn : j < ns.length := by rw [HLN.out]; exact hlt
              obtain ⟨b, off, rfl, hb, hcc⟩ := (HX.out.rd.up HB2.out).2 (by show 0 < n; omega)
              have hg := HG.out
              rw [List.drop_eq_getElem_cons hjn] at hg
              have hc := hcc j (iv ns[j]) (by rw [List.getElem?_map, List.getElem?_eq_getElem hjn]; rfl)
              obtain ⟨v, hv⟩ : ∃ v, ns[j] = v := ⟨_, rfl⟩
              rw [hv] at hc hg
              unfold iv at hc
              simp only [numsB] at hg
              clear hb hcc
              by_cases q1 : 1000000000 < v
              · have hch : numB k j v = false := by unfold numB; rw [decide_eq_false (show ¬ v ≤ 1000000000 by omega)]; rfl
                rw [hch, Bool.false_and] at hg
                have HG2 : Hid (cmdB k nm ns = false) := Lib.hid (HR.out.trans hg)
                clear hg hch hv
                go_wp2_with fail
                go_ret
                rw [HG2.out]
                exact ⟨rfl, HB2.out⟩
              · by_cases q2 : v < 0
                · by_cases q3 : k = 3
                  · have f3 : (k != 3) = false := by rw [bne_eq_false_iff_eq]; exact q3
                    by_cases q4 : j = 2
                    · have f4 : ((j : Int) != 2) = false := by rw [bne_eq_false_iff_eq]; omega
                      by_cases q5 : v < -1000000000
                      · have hch : numB k j v = false := by unfold numB; rw [decide_eq_false (show ¬ 0 ≤ v by omega), decide_eq_false (show ¬ (-1000000000 ≤ v) by omega)]; simp
                        clear q3 q4
                        rw [hch, Bool.false_and] at hg
                        have HG2 : Hid (cmdB k nm ns = false) := Lib.hid (HR.out.trans hg)
                        clear hg hch hv
                        go_wp2_with fail
                        go_ret
                        rw [HG2.out]
                        exact ⟨rfl, HB2.out⟩
                      · have hch : numB k j v = true := by unfold numB; rw [decide_eq_true (show v ≤ 1000000000 by omega), decide_eq_true q3, decide_eq_true q4, decide_eq_true (show -1000000000 ≤ v by omega)]; simp
                        clear q3 q4
                        rw [hch, Bool.true_and] at hg
                        have HG2 := Lib.hid hg
                        clear hg hch hv
                        go_wp2_with fail
                        case roundEnd =>
                          refine ⟨⟨j + 1, by omega, rfl, Lib.hid HG2.out, trivial⟩, ?_⟩
                          simp only [intOf]; omega
                    · have f4 : ((j : Int) != 2) = true := by rw [bne_iff_ne]; omega
                      have hch : numB k j v = false := by unfold numB; rw [decide_eq_false (show ¬ 0 ≤ v by omega), decide_eq_false q4]; simp
                      clear q3 q4
                      rw [hch, Bool.false_and] at hg
                      have HG2 : Hid (cmdB k nm ns = false) := Lib.hid (HR.out.trans hg)
                      clear hg hch hv
                      go_wp2_with fail
                      go_ret
                      rw [HG2.out]
                      exact ⟨rfl, HB2.out⟩
                  · have f3 : (k != 3) = true := by rw [bne_iff_ne]; exact q3
                    have hch : numB k j v = false := by unfold numB; rw [decide_eq_false (show ¬ 0 ≤ v by omega), decide_eq_false q3]; simp
                    clear q3
                    rw [hch, Bool.false_and] at hg
                    have HG2 : Hid (cmdB k nm ns = false) := Lib.hid (HR.out.trans hg)
                    clear hg hch hv
                    go_wp2_with fail
                    go_ret
                    rw [HG2.out]
                    exact ⟨rfl, HB2.out⟩
                · have hch : numB k j v = true := by unfold numB; rw [decide_eq_true (show v ≤ 1000000000 by omega), decide_eq_true (show 0 ≤ v by omega)]; rfl
                  rw [hch, Bool.true_and] at hg
                  have HG2 := Lib.hid hg
                  clear hg hch hv
                  go_wp2_with fail
                  case roundEnd =>
                    refine ⟨⟨j + 1, by omega, rfl, Lib.hid HG2.out, trivial⟩, ?_⟩
                    simp only [intOf]; omega
            · have hlt' : ¬ (j : Int) < (n : Int) := by omega
              obtain rfl : j = n := by omega
              have hg := HG.out
              rw [List.drop_of_length_le (by rw [HLN.out]; exact Nat.le_refl _)] at hg
              have HG2 : Hid (cmdB k nm ns = true) := Lib.hid (HR.out.trans hg)
              clear hg
              go_wp2_with fail
              go_ret
              rw [HG2.out]
              exact ⟨rfl, HB2.out⟩
  · have hm' : ((n : Int) != many) = true := by rw [bne_iff_ne]; exact hm
    have HR : Hid (cmdB k nm ns = false) := Lib.hid (by unfold cmdB; rw [hsh, hn, decide_eq_false hm]; rfl)
    clear hx hsh hm
    go_enter Tryd.func38, Tryd.ntmps38
    go_wp2_with fail
    refine (HS.out _).mono ?_
    rintro e w1 ⟨rfl, hw1⟩
    rw [hw1] at BX HB0
    have c0 : w1.cell? ⟨w.heap.size, 0, none⟩ = some (.int .i64 k) := BX.out.cell 0
    have c1 : w1.cell? ⟨w.heap.size, 1, none⟩ = some (.string nm) := BX.out.cell 1
    have c2 : w1.cell? ⟨w.heap.size, 2, none⟩ = some (.slice A n c) := BX.out.cell 2
    clear hw1
    go_wp2_with fail
    go_ret
    rw [HR.out]
    exact ⟨rfl, HB0.out⟩
end Go.Proofs.YtmdogklgbifacaaDoor.Pr
