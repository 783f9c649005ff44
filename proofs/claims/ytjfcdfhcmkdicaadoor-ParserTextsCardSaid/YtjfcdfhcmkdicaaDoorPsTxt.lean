/- The text of a command as the statement writes it: in plain Lean, and its walk. -/
import Derived.Deep.DeepCutAuto
import Derived.Test.YtjfcdfhcmkdicaaDoorPsVal
import Derived.Test.YtjfcdfhcmkdicaaDoorTabs
import Derived.Test.YtjfcdfhcmkdicaaDoorPrA
import Derived.Test.YtjfcdfhcmkdicaaDoorPrT
namespace Go.Proofs.YtjfcdfhcmkdicaaDoor.Ps
open Go.RowKit Go.Proofs.YtjfcdfhcmkdicaaDoor.Lx Go.Proofs.YtjfcdfhcmkdicaaDoor.Pr
set_option linter.unusedVariables false

def spT (s : List UInt8) : List UInt8 := if s = [] then [] else s ++ [32]
def drT (v : Int) : List UInt8 := if v < 0 then [115, 108, 111, 119, 32] ++ Lib.itoa (-v) else [102, 97, 115, 116, 32] ++ Lib.itoa v
/-- What the parts of a form make. -/
def contT (nm : List UInt8) (ns : List Int) : List (List UInt8) → List UInt8 → Nat → List UInt8
  | [], s, _ => s
  | p :: ps, s, k =>
    if p = [110] then contT nm ns ps (spT s ++ nm) k
    else if p = [35] then contT nm ns ps (spT s ++ Lib.itoa (ns.getD k 0)) (k + 1)
    else if p = [100] then contT nm ns ps (spT s ++ drT (ns.getD k 0)) (k + 1)
    else contT nm ns ps (spT s ++ p) k
/-- How many of them are numbers. -/
def cntT : List (List UInt8) → Nat
  | [] => 0
  | p :: ps => (if p = [110] then 0 else if p = [35] ∨ p = [100] then 1 else 0) + cntT ps
theorem itoa_dg {v : Int} (h : 0 ≤ v) : Lib.itoa v = dg v := by
  have : v = (v.natAbs : Int) := by omega
  rw [this, Lib.itoa_nonneg]; rfl
theorem dr_drift (v : Int) : drT v = driftL v := by
  unfold drT driftL
  by_cases h : v < 0
  · rw [if_pos h, if_pos h, show -v = ((v.natAbs : Nat) : Int) by omega, Lib.itoa_nonneg]
  · rw [if_neg h, if_neg h, itoa_dg (by omega)]; rfl
theorem parts_ok {k : Int} (h : kind11 k) : (formB k).size ≤ 1000 ∧ (partsL [] (formB k).data.toList).length ≤ 12 ∧ ((partsL [] (formB k).data.toList).all fun p => decide (p.length ≤ 20)) = true ∧ (cntT (partsL [] (formB k).data.toList) : Int) = (shapeOf k).2 := by
  rcases h with rfl | rfl | rfl | rfl | rfl | rfl | rfl | rfl | rfl | rfl | rfl <;> exact ⟨of_decide_eq_true (by kernel_rfl), of_decide_eq_true (by kernel_rfl), by kernel_rfl, by kernel_rfl⟩
theorem parts_1 : partsL [] (formB 1).data.toList = [[109, 101, 115, 104], [100, 97, 116, 97], [35], [114, 97, 110, 103, 101], [35]] := by kernel_rfl
theorem parts_2 : partsL [] (formB 2).data.toList = [[114, 111, 111, 116], [110], [97, 116], [35], [35]] := by kernel_rfl
theorem parts_3 : partsL [] (formB 3).data.toList = [[110, 111, 100, 101], [110], [97, 116], [35], [35], [100], [98, 97, 116, 116, 101, 114, 121], [35]] := by kernel_rfl
theorem parts_4 : partsL [] (formB 4).data.toList = [[97, 116], [35], [109, 111, 118, 101], [110], [35], [35]] := by kernel_rfl
theorem parts_5 : partsL [] (formB 5).data.toList = [[97, 116], [35], [102, 97, 105, 108], [110]] := by kernel_rfl
theorem parts_6 : partsL [] (formB 6).data.toList = [[97, 116], [35], [115, 116, 97, 114, 116], [110]] := by kernel_rfl
theorem parts_7 : partsL [] (formB 7).data.toList = [[97, 116], [35], [114, 101, 97, 100], [110], [35]] := by kernel_rfl
theorem parts_8 : partsL [] (formB 8).data.toList = [[97, 116], [35], [106, 97, 109], [35], [35], [114, 97, 100, 105, 117, 115], [35], [99, 104, 97, 110, 110, 101, 108], [35], [102, 111, 114], [35]] := by kernel_rfl
theorem parts_9 : partsL [] (formB 9).data.toList = [[97, 116], [35], [114, 101, 112, 108, 97, 121], [35], [97, 116], [35], [35]] := by kernel_rfl
theorem parts_10 : partsL [] (formB 10).data.toList = [[97, 116], [35], [112, 114, 111, 103, 114, 97, 109], [35], [115, 105, 122, 101], [35]] := by kernel_rfl
theorem parts_11 : partsL [] (formB 11).data.toList = [[114, 117, 110], [35]] := by kernel_rfl
theorem text_law {k : Int} {nm : ByteArray} {ns : List Int} (ho : OkC k nm ns) : contT nm.data.toList ns (partsL [] (formB k).data.toList) [] 0 ++ [59] = lineL k nm.data.toList ns := by
  obtain ⟨hk, hl, hnam, hbare, hnums⟩ := ho
  rcases hk with rfl | rfl | rfl | rfl | rfl | rfl | rfl | rfl | rfl | rfl | rfl
  · have h : ns.length = 2 := by simp [shapeOf] at hl; omega
    match ns, h with
    | [v0, v1], _ =>
      have p0 := itoa_dg ((num_range (hnums 0 (by simp))).2.2 (by omega))
      have p1 := itoa_dg ((num_range (hnums 1 (by simp))).2.2 (by omega))
      simp only [List.getElem_cons_zero, List.getElem_cons_succ] at p0 p1
      rw [parts_1]
      simp [contT, spT, lineL, formP, wrF, p0, p1]
  · have h : ns.length = 2 := by simp [shapeOf] at hl; omega
    match ns, h with
    | [v0, v1], _ =>
      have p0 := itoa_dg ((num_range (hnums 0 (by simp))).2.2 (by omega))
      have p1 := itoa_dg ((num_range (hnums 1 (by simp))).2.2 (by omega))
      simp only [List.getElem_cons_zero, List.getElem_cons_succ] at p0 p1
      rw [parts_2]
      simp [contT, spT, lineL, formP, wrF, p0, p1]
  · have h : ns.length = 4 := by simp [shapeOf] at hl; omega
    match ns, h with
    | [v0, v1, v2, v3], _ =>
      have p0 := itoa_dg ((num_range (hnums 0 (by simp))).2.2 (by omega))
      have p1 := itoa_dg ((num_range (hnums 1 (by simp))).2.2 (by omega))
      have p2 := dr_drift v2
      have p3 := itoa_dg ((num_range (hnums 3 (by simp))).2.2 (by omega))
      simp only [List.getElem_cons_zero, List.getElem_cons_succ] at p0 p1 p2 p3
      rw [parts_3]
      simp [contT, spT, lineL, formP, wrF, p0, p1, p2, p3]
  · have h : ns.length = 3 := by simp [shapeOf] at hl; omega
    match ns, h with
    | [v0, v1, v2], _ =>
      have p0 := itoa_dg ((num_range (hnums 0 (by simp))).2.2 (by omega))
      have p1 := itoa_dg ((num_range (hnums 1 (by simp))).2.2 (by omega))
      have p2 := itoa_dg ((num_range (hnums 2 (by simp))).2.2 (by omega))
      simp only [List.getElem_cons_zero, List.getElem_cons_succ] at p0 p1 p2
      rw [parts_4]
      simp [contT, spT, lineL, formP, wrF, p0, p1, p2]
  · have h : ns.length = 1 := by simp [shapeOf] at hl; omega
    match ns, h with
    | [v0], _ =>
      have p0 := itoa_dg ((num_range (hnums 0 (by simp))).2.2 (by omega))
      simp only [List.getElem_cons_zero, List.getElem_cons_succ] at p0
      rw [parts_5]
      simp [contT, spT, lineL, formP, wrF, p0]
  · have h : ns.length = 1 := by simp [shapeOf] at hl; omega
    match ns, h with
    | [v0], _ =>
      have p0 := itoa_dg ((num_range (hnums 0 (by simp))).2.2 (by omega))
      simp only [List.getElem_cons_zero, List.getElem_cons_succ] at p0
      rw [parts_6]
      simp [contT, spT, lineL, formP, wrF, p0]
  · have h : ns.length = 2 := by simp [shapeOf] at hl; omega
    match ns, h with
    | [v0, v1], _ =>
      have p0 := itoa_dg ((num_range (hnums 0 (by simp))).2.2 (by omega))
      have p1 := itoa_dg ((num_range (hnums 1 (by simp))).2.2 (by omega))
      simp only [List.getElem_cons_zero, List.getElem_cons_succ] at p0 p1
      rw [parts_7]
      simp [contT, spT, lineL, formP, wrF, p0, p1]
  · have h : ns.length = 6 := by simp [shapeOf] at hl; omega
    match ns, h with
    | [v0, v1, v2, v3, v4, v5], _ =>
      have p0 := itoa_dg ((num_range (hnums 0 (by simp))).2.2 (by omega))
      have p1 := itoa_dg ((num_range (hnums 1 (by simp))).2.2 (by omega))
      have p2 := itoa_dg ((num_range (hnums 2 (by simp))).2.2 (by omega))
      have p3 := itoa_dg ((num_range (hnums 3 (by simp))).2.2 (by omega))
      have p4 := itoa_dg ((num_range (hnums 4 (by simp))).2.2 (by omega))
      have p5 := itoa_dg ((num_range (hnums 5 (by simp))).2.2 (by omega))
      simp only [List.getElem_cons_zero, List.getElem_cons_succ] at p0 p1 p2 p3 p4 p5
      rw [parts_8]
      simp [contT, spT, lineL, formP, wrF, p0, p1, p2, p3, p4, p5]
  · have h : ns.length = 4 := by simp [shapeOf] at hl; omega
    match ns, h with
    | [v0, v1, v2, v3], _ =>
      have p0 := itoa_dg ((num_range (hnums 0 (by simp))).2.2 (by omega))
      have p1 := itoa_dg ((num_range (hnums 1 (by simp))).2.2 (by omega))
      have p2 := itoa_dg ((num_range (hnums 2 (by simp))).2.2 (by omega))
      have p3 := itoa_dg ((num_range (hnums 3 (by simp))).2.2 (by omega))
      simp only [List.getElem_cons_zero, List.getElem_cons_succ] at p0 p1 p2 p3
      rw [parts_9]
      simp [contT, spT, lineL, formP, wrF, p0, p1, p2, p3]
  · have h : ns.length = 3 := by simp [shapeOf] at hl; omega
    match ns, h with
    | [v0, v1, v2], _ =>
      have p0 := itoa_dg ((num_range (hnums 0 (by simp))).2.2 (by omega))
      have p1 := itoa_dg ((num_range (hnums 1 (by simp))).2.2 (by omega))
      have p2 := itoa_dg ((num_range (hnums 2 (by simp))).2.2 (by omega))
      simp only [List.getElem_cons_zero, List.getElem_cons_succ] at p0 p1 p2
      rw [parts_10]
      simp [contT, spT, lineL, formP, wrF, p0, p1, p2]
  · have h : ns.length = 1 := by simp [shapeOf] at hl; omega
    match ns, h with
    | [v0], _ =>
      have p0 := itoa_dg ((num_range (hnums 0 (by simp))).2.2 (by omega))
      simp only [List.getElem_cons_zero, List.getElem_cons_succ] at p0
      rw [parts_11]
      simp [contT, spT, lineL, formP, wrF, p0]
theorem itoa_len9 {v : Int} (h0 : -1000000000 ≤ v) (h1 : v ≤ 1000000000) : (Lib.itoa v).length ≤ 21 := Lib.itoa_length_le v (by omega) (by omega)
theorem itoa_int (v : Int) (h0 : -1000000000 ≤ v) (h1 : v ≤ 1000000000) {w : World} (h : Lx.Tabs w) :
    Calls Tryd.prog 23 #[.int .i64 v] w fun e w' => e = .returned (.string ⟨(Lib.itoa v).toArray⟩) ∧ Below w.heap.size w w' := by
  refine (Tryd.strconv_Itoa v (by omega) (by omega) w h).mono ?_
  rintro e w' ⟨rfl, k, os, rfl⟩
  exact ⟨rfl, Lib.below_grow _ w (Nat.le_refl _) k os⟩
theorem cont_cons (nm : List UInt8) (ns : List Int) (p : List UInt8) (ps : List (List UInt8)) (s : List UInt8) (k : Nat) : contT nm ns (p :: ps) s k =
    if p = [110] then contT nm ns ps (spT s ++ nm) k
    else if p = [35] then contT nm ns ps (spT s ++ Lib.itoa (ns.getD k 0)) (k + 1)
    else if p = [100] then contT nm ns ps (spT s ++ drT (ns.getD k 0)) (k + 1)
    else contT nm ns ps (spT s ++ p) k := rfl
theorem cnt_cons (p : List UInt8) (ps : List (List UInt8)) : cntT (p :: ps) = (if p = [110] then 0 else if p = [35] ∨ p = [100] then 1 else 0) + cntT ps := rfl
set_option maxRecDepth 100000 in
set_option maxHeartbeats 4000000 in
theorem text_cm (x : Cm) (w : World) (hx : Cm.In w x) (ho : OkC x.kind x.name x.ns) (htb : Lx.Tabs w) :
    Calls Tryd.prog 35 #[.agg #[.int .i64 x.kind, .string x.name, .slice x.A x.n x.c, .int .i64 x.pos]] w fun e w' => e = .returned (.string ⟨(lnC x).toArray⟩) ∧ Below w.heap.size w w' := by
  obtain ⟨kd, nm, A, n, c, ns, p⟩ := x
  have hn := hx.len
  obtain ⟨o1, o2, o3, o4⟩ := parts_ok ho.kind
  have HLAW := Lib.hid (text_law ho)
  have HRG := Lib.hid ho.range
  have hn6 : n ≤ 6 := by
    have h1 := ho.len
    have h2 := ho.kind
    dsimp only at h1 h2 hn
    rcases h2 with rfl | rfl | rfl | rfl | rfl | rfl | rfl | rfl | rfl | rfl | rfl <;> simp [shapeOf] at h1 <;> omega
  have hnm := ho.name12
  have hcn : cntT (partsL [] (formB kd).data.toList) = n := by have h1 := ho.len; dsimp only at h1 hn o4; omega
  dsimp only at hn hnm HRG HLAW o1 o2 o3
  unfold lnC
  dsimp only
  obtain ⟨ps, hps⟩ : ∃ ps, partsL [] (formB kd).data.toList = ps := ⟨_, rfl⟩
  have HX := Lib.hid hx
  have HF := Lib.hid (fun W => form_val kd W)
  have HQ := Lib.hid (fun W => parts_val (formB kd) o1 W)
  rw [hps] at HQ HLAW o2 o3 hcn
  obtain ⟨RES, hR⟩ : ∃ r, contT nm.data.toList ns ps [] 0 = r := ⟨_, rfl⟩
  have HR0 := Lib.hid hR
  rw [hR] at HLAW
  have HSM := Lib.hid o3
  have HCN := Lib.hid hcn
  have HLN := Lib.hid hn
  have HTB := Lib.hid htb
  have BX := Lib.hid (Blk.new w 29 #[.int .i64 kd, .string nm, .slice A n c, .int .i64 p])
  have HB0 : Hid (Below w.heap.size w (w.alloc (.cells #[.int .i64 kd, .string nm, .slice A n c, .int .i64 p] 29))) := Lib.hid ((Below.refl _ w).alloc (Nat.le_refl _) _)
  clear hx ho o1 o3 o4 hps hcn hR hn htb
  go_enter Tryd.func35, Tryd.ntmps35
  go_wp2_with fail
  refine (HF.out _).mono ?_
  rintro e1 w1 ⟨rfl, rfl⟩
  go_wp2_with fail
  refine (HQ.out _).mono ?_
  rintro e5 w5 ⟨SA, sn, sc, rfl, hst, hb5⟩
  have BX5 := Lib.hid (BX.out.up' hb5)
  have HB5 := Lib.hid (below_trans' HB0.out hb5)
  have HPL := Lib.hid hst.2
  have HRS := Lib.hid (Rd.of_own hst.1)
  have hsn12 : sn ≤ 12 := by rw [← hst.2]; exact o2
  clear hst hb5
  go_wp2_with fail
  go_loopw [12, 3, 4] (fun i o kk wr => ∃ (j q : Nat) (S : ByteArray), j ≤ sn ∧ i = i64 (j : Nat) ∧ o = .string S ∧ kk = i64 (q : Nat) ∧ Hid (contT nm.data.toList ns (ps.drop j) S.data.toList q = RES) ∧ Hid (q + cntT (ps.drop j) = n) ∧ S.size ≤ 60 * j ∧ Hid (Below w5.heap.size w5 wr)) (fun i _ _ _ => sn - (intOf i).toNat)
  case atStart => exact ⟨0, 0, ⟨#[]⟩, Nat.zero_le _, rfl, rfl, rfl, Lib.hid (by rw [List.drop_zero]; exact HR0.out), Lib.hid (by rw [List.drop_zero, HCN.out, Nat.zero_add]), Nat.le_refl _, Lib.hid (Below.refl _ _)⟩
  case round =>
    obtain ⟨j, q, S, hj, rfl, rfl, rfl, HG, HC, hSz, HB⟩ := hrel
    have HBw := Lib.hid (below_trans' HB5.out HB.out)
    have BXr := Lib.hid (BX5.out.up' HB.out)
    have k1 : wr.cell? ⟨w.heap.size, 1, none⟩ = some (.string nm) := BXr.out.cell 1
    have k2 : wr.cell? ⟨w.heap.size, 2, none⟩ = some (.slice A n c) := BXr.out.cell 2
    by_cases hlt : j < sn
    · have hlt' : (j : Int) < (sn : Int) := by omega
      have hjl : j < ps.length := by rw [HPL.out]; exact hlt
      obtain ⟨sb, so, rfl, hsb, hsc⟩ := (HRS.out.up HB.out).2 (by omega)
      have hg := HG.out
      have hcq := HC.out
      have hsm := of_decide_eq_true (List.all_eq_true.1 HSM.out ps[j] (List.getElem_mem hjl))
      rw [List.drop_eq_getElem_cons hjl] at hg hcq
      have s0 := hsc j (strV ps[j]) (by rw [List.getElem?_map, List.getElem?_eq_getElem hjl]; rfl)
      obtain ⟨pp, hpp⟩ : ∃ p, ps[j] = p := ⟨_, rfl⟩
      rw [hpp] at hg hcq hsm s0
      obtain ⟨Pb, hPb⟩ : ∃ P : ByteArray, (⟨pp.toArray⟩ : ByteArray) = P := ⟨_, rfl⟩
      have hPl : Pb.data.toList = pp := by rw [← hPb]
      have hPs : Pb.size ≤ 20 := by have : Pb.data.toList.length = Pb.size := Array.length_toList; rw [hPl] at this; omega
      have s1 : wr.cell? ⟨sb, so + j, none⟩ = some (.string Pb) := by rw [s0, ← hPb]; rfl
      have hPL : Pb.toList = pp := by rw [Lib.toList_data, hPl]
      rw [cont_cons] at hg
      rw [cnt_cons] at hcq
      obtain ⟨SP, hSP⟩ : ∃ SP : ByteArray, SP.data.toList = spT S.data.toList := ⟨⟨(spT S.data.toList).toArray⟩, rfl⟩
      have hSPz : SP.size ≤ 60 * j + 1 := by
        have e1 : SP.data.toList.length = SP.size := Array.length_toList
        have e2 : S.data.toList.length = S.size := Array.length_toList
        rw [← e1, hSP]
        unfold spT
        split
        · exact Nat.zero_le _
        · rw [List.length_append]; simp only [List.length_cons, List.length_nil]; omega
      rw [← hSP] at hg
      have HSP := Lib.hid hSP
      have HG2 := Lib.hid hg
      have HC2 := Lib.hid hcq
      have hz1 : ¬ 9223372036854775807 < S.size + 1 := by omega
      obtain ⟨v0, hv0⟩ : ∃ v, S.data.toList.isEmpty = v := ⟨_, rfl⟩
      have g0 : S.toList.isEmpty = v0 := by rw [Lib.toList_data]; exact hv0
      clear hg hcq hsb hsc s0 hpp hPb hSP hjl
      go_upto_if 17 with fail
      go_cut [3] (fun s3 wx => s3 = .string SP ∧ wx = wr)
      case first =>
        cases v0 with
        | true =>
          have hSS : S = SP := ByteArray.ext (Array.ext' (by rw [HSP.out, List.isEmpty_iff.1 hv0]; rfl))
          clear hv0 g0
          go_wp2_with fail
          go_meet
          exact ⟨by rw [hSS], rfl⟩
        | false =>
          have hSS : S ++ ⟨#[32]⟩ = SP := ByteArray.ext (Array.ext' (by rw [HSP.out, add_list]; unfold spT; rw [if_neg (List.isEmpty_eq_false_iff.1 hv0)]))
          clear hv0 g0
          go_wp2_with fail
          go_meet
          exact ⟨rfl, rfl⟩
      case rest =>
        obtain ⟨rfl, rfl⟩ := hcut
        obtain ⟨v35, h35⟩ : ∃ v, (pp == [35]) = v := ⟨_, rfl⟩
        obtain ⟨v110, h110⟩ : ∃ v, (pp == [110]) = v := ⟨_, rfl⟩
        obtain ⟨v100, h100⟩ : ∃ v, (pp == [100]) = v := ⟨_, rfl⟩
        have g35 : (Pb.toList == [35]) = v35 := by rw [hPL, h35]
        have g110 : (Pb.toList == [110]) = v110 := by rw [hPL, h110]
        have g100 : (Pb.toList == [100]) = v100 := by rw [hPL, h100]
        have hz2 : ¬ 9223372036854775807 < SP.size + nm.size := by omega
        have hz3 : ¬ 9223372036854775807 < SP.size + Pb.size := by omega
        cases v110 with
        | true =>
          have hp := beq_iff_eq.1 h110
          have HG3 := Lib.hid (show contT nm.data.toList ns (ps.drop (j + 1)) (SP.data.toList ++ nm.data.toList) q = RES by rw [← HG2.out, if_pos hp])
          have HC3 := Lib.hid (show q + cntT (ps.drop (j + 1)) = n by have := HC2.out; rw [if_pos hp] at this; omega)
          clear h35 h110 h100 g35 g100 hp hPL hPl
          go_wp2_with fail
          refine ⟨⟨j + 1, q, SP ++ nm, by omega, rfl, rfl, rfl, Lib.hid (by rw [add_list]; exact HG3.out), HC3, ?_, HB⟩, ?_⟩
          · rw [ByteArray.size_append]; omega
          · simp only [intOf]; omega
        | false =>
          have n110 := beq_eq_false_iff_ne.1 h110
          cases v35 with
          | true =>
            have hp := beq_iff_eq.1 h35
            have hC3 : q + 1 + cntT (ps.drop (j + 1)) = n := by have := HC2.out; rw [if_neg n110, if_pos (.inl hp)] at this; omega
            have hqn : q < n := by omega
            have hqn' : (q : Int) < (n : Int) := by omega
            have hql : q < ns.length := by rw [HLN.out]; exact hqn
            obtain ⟨nb, no, rfl, hnb, hnc⟩ := (HX.out.rd.up HBw.out).2 (by show 0 < n; omega)
            have hc := hnc q (iv ns[q]) (by rw [List.getElem?_map, List.getElem?_eq_getElem hql]; rfl)
            obtain ⟨r0, r1⟩ := HRG.out ns[q] (List.getElem_mem hql)
            have hgd : ns.getD q 0 = ns[q] := by rw [List.getD_eq_getElem?_getD, List.getElem?_eq_getElem hql]; rfl
            have hG3 : contT nm.data.toList ns (ps.drop (j + 1)) (SP.data.toList ++ Lib.itoa ns[q]) (q + 1) = RES := by rw [← HG2.out, if_neg n110, if_pos hp, hgd]
            obtain ⟨v, hv⟩ : ∃ v, ns[q] = v := ⟨_, rfl⟩
            rw [hv] at hc r0 r1 hG3
            unfold iv at hc
            obtain ⟨V, hV⟩ : ∃ V : ByteArray, (⟨(Lib.itoa v).toArray⟩ : ByteArray) = V := ⟨_, rfl⟩
            have hVl : V.data.toList = Lib.itoa v := by rw [← hV]
            have hVs : V.size ≤ 21 := by have : V.data.toList.length = V.size := Array.length_toList; have := itoa_len9 r0 r1; rw [← hVl] at this; omega
            have HI := Lib.hid (fun W (z : Below w.heap.size w W) => itoa_int v r0 r1 (HTB.out.up z))
            rw [hV] at HI
            rw [← hVl] at hG3
            have HG3 := Lib.hid hG3
            have HC3 := Lib.hid hC3
            have hz4 : ¬ 9223372036854775807 < SP.size + V.size := by omega
            clear h35 h110 h100 g100 hp hPL hPl n110 hnb hnc hql hgd hG3 hC3 hv hV hVl r0 r1
            go_wp2_with fail
            refine (HI.out _ HBw.out).mono ?_
            rintro e9 w9 ⟨rfl, hb9⟩
            have HB9 := Lib.hid (below_trans' HB.out hb9)
            clear hb9
            go_wp2_with fail
            refine ⟨⟨j + 1, q + 1, SP ++ V, by omega, rfl, rfl, rfl, Lib.hid (by rw [add_list]; exact HG3.out), HC3, ?_, HB9⟩, ?_⟩
            · rw [ByteArray.size_append]; omega
            · simp only [intOf]; omega
          | false =>
            have n35 := beq_eq_false_iff_ne.1 h35
            cases v100 with
            | true =>
              have hp := beq_iff_eq.1 h100
              have hC3 : q + 1 + cntT (ps.drop (j + 1)) = n := by have := HC2.out; rw [if_neg n110, if_pos (.inr hp)] at this; omega
              have hqn : q < n := by omega
              have hqn' : (q : Int) < (n : Int) := by omega
              have hql : q < ns.length := by rw [HLN.out]; exact hqn
              obtain ⟨nb, no, rfl, hnb, hnc⟩ := (HX.out.rd.up HBw.out).2 (by show 0 < n; omega)
              have hc := hnc q (iv ns[q]) (by rw [List.getElem?_map, List.getElem?_eq_getElem hql]; rfl)
              obtain ⟨r0, r1⟩ := HRG.out ns[q] (List.getElem_mem hql)
              have hgd : ns.getD q 0 = ns[q] := by rw [List.getD_eq_getElem?_getD, List.getElem?_eq_getElem hql]; rfl
              have hG3 : contT nm.data.toList ns (ps.drop (j + 1)) (SP.data.toList ++ drT ns[q]) (q + 1) = RES := by rw [← HG2.out, if_neg n110, if_neg n35, if_pos hp, hgd]
              obtain ⟨v, hv⟩ : ∃ v, ns[q] = v := ⟨_, rfl⟩
              rw [hv] at hc r0 r1 hG3
              unfold iv at hc
              unfold drT at hG3
              have HC3 := Lib.hid hC3
              by_cases hneg : v < 0
              · have hwr : IntKind.i64.wrap (-v) = -v := Go.IntWalk.i64_in _ (by omega)
                have hwr2 : wrap64 (-v) = -v := Go.IntWalk.wrap64_in _ (by omega)
                rw [if_pos hneg] at hG3
                obtain ⟨u, hu⟩ : ∃ u, -v = u := ⟨_, rfl⟩
                obtain ⟨V, hV⟩ : ∃ V : ByteArray, (⟨(Lib.itoa u).toArray⟩ : ByteArray) = V := ⟨_, rfl⟩
                have hVl : V.data.toList = Lib.itoa u := by rw [← hV]
                have hVs : V.size ≤ 21 := by have : V.data.toList.length = V.size := Array.length_toList; have := itoa_len9 (v := u) (by omega) (by omega); rw [← hVl] at this; omega
                have HI := Lib.hid (fun W (z : Below w.heap.size w W) => itoa_int u (by omega) (by omega) (HTB.out.up z))
                rw [hV] at HI
                rw [hu] at hG3 hwr hwr2
                rw [← hVl] at hG3
                have HG3 := Lib.hid hG3
                rw [← hu] at HI hwr hwr2
                have hz4 : ¬ 9223372036854775807 < 5 + V.size := by omega
                have hz5 : ¬ 9223372036854775807 < SP.size + (5 + V.size) := by omega
                clear h35 h110 h100 hp hPL hPl n110 n35 hnb hnc hql hgd hG3 hC3 hv hV hVl r0 r1 hu
                go_wp2_with fail
                refine (HI.out _ HBw.out).mono ?_
                rintro e9 w9 ⟨rfl, hb9⟩
                have HB9 := Lib.hid (below_trans' HB.out hb9)
                clear hb9
                go_wp2_with fail
                refine ⟨⟨j + 1, q + 1, SP ++ (⟨#[115, 108, 111, 119, 32]⟩ ++ V), by omega, rfl, rfl, rfl, Lib.hid (by rw [add_list, add_list]; exact HG3.out), HC3, ?_, HB9⟩, ?_⟩
                · rw [ByteArray.size_append, ByteArray.size_append]; show SP.size + (5 + V.size) ≤ _; omega
                · simp only [intOf]; omega
              · rw [if_neg hneg] at hG3
                obtain ⟨V, hV⟩ : ∃ V : ByteArray, (⟨(Lib.itoa v).toArray⟩ : ByteArray) = V := ⟨_, rfl⟩
                have hVl : V.data.toList = Lib.itoa v := by rw [← hV]
                have hVs : V.size ≤ 21 := by have : V.data.toList.length = V.size := Array.length_toList; have := itoa_len9 r0 r1; rw [← hVl] at this; omega
                have HI := Lib.hid (fun W (z : Below w.heap.size w W) => itoa_int v r0 r1 (HTB.out.up z))
                rw [hV] at HI
                rw [← hVl] at hG3
                have HG3 := Lib.hid hG3
                have hz4 : ¬ 9223372036854775807 < 5 + V.size := by omega
                have hz5 : ¬ 9223372036854775807 < SP.size + (5 + V.size) := by omega
                clear h35 h110 h100 hp hPL hPl n110 n35 hnb hnc hql hgd hG3 hC3 hv hV hVl r0 r1
                go_wp2_with fail
                refine (HI.out _ HBw.out).mono ?_
                rintro e9 w9 ⟨rfl, hb9⟩
                have HB9 := Lib.hid (below_trans' HB.out hb9)
                clear hb9
                go_wp2_with fail
                refine ⟨⟨j + 1, q + 1, SP ++ (⟨#[102, 97, 115, 116, 32]⟩ ++ V), by omega, rfl, rfl, rfl, Lib.hid (by rw [add_list, add_list]; exact HG3.out), HC3, ?_, HB9⟩, ?_⟩
                · rw [ByteArray.size_append, ByteArray.size_append]; show SP.size + (5 + V.size) ≤ _; omega
                · simp only [intOf]; omega
            | false =>
              have n100 := beq_eq_false_iff_ne.1 h100
              have HG3 := Lib.hid (show contT nm.data.toList ns (ps.drop (j + 1)) (SP.data.toList ++ Pb.data.toList) q = RES by rw [← HG2.out, if_neg n110, if_neg n35, if_neg n100, hPl])
              have HC3 := Lib.hid (show q + cntT (ps.drop (j + 1)) = n by have := HC2.out; rw [if_neg n110, if_neg (fun z => z.elim n35 n100)] at this; omega)
              clear h35 h110 h100 hPL hPl n110 n35 n100
              go_wp2_with fail
              refine ⟨⟨j + 1, q, SP ++ Pb, by omega, rfl, rfl, rfl, Lib.hid (by rw [add_list]; exact HG3.out), HC3, ?_, HB⟩, ?_⟩
              · rw [ByteArray.size_append]; omega
              · simp only [intOf]; omega
    · have hlt' : ¬ (j : Int) < (sn : Int) := by omega
      obtain rfl : j = sn := by omega
      have hg := HG.out
      rw [List.drop_of_length_le (by rw [HPL.out]; exact Nat.le_refl _)] at hg
      have hg' : S.data.toList = RES := hg
      have HE := Lib.hid (show (S ++ ⟨#[59]⟩ : ByteArray) = ⟨(lineL kd nm.data.toList ns).toArray⟩ from ByteArray.ext (Array.ext' (by rw [add_list, hg']; exact HLAW.out)))
      have hz1 : ¬ 9223372036854775807 < S.size + 1 := by omega
      clear hg hg' HG HC
      go_wp2_with fail
      go_ret
      exact ⟨by rw [HE.out]; rfl, HBw.out⟩
end Go.Proofs.YtjfcdfhcmkdicaaDoor.Ps
