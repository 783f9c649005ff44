/- The head of the parser's statements. Printed by wip/mk_psheadq.py. -/
import Derived.Test.YtjfcdfhcmkdicaaDoorPsD
import Derived.Test.YtjfcdfhcmkdicaaDoorPsBare
import Derived.Test.YtjfcdfhcmkdicaaDoorPsDgs
import Derived.Test.YtjfcdfhcmkdicaaDoorLxC
namespace Go.Proofs.YtjfcdfhcmkdicaaDoor.Ps
open Go.RowKit Go.Proofs.YtjfcdfhcmkdicaaDoor.Lx Go.Proofs.YtjfcdfhcmkdicaaDoor.Pr
set_option linter.unusedVariables false

def hs1 : List UInt8 := [109, 101, 115, 104, 32, 100, 97, 116, 97, 32, 49, 48, 32, 114, 97, 110, 103, 101, 32, 53, 48, 48, 59, 32, 114, 111, 111, 116, 32, 114, 32, 97, 116, 32, 48, 32, 48, 59]
def hs2 : List UInt8 := [110, 111, 100, 101, 32, 97, 32, 97, 116, 32, 49, 32, 50, 32, 115, 108, 111, 119, 32, 51, 48, 32, 98, 97, 116, 116, 101, 114, 121, 32, 57, 59, 32, 97, 116, 32, 55, 32, 109, 111, 118, 101, 32, 97, 32, 51, 32, 52, 59, 32, 114, 117, 110, 32, 53, 59]
def hs3 : List UInt8 := [114, 117, 110, 59, 32, 97, 116, 32, 53, 32, 102, 97, 105, 108]
def hs4 : List UInt8 := [114, 117, 110, 32, 53, 32, 54, 59, 32, 114, 117, 110, 32, 55, 59]
theorem parse_1 : PARSE hs1 = ([⟨1, ⟨#[]⟩, [10, 500], 0⟩, ⟨2, ⟨#[114]⟩, [0, 0], 24⟩], []) := by unfold PARSE; rw [LEX_F]; kernel_rfl
theorem parse_2 : PARSE hs2 = ([⟨3, ⟨#[97]⟩, [1, 2, -30, 9], 0⟩, ⟨4, ⟨#[97]⟩, [7, 3, 4], 33⟩, ⟨11, ⟨#[]⟩, [5], 50⟩], []) := by unfold PARSE; rw [LEX_F]; kernel_rfl
theorem parse_3 : PARSE hs3 = ([], [(7, 3), (7, 14)]) := by unfold PARSE; rw [LEX_F]; kernel_rfl
theorem parse_4 : PARSE hs4 = ([], [(7, 6)]) := by unfold PARSE; rw [LEX_F]; kernel_rfl
/-- A command as the law makes it. -/
def ck (k : Int) (nm : ByteArray) (A : Option Addr) (ns : List Int) : Cm := ⟨k, nm, A, ns.length, ns.length, ns, 0⟩
theorem in_ints {W : World} {g n : Nat} {cs : Array Value} {ns : List Int} (h : Blk W g 3 cs) (hx : cs.toList = ns.map iv) (hn : ns.length = n) : Rd W W.heap.size 1 (some ⟨g, 0, none⟩) n (ns.map iv) :=
  rd_blk h 1 n _ hx (by rw [← Array.length_toList, hx, List.length_map, hn, Nat.mul_one])
theorem ck_in {W : World} {k : Int} {nm : ByteArray} {g : Nat} {ns : List Int} {cs : Array Value} (hk : w64 k) (hn : nm.size ≤ maxLen) (hw : ∀ v ∈ ns, w64 v) (hl : ns.length ≤ maxLen) (h : Blk W g 3 cs) (hx : cs.toList = ns.map iv) : Cm.In W (ck k nm (some ⟨g, 0, none⟩) ns) :=
  ⟨hk, hn, in_ints h hx rfl, rfl, Nat.le_refl _, hl, hw, show w64 0 by decide⟩
set_option maxRecDepth 100000 in
theorem mkc_val (k : Int) (nm : ByteArray) (A : Option Addr) (n c : Nat) (w : World) : Calls Tryd.prog 25 #[.int .i64 k, .string nm, .slice A n c] w fun e w' => e = .returned (.agg #[.int .i64 k, .string nm, .slice A n c, .int .i64 0]) ∧ Below w.heap.size w w' := by
  have HB := Lib.hid ((Below.refl w.heap.size w).alloc (Nat.le_refl _) (.cells #[.int .i64 k, .string nm, .slice A n c, .int .i64 0] 29))
  go_enter Tryd.func25, Tryd.ntmps25
  go_wp2_with fail
  refine bodyPost_ret (v := .agg #[.int .i64 k, .string nm, .slice A n c, .int .i64 0]) ?_ rfl ⟨rfl, HB.out⟩
  simp [results, Tryd.f25, go_sem]
theorem h_bad (A : Option Addr) : validB [ck 11 ⟨#[114, 117, 110]⟩ A [5]] = false := by kernel_rfl
theorem h_want (A C D : Option Addr) : validB [ck 3 ⟨#[97]⟩ A [1, 2, -30, 9], ck 4 ⟨#[97]⟩ C [7, 3, 4], ck 11 ⟨#[]⟩ D [5]] = true := by kernel_rfl
theorem dgs_blk {W : World} {g n : Nat} {cs : Array Value} {l : List (Nat × Nat)} (h : Blk W g 41 cs) (hx : cs.toList = l.flatMap decD) (hn : l.length = n) (hm : n ≤ maxLen) : IsDgs W (some ⟨g, 0, none⟩) n n l :=
  ⟨hn, rd_blk h 2 n _ hx (by rw [← Array.length_toList, hx, flat_len (k := 2) (fun _ => rfl), hn]), Nat.le_refl _, hm, fun _ _ => trivial⟩
theorem keyC_Q (xs : List Cm) : xs.map keyC = (xs.map keyQ).map fun x => (x.1, x.2.1, x.2.2.1) := by rw [List.map_map]; rfl
theorem same_want {xs ys : List Cm} (h : xs.map keyC = ys.map keyC) (hy : ys.map bareC = ys) : sameC (xs.map bareC) ys = true := by
  rw [← hy, same_bare]; exact decide_eq_true h
/-- What Parse hands back, said by what it answers. -/
def ParseIs (r : List PC × List (Nat × Nat)) (W : World) (e : Ending) (w' : World) : Prop :=
  ∃ A n c xs B m d ds, e = .returned (.tuple #[.slice A n c, .slice B m d]) ∧ IsCms w' A n c xs ∧ IsDgs w' B m d ds ∧ Below W.heap.size W w' ∧ xs.map keyQ = r.1.map keyR ∧ ds = r.2
theorem parse_is (s : ByteArray) (hs : s.size ≤ maxLen) (r : List PC × List (Nat × Nat)) (hr : PARSE s.data.toList = r) (w : World) (hv : Lx.Vars w) : Calls Tryd.prog 10 #[.string s] w (ParseIs r w) := by
  rw [← hr]; exact parse_val s hs w hv
set_option maxRecDepth 100000 in
set_option maxHeartbeats 4000000 in
theorem qhead_val (w : World) (hv : Lx.Vars w) : Calls Tryd.prog 9 #[] w fun e w' => e = .returned (.bool true) ∧ Below w.heap.size w w' := by
  have HV := Lib.hid hv
  have HQ1 := Lib.hid (fun W (q : Below w.heap.size w W) => parse_is ⟨hs1.toArray⟩ (by decide) _ parse_1 W (HV.out.up q))
  have HQ2 := Lib.hid (fun W (q : Below w.heap.size w W) => parse_is ⟨hs2.toArray⟩ (by decide) _ parse_2 W (HV.out.up q))
  have HQ3 := Lib.hid (fun W (q : Below w.heap.size w W) => parse_is ⟨hs3.toArray⟩ (by decide) _ parse_3 W (HV.out.up q))
  have HQ4 := Lib.hid (fun W (q : Below w.heap.size w W) => parse_is ⟨hs4.toArray⟩ (by decide) _ parse_4 W (HV.out.up q))
  clear hv
  go_enter Tryd.func9, Tryd.ntmps9
  go_wp2_with fail
  refine (HQ1.out _ (Below.refl _ _)).mono ?_
  rintro e1 v1 ⟨A1, n1, c1, xs1, B1, m1, d1, ds1, rfl, hx1, hd1, hb1, hk1, hds1⟩
  have HB1 := Lib.hid hb1
  have hm1 : m1 = 0 := by rw [← hd1.1, hds1]; rfl
  obtain ⟨x1, y1, rfl⟩ : ∃ x y, xs1 = [x, y] := by
    have h := congrArg List.length hk1
    rw [List.length_map] at h
    match xs1, h with
    | [x, y], _ => exact ⟨x, y, rfl⟩
  have hn1 : n1 = 2 := hx1.1.symm
  have hy1 : y1.pos = 24 := by
    injection hk1 with _ h
    injection h with h _
    exact congrArg (fun x => x.2.2.2) h
  have HK1 := Lib.hid hk1
  have HX1 := Lib.hid hx1
  subst hm1 hn1
  clear hb1 hd1 hds1 hk1 hx1
  go_wp2_with fail
  refine (HQ2.out _ HB1.out).mono ?_
  rintro e2 v2 ⟨A2, n2, c2, xs2, B2, m2, d2, ds2, rfl, hx2, hd2, hb2, hk2, hds2⟩
  have HB2 := Lib.hid (below_trans' HB1.out hb2)
  have hm2 : m2 = 0 := by rw [← hd2.1, hds2]; rfl
  have hn2 : n2 = 3 := by
    have h := congrArg List.length hk2
    rw [List.length_map, hx2.1] at h
    exact h
  have HK2 := Lib.hid hk2
  have HX2 := Lib.hid hx2
  have HX1 := Lib.hid (HX1.out.up hb2)
  subst hm2 hn2
  clear hb2 hd2 hds2 hk2 hx2
  go_wp2_with fail
  refine (HQ3.out _ HB2.out).mono ?_
  rintro e3 v3 ⟨A3, n3, c3, xs3, B3, m3, d3, ds3, rfl, hx3, hd3, hb3, hk3, hds3⟩
  subst hds3
  have HB3 := Lib.hid (below_trans' HB2.out hb3)
  have HD3 := Lib.hid hd3
  have HX1 := Lib.hid (HX1.out.up hb3)
  have HX2 := Lib.hid (HX2.out.up hb3)
  clear hb3 hd3 hk3 hx3
  go_wp2_with fail
  refine (HQ4.out _ HB3.out).mono ?_
  rintro e4 v4 ⟨A4, n4, c4, xs4, B4, m4, d4, ds4, rfl, hx4, hd4, hb4, hk4, hds4⟩
  subst hds4
  have HB4 := Lib.hid (below_trans' HB3.out hb4)
  have HD4 := Lib.hid hd4
  have HD3 := Lib.hid (HD3.out.up hb4)
  have HX1 := Lib.hid (HX1.out.up hb4)
  have HX2 := Lib.hid (HX2.out.up hb4)
  clear hb4 hd4 hk4 hx4
  have HS1 := Lib.hid (strip_val _ _ _ _ v4 HX1.out (by omega))
  obtain ⟨b, off, rfl, hbb, hcc⟩ := rd_el (dec := decC) (s := 4) (fun _ => rfl) HX1.out.2.1 rfl (i := 1) (by simp)
  have k3 : v4.cell? ⟨b, off + 1 * 4 + 3, none⟩ = some (.int .i64 24) := by
    have := hcc 3 _ rfl
    rw [show ([x1, y1] : List Cm)[1].pos = 24 from hy1] at this
    exact this
  clear hbb hcc hy1
  go_wp2_with fail
  refine HS1.out.mono ?_
  rintro e5 v5 ⟨E1, g1, rfl, hi5, hb5⟩
  have HB5 := Lib.hid (below_trans' HB4.out hb5)
  have HD3 := Lib.hid (HD3.out.up hb5)
  have HD4 := Lib.hid (HD4.out.up hb5)
  have HX2 := Lib.hid (HX2.out.up hb5)
  have HI5 := Lib.hid hi5
  clear hi5 hb5
  go_wp2_with fail
  refine (mkc_val _ _ _ _ _ _).mono ?_
  rintro e6 v6 ⟨rfl, hbx⟩
  have hby : Below v5.heap.size v5 v6 := below_trans' ((Below.refl _ _).alloc (Nat.le_refl _) _) hbx
  have HB6 := Lib.hid (below_trans' HB5.out hby)
  have BA := Lib.hid ((Blk.new v5 3 #[.int .i64 10, .int .i64 500]).up' hbx)
  have HD3 := Lib.hid (HD3.out.up hby)
  have HD4 := Lib.hid (HD4.out.up hby)
  have HX2 := Lib.hid (HX2.out.up hby)
  have HI5 := Lib.hid (HI5.out.up hby)
  clear hbx hby
  go_wp2_with fail
  refine (mkc_val _ _ _ _ _ _).mono ?_
  rintro e7 v7 ⟨rfl, hbx⟩
  have hby : Below v6.heap.size v6 v7 := below_trans' ((Below.refl _ _).alloc (Nat.le_refl _) _) hbx
  have HB7 := Lib.hid (below_trans' HB6.out hby)
  have BA := Lib.hid (BA.out.up' hby)
  have BB := Lib.hid ((Blk.new v6 3 #[.int .i64 0, .int .i64 0]).up' hbx)
  have HD3 := Lib.hid (HD3.out.up hby)
  have HD4 := Lib.hid (HD4.out.up hby)
  have HX2 := Lib.hid (HX2.out.up hby)
  have HI5 := Lib.hid (HI5.out.up hby)
  clear hbx hby
  have hbw : Below v7.heap.size v7 (v7.alloc (.cells #[.int .i64 1, .string ⟨#[]⟩, .slice (some ⟨v5.heap.size, 0, none⟩) 2 2, .int .i64 0, .int .i64 2, .string ⟨#[114]⟩, .slice (some ⟨v6.heap.size, 0, none⟩) 2 2, .int .i64 0] 29)) := (Below.refl _ _).alloc (Nat.le_refl _) _
  have hcm : IsCms (v7.alloc (.cells #[.int .i64 1, .string ⟨#[]⟩, .slice (some ⟨v5.heap.size, 0, none⟩) 2 2, .int .i64 0, .int .i64 2, .string ⟨#[114]⟩, .slice (some ⟨v6.heap.size, 0, none⟩) 2 2, .int .i64 0] 29)) (some ⟨v7.heap.size, 0, none⟩) 2 2 [ck 1 ⟨#[]⟩ (some ⟨v5.heap.size, 0, none⟩) [10, 500], ck 2 ⟨#[114]⟩ (some ⟨v6.heap.size, 0, none⟩) [0, 0]] := cms_blk (Blk.new v7 _ _) rfl rfl (by decide) (fun x hx => by
    simp only [List.mem_cons, List.not_mem_nil, or_false] at hx
    rcases hx with rfl | rfl
    · exact ck_in (by decide) (by decide) (by decide) (by decide) (BA.out.up' hbw) rfl
    · exact ck_in (by decide) (by decide) (by decide) (by decide) (BB.out.up' hbw) rfl)
  have HSM : Hid (sameC ([x1, y1].map bareC) [ck 1 ⟨#[]⟩ (some ⟨v5.heap.size, 0, none⟩) [10, 500], ck 2 ⟨#[114]⟩ (some ⟨v6.heap.size, 0, none⟩) [0, 0]] = true) := Lib.hid (same_want (by rw [keyC_Q, HK1.out]; rfl) rfl)
  have HSV := Lib.hid (same_val _ _ _ _ _ _ _ _ _ (HI5.out.up hbw) hcm)
  rw [HSM.out] at HSV
  have HD3 := Lib.hid (HD3.out.up hbw)
  have HD4 := Lib.hid (HD4.out.up hbw)
  have HX2 := Lib.hid (HX2.out.up hbw)
  have HB7' := Lib.hid (below_trans' HB7.out hbw)
  clear hbw hcm BA BB HI5 HK1
  go_wp2_with fail
  refine HSV.out.mono ?_
  rintro e8 v8 ⟨rfl, hb8⟩
  have HB8 := Lib.hid (below_trans' HB7'.out hb8)
  have HD3 := Lib.hid (HD3.out.up hb8)
  have HD4 := Lib.hid (HD4.out.up hb8)
  have HX2 := Lib.hid (HX2.out.up hb8)
  clear hb8 HSV HSM HB7'
  go_wp2_with fail
  refine (mkc_val _ _ _ _ _ _).mono ?_
  rintro e9 v9 ⟨rfl, hbx⟩
  have hby : Below v8.heap.size v8 v9 := below_trans' ((Below.refl _ _).alloc (Nat.le_refl _) _) hbx
  have HB9 := Lib.hid (below_trans' HB8.out hby)
  have BA := Lib.hid ((Blk.new v8 3 #[.int .i64 1, .int .i64 2, .int .i64 (-30), .int .i64 9]).up' hbx)
  have HD3 := Lib.hid (HD3.out.up hby)
  have HD4 := Lib.hid (HD4.out.up hby)
  have HX2 := Lib.hid (HX2.out.up hby)
  clear hbx hby
  go_wp2_with fail
  refine (mkc_val _ _ _ _ _ _).mono ?_
  rintro e10 v10 ⟨rfl, hbx⟩
  have hby : Below v9.heap.size v9 v10 := below_trans' ((Below.refl _ _).alloc (Nat.le_refl _) _) hbx
  have HB10 := Lib.hid (below_trans' HB9.out hby)
  have BA := Lib.hid (BA.out.up' hby)
  have BB := Lib.hid ((Blk.new v9 3 #[.int .i64 7, .int .i64 3, .int .i64 4]).up' hbx)
  have HD3 := Lib.hid (HD3.out.up hby)
  have HD4 := Lib.hid (HD4.out.up hby)
  have HX2 := Lib.hid (HX2.out.up hby)
  clear hbx hby
  go_wp2_with fail
  refine (mkc_val _ _ _ _ _ _).mono ?_
  rintro e11 v11 ⟨rfl, hbx⟩
  have hby : Below v10.heap.size v10 v11 := below_trans' ((Below.refl _ _).alloc (Nat.le_refl _) _) hbx
  have HB11 := Lib.hid (below_trans' HB10.out hby)
  have BA := Lib.hid (BA.out.up' hby)
  have BB := Lib.hid (BB.out.up' hby)
  have BC := Lib.hid ((Blk.new v10 3 #[.int .i64 5]).up' hbx)
  have HD3 := Lib.hid (HD3.out.up hby)
  have HD4 := Lib.hid (HD4.out.up hby)
  have HX2 := Lib.hid (HX2.out.up hby)
  clear hbx hby
  have hbw : Below v11.heap.size v11 (v11.alloc (.cells #[.int .i64 3, .string ⟨#[97]⟩, .slice (some ⟨v8.heap.size, 0, none⟩) 4 4, .int .i64 0, .int .i64 4, .string ⟨#[97]⟩, .slice (some ⟨v9.heap.size, 0, none⟩) 3 3, .int .i64 0, .int .i64 11, .string ⟨#[]⟩, .slice (some ⟨v10.heap.size, 0, none⟩) 1 1, .int .i64 0] 29)) := (Below.refl _ _).alloc (Nat.le_refl _) _
  have hcm : IsCms (v11.alloc (.cells #[.int .i64 3, .string ⟨#[97]⟩, .slice (some ⟨v8.heap.size, 0, none⟩) 4 4, .int .i64 0, .int .i64 4, .string ⟨#[97]⟩, .slice (some ⟨v9.heap.size, 0, none⟩) 3 3, .int .i64 0, .int .i64 11, .string ⟨#[]⟩, .slice (some ⟨v10.heap.size, 0, none⟩) 1 1, .int .i64 0] 29)) (some ⟨v11.heap.size, 0, none⟩) 3 3 [ck 3 ⟨#[97]⟩ (some ⟨v8.heap.size, 0, none⟩) [1, 2, -30, 9], ck 4 ⟨#[97]⟩ (some ⟨v9.heap.size, 0, none⟩) [7, 3, 4], ck 11 ⟨#[]⟩ (some ⟨v10.heap.size, 0, none⟩) [5]] := cms_blk (Blk.new v11 _ _) rfl rfl (by decide) (fun x hx => by
    simp only [List.mem_cons, List.not_mem_nil, or_false] at hx
    rcases hx with rfl | rfl | rfl
    · exact ck_in (by decide) (by decide) (by decide) (by decide) (BA.out.up' hbw) rfl
    · exact ck_in (by decide) (by decide) (by decide) (by decide) (BB.out.up' hbw) rfl
    · exact ck_in (by decide) (by decide) (by decide) (by decide) (BC.out.up' hbw) rfl)
  have HCM := Lib.hid hcm
  have HS2 := Lib.hid (strip_val _ _ _ _ _ (HX2.out.up hbw) (by omega))
  have HSM : Hid (sameC (xs2.map bareC) [ck 3 ⟨#[97]⟩ (some ⟨v8.heap.size, 0, none⟩) [1, 2, -30, 9], ck 4 ⟨#[97]⟩ (some ⟨v9.heap.size, 0, none⟩) [7, 3, 4], ck 11 ⟨#[]⟩ (some ⟨v10.heap.size, 0, none⟩) [5]] = true) := Lib.hid (same_want (by rw [keyC_Q, HK2.out]; rfl) rfl)
  have HD3 := Lib.hid (HD3.out.up hbw)
  have HD4 := Lib.hid (HD4.out.up hbw)
  have HB11' := Lib.hid (below_trans' HB11.out hbw)
  clear hbw hcm BA BB BC HX2 HK2
  go_wp2_with fail
  refine HS2.out.mono ?_
  rintro e12 v12 ⟨E2, g2, rfl, hi12, hb12⟩
  have HB12 := Lib.hid (below_trans' HB11'.out hb12)
  have HD3 := Lib.hid (HD3.out.up hb12)
  have HD4 := Lib.hid (HD4.out.up hb12)
  have HCM := Lib.hid (HCM.out.up hb12)
  have HSV := Lib.hid (same_val _ _ _ _ _ _ _ _ _ hi12 HCM.out)
  rw [HSM.out] at HSV
  clear hi12 hb12 HS2
  go_wp2_with fail
  refine HSV.out.mono ?_
  rintro e13 v13 ⟨rfl, hb13⟩
  have HB13 := Lib.hid (below_trans' HB12.out hb13)
  have HD3 := Lib.hid (HD3.out.up hb13)
  have HD4 := Lib.hid (HD4.out.up hb13)
  have HCM := Lib.hid (HCM.out.up hb13)
  have HVV := Lib.hid (valid_val _ _ _ _ v13 HCM.out)
  rw [h_want] at HVV
  clear hb13 HSV HSM
  go_wp2_with fail
  refine HVV.out.mono ?_
  rintro e14 v14 ⟨rfl, hb14⟩
  have HB14 := Lib.hid (below_trans' HB13.out hb14)
  have HD3 := Lib.hid (HD3.out.up hb14)
  have HD4 := Lib.hid (HD4.out.up hb14)
  clear hb14 HCM HVV
  go_wp2_with fail
  refine (mkc_val _ _ _ _ _ _).mono ?_
  rintro e15 v15 ⟨rfl, hbx⟩
  have hby : Below v14.heap.size v14 v15 := below_trans' ((Below.refl _ _).alloc (Nat.le_refl _) _) hbx
  have HB15 := Lib.hid (below_trans' HB14.out hby)
  have BA := Lib.hid ((Blk.new v14 3 #[.int .i64 5]).up' hbx)
  have HD3 := Lib.hid (HD3.out.up hby)
  have HD4 := Lib.hid (HD4.out.up hby)
  clear hbx hby
  have hbw : Below v15.heap.size v15 (v15.alloc (.cells #[.int .i64 11, .string ⟨#[114, 117, 110]⟩, .slice (some ⟨v14.heap.size, 0, none⟩) 1 1, .int .i64 0] 29)) := (Below.refl _ _).alloc (Nat.le_refl _) _
  have hcm : IsCms (v15.alloc (.cells #[.int .i64 11, .string ⟨#[114, 117, 110]⟩, .slice (some ⟨v14.heap.size, 0, none⟩) 1 1, .int .i64 0] 29)) (some ⟨v15.heap.size, 0, none⟩) 1 1 [ck 11 ⟨#[114, 117, 110]⟩ (some ⟨v14.heap.size, 0, none⟩) [5]] := cms_blk (Blk.new v15 _ _) rfl rfl (by decide) (fun x hx => by
    simp only [List.mem_cons, List.not_mem_nil, or_false] at hx
    subst hx
    exact ck_in (by decide) (by decide) (by decide) (by decide) (BA.out.up' hbw) rfl)
  have HVV := Lib.hid (valid_val _ _ _ _ _ hcm)
  rw [h_bad] at HVV
  have HD3 := Lib.hid (HD3.out.up hbw)
  have HD4 := Lib.hid (HD4.out.up hbw)
  have HB15' := Lib.hid (below_trans' HB15.out hbw)
  clear hbw hcm BA
  go_wp2_with fail
  refine HVV.out.mono ?_
  rintro e16 v16 ⟨rfl, hb16⟩
  have HB16 := Lib.hid (below_trans' HB15'.out hb16)
  have HD3 := Lib.hid (HD3.out.up hb16)
  have HD4 := Lib.hid (HD4.out.up hb16)
  clear hb16 HVV
  have hbw : Below v16.heap.size v16 (v16.alloc (.cells #[.int .i64 7, .int .i64 3, .int .i64 7, .int .i64 14] 41)) := (Below.refl _ _).alloc (Nat.le_refl _) _
  have HDV := Lib.hid (sameDiags_val _ _ _ _ _ _ _ _ _ (HD3.out.up hbw) (dgs_blk (l := [(7, 3), (7, 14)]) (n := 2) (Blk.new v16 _ _) rfl rfl (by decide)))
  rw [decide_eq_true rfl] at HDV
  have HD4 := Lib.hid (HD4.out.up hbw)
  have HB16' := Lib.hid (below_trans' HB16.out hbw)
  clear hbw
  go_wp2_with fail
  refine HDV.out.mono ?_
  rintro e17 v17 ⟨rfl, hb17⟩
  have HB17 := Lib.hid (below_trans' HB16'.out hb17)
  have HD4 := Lib.hid (HD4.out.up hb17)
  clear hb17 HDV
  have hbw : Below v17.heap.size v17 (v17.alloc (.cells #[.int .i64 7, .int .i64 6] 41)) := (Below.refl _ _).alloc (Nat.le_refl _) _
  have HDV := Lib.hid (sameDiags_val _ _ _ _ _ _ _ _ _ (HD4.out.up hbw) (dgs_blk (l := [(7, 6)]) (n := 1) (Blk.new v17 _ _) rfl rfl (by decide)))
  rw [decide_eq_true rfl] at HDV
  have HB17' := Lib.hid (below_trans' HB17.out hbw)
  clear hbw
  go_wp2_with fail
  refine HDV.out.mono ?_
  rintro e18 v18 ⟨rfl, hb18⟩
  have HB18 := Lib.hid (below_trans' HB17'.out hb18)
  clear hb18 HDV
  go_wp2_with fail
  go_ret
  exact ⟨rfl, HB18.out⟩
end Go.Proofs.YtjfcdfhcmkdicaaDoor.Ps
