/- Parse walked. Printed by wip/mk_psparse.py. -/
import Derived.Test.YtmdogklgbifacaaDoorPsInv2
namespace Go.Proofs.YtmdogklgbifacaaDoor.Ps
open Go.RowKit Go.Proofs.YtmdogklgbifacaaDoor.Lx Go.Proofs.YtmdogklgbifacaaDoor.Pr
set_option linter.unusedVariables false

def lstN (rb : Nat) (w : World) : Nat := match w.cell? ⟨rb, 0, none⟩ with | some (.slice _ n _) => n | _ => 0
theorem lstN_of {rb n c : Nat} {A : Option Addr} {w : World} (h : w.cell? ⟨rb, 0, none⟩ = some (.slice A n c)) : lstN rb w = n := by unfold lstN; rw [h]
/-- What Parse hands back. -/
def ParseOut (l : List UInt8) (W : World) (e : Ending) (w' : World) : Prop :=
  ∃ A n c xs B m d ds, e = .returned (.tuple #[.slice A n c, .slice B m d]) ∧ IsCms w' A n c xs ∧ IsDgs w' B m d ds ∧ Below W.heap.size W w' ∧ xs.map keyQ = (PARSE l).1.map keyR ∧ ds = (PARSE l).2
theorem dgs_nil (w : World) : IsDgs w none 0 0 [] := ⟨rfl, Rd.nil_, Nat.le_refl _, by decide, fun x hx => trivial⟩
theorem dgs_one {W : World} {g : Nat} {x : Nat × Nat} (h : Blk W g 62 #[.int .i64 (x.1 : Nat), .int .i64 (x.2 : Nat)]) : IsDgs W (some ⟨g, 0, none⟩) 1 1 [x] := by
  refine dgs_own (base := 0) ⟨rfl, .inr ⟨g, 1, _, rfl, Nat.zero_le _, h, Nat.le_refl _, by decide, rfl, rfl⟩⟩ rfl
theorem lex_err (l : List UInt8) (h : (LEX l).err ≠ 0) : PARSE l = ([], [((LEX l).err, (LEX l).pos)]) := by unfold PARSE; simp only; rw [if_pos h]
theorem lex_ok (l : List UInt8) (h : (LEX l).err = 0) : PARSE l = finB (loopB l.length ((LEX l).toks.length + 1) (LEX l).toks ⟨[], []⟩) := by unfold PARSE; simp only; rw [if_neg (fun q => q h)]
set_option maxRecDepth 100000 in
set_option maxHeartbeats 4000000 in
theorem parse_val (s : ByteArray) (hs : s.size ≤ maxLen) (w : World) (hv : Lx.Vars w) :
    Calls Tryd.prog 18 #[.string s] w (ParseOut s.data.toList w) := by
  unfold maxLen at hs
  have HL := Lib.hid (lex_val s (by unfold maxLen; exact hs) w hv)
  have hsl : s.data.toList.length = s.size := Array.length_toList
  obtain ⟨i0, hi, hz0, hz1, hz2⟩ := info_parts info_cmd
  obtain ⟨i1, hi1, hy0, hy1, hy2⟩ := info_parts info_diag
  have HWF := Lib.hid (lex_wf s.data.toList)
  obtain ⟨L, hL⟩ : ∃ L, LEX s.data.toList = L := ⟨_, rfl⟩
  have HER : Hid (L.err ≠ 0 → PARSE s.data.toList = ([], [(L.err, L.pos)])) := Lib.hid (by rw [← hL]; exact lex_err _)
  have HOK : Hid (L.err = 0 → PARSE s.data.toList = finB (loopB s.size (L.toks.length + 1) L.toks ⟨[], []⟩)) := Lib.hid (by rw [← hL, ← hsl]; exact lex_ok _)
  rw [hL] at HL HWF
  clear hL
  go_enter Tryd.func18, Tryd.ntmps18
  go_wp2_with fail
  refine HL.out.mono ?_
  rintro e1 w1 ⟨A0, n0, c0, rfl, hT, hb1⟩
  have HT := Lib.hid hT
  have HB1 := Lib.hid hb1
  clear hT hb1 HL
  by_cases herr : L.err = 0
  · have f1 : ((L.err : Int) != 0) = false := by rw [herr]; rfl
    have hok := HOK.out herr
    obtain ⟨fin, hfin⟩ : ∃ fin, loopB s.size (L.toks.length + 1) L.toks ⟨[], []⟩ = fin := ⟨_, rfl⟩
    rw [hfin] at hok
    have HF := Lib.hid hok
    have bN := Blk.new w1 65 #[.slice A0 n0 c0, .int .i64 (s.size : Nat), .int .i64 0, .string ⟨#[]⟩, .slice none 0 0, .int .i64 0]
    have HRS : Hid (RS w1 w1.heap.size s.size A0 n0 c0 L.toks 0 ⟨#[]⟩ (.slice none 0 0) [] 0 (w1.alloc (.cells #[.slice A0 n0 c0, .int .i64 (s.size : Nat), .int .i64 0, .string ⟨#[]⟩, .slice none 0 0, .int .i64 0] 65))) := Lib.hid ⟨(Below.refl _ _).alloc (Nat.le_refl _) _, HT.out, bN, World.ownsRow_nil _ _ _ _, Nat.le_refl _⟩
    have HTO : Hid (PTo s.size fin L.toks [] []) := Lib.hid ⟨⟨_, [], rfl, Nat.lt_succ_self _, hfin⟩, by have := HWF.out.2; simp only [List.length_nil]; omega, HWF.out.1, by simp⟩
    have HP0 : Hid (PAt w1 w1.heap.size s.size (.slice none 0 0) (.slice none 0 0) (w1.alloc (.cells #[.slice A0 n0 c0, .int .i64 (s.size : Nat), .int .i64 0, .string ⟨#[]⟩, .slice none 0 0, .int .i64 0] 65)) L.toks [] [] A0 n0 c0 0 ⟨#[]⟩ (.slice none 0 0) [] 0) := Lib.hid ⟨HRS.out, World.ownsRow_nil _ _ _ _, fun x hx => (by cases hx), World.ownsRow_nil _ _ _ _⟩
    clear bN hok hfin HRS
    go_wp2_with fail
    go_loopw [8, 9] (fun o d wr => ∃ ts OUT dps A n c K nm NV ns at_, Hid (PAt w1 w1.heap.size s.size o d wr ts OUT dps A n c K nm NV ns at_) ∧ Hid (PTo s.size fin ts OUT dps)) (fun _ _ wr => lstN w1.heap.size wr)
    case atStart => exact ⟨L.toks, [], [], _, _, _, _, _, _, _, _, HP0, HTO⟩
    case round =>
      obtain ⟨ts, OUT, dps, A, n, c, K, nm, NV, ns, at_, HP, HQ⟩ := hrel
      obtain ⟨OA, oc, rfl, hOA⟩ := own_form HP.out.outs
      obtain ⟨DA, dc, rfl, hDA⟩ := own_form HP.out.dgs
      have hn := HP.out.rs.len
      have c0 : wr.cell? ⟨w1.heap.size, 0, none⟩ = some (.slice A n c) := HP.out.rs.blk.cell 0
      have HLN := Lib.hid (lstN_of c0)
      by_cases h0 : ts = []
      · have hn0 : ¬ (0 : Int) < (n : Int) := by rw [← hn, h0]; simp
        have hdn := HQ.out.done (.inl h0)
        by_cases hd0 : dps = []
        · have f2 : ¬ (0 : Int) < (dps.length : Int) := by rw [hd0]; simp
          by_cases h3 : 300 < OUT.length
          · have f3 : (300 : Int) < (OUT.length : Int) := by omega
            obtain ⟨og, hog⟩ := hOA (by omega)
            subst hog
            have h300 : 300 < fin.out.length := by have := congrArg List.length hdn.1; rw [List.length_map, List.length_map] at this; omega
            have hres : finB fin = ([], [(2, fin.out[300].pos)]) := by unfold finB; rw [if_neg (fun q => q (by rw [← hdn.2]; exact hd0)), dif_pos h300]
            have hq := HP.out.each OUT[300] (List.getElem_mem h3)
            have hpos : OUT[300].pos = (fin.out[300].pos : Nat) := by
              have h1 : (OUT.map keyQ)[300]? = (fin.out.map keyR)[300]? := by rw [hdn.1]
              rw [List.getElem?_map, List.getElem?_map, List.getElem?_eq_getElem h3, List.getElem?_eq_getElem h300] at h1
              injection h1 with h1
              exact congrArg (fun x => x.2.2.2) h1
            obtain ⟨q, hq0⟩ : ∃ q, fin.out[300].pos = q := ⟨_, rfl⟩
            rw [hq0] at hres hpos
            have cX : wr.cell? ⟨og, 1203, none⟩ = some (.int .i64 (q : Nat)) := by
              rw [HP.out.outs.cellAt 1203 (by omega), show (1203 : Nat) = 300 * 4 + 3 from rfl, flat_get (k := 4) (fun _ => rfl) _ 300 3 _ (List.getElem?_eq_getElem h3) (by decide), ← hpos]
              rfl
            have HRS := Lib.hid (show PARSE s.data.toList = ([], [(2, q)]) by rw [HF.out, hres])
            clear hdn hres hd0 h0 h300 hq hpos hq0
            have HBX := Lib.hid (below_trans' HB1.out HP.out.rs.bel)
            have hbl : (300 : Int) < (OUT.length : Int) := f3
            have HBY := Lib.hid ((HBX.out.alloc HBX.out.size (.cells #[.int .i64 2, .int .i64 (q : Nat)] 62)).drew)
            have HBD : Hid (Blk (wr.alloc (.cells #[.int .i64 2, .int .i64 (q : Nat)] 62)).drew wr.heap.size 62 #[.int .i64 ((2 : Nat) : Int), .int .i64 (q : Nat)]) := Lib.hid (Blk.new _ _ _).drew
            have HPO : Hid (ParseOut s.data.toList w (.returned (.tuple #[.slice none 0 0, .slice (some ⟨wr.heap.size, 0, none⟩) 1 1])) (wr.alloc (.cells #[.int .i64 2, .int .i64 (q : Nat)] 62)).drew) := Lib.hid ⟨_, _, _, [], _, _, _, [(2, q)], rfl, cms_nil _, dgs_one HBD.out, HBY.out, by rw [HRS.out]; rfl, by rw [HRS.out]⟩
            go_wp2_with fail
            go_region
            go_wp2_with fail
            refine bodyPost_ret (v := .tuple #[.slice none 0 0, .slice (some ⟨wr.heap.size, 0, none⟩) 1 1]) ?_ rfl HPO.out
            simp [results, Tryd.f18]
          · have f3 : ¬ (300 : Int) < (OUT.length : Int) := by omega
            have hres : finB fin = (fin.out, []) := by unfold finB; rw [if_neg (fun q => q (by rw [← hdn.2]; exact hd0)), dif_neg (by have := congrArg List.length hdn.1; rw [List.length_map, List.length_map] at this; omega)]
            have HPO : Hid (ParseOut s.data.toList w (.returned (.tuple #[.slice OA OUT.length oc, .slice none 0 0])) wr) := Lib.hid ⟨_, _, _, OUT, _, _, _, [], rfl, cms_own HP.out.outs rfl (fun x hx => (HP.out.each x hx).in_), dgs_nil _, below_trans' HB1.out HP.out.rs.bel, by rw [HF.out, hres]; exact hdn.1, by rw [HF.out, hres]⟩
            clear hdn hres hd0 h0
            go_wp2_with fail
            refine bodyPost_ret (v := .tuple #[.slice OA OUT.length oc, .slice none 0 0]) ?_ rfl HPO.out
            simp [results, Tryd.f18]
        · have hdp : 0 < dps.length := List.length_pos_iff.2 hd0
          have f2 : (0 : Int) < (dps.length : Int) := by omega
          have hres : finB fin = ([], fin.dgs.map fun p => (7, p)) := by unfold finB; rw [if_pos (by rw [← hdn.2]; exact hd0)]
          have HPO : Hid (ParseOut s.data.toList w (.returned (.tuple #[.slice none 0 0, .slice DA dps.length dc])) wr) := Lib.hid ⟨_, _, _, [], _, _, _, dps.map (fun p => (7, p)), rfl, cms_nil _, dgs_own HP.out.dgs (by simp), below_trans' HB1.out HP.out.rs.bel, by rw [HF.out, hres]; rfl, by rw [HF.out, hres, hdn.2]⟩
          clear hdn hres hd0 hdp h0
          go_wp2_with fail
          refine bodyPost_ret (v := .tuple #[.slice none 0 0, .slice DA dps.length dc]) ?_ rfl HPO.out
          simp [results, Tryd.f18]
      · have hn0 : (0 : Int) < (n : Int) := by have := List.length_pos_iff.2 h0; omega
        have H0 := Lib.hid h0
        clear h0
        by_cases h20 : dps.length = 20
        · have f4 : ¬ (dps.length : Int) < 20 := by omega
          have hdn := HQ.out.done (.inr h20)
          have hd0 : dps ≠ [] := by rintro rfl; cases h20
          have hdp : 0 < dps.length := List.length_pos_iff.2 hd0
          have f2 : (0 : Int) < (dps.length : Int) := by omega
          have hres : finB fin = ([], fin.dgs.map fun p => (7, p)) := by unfold finB; rw [if_pos (by rw [← hdn.2]; exact hd0)]
          have HPO : Hid (ParseOut s.data.toList w (.returned (.tuple #[.slice none 0 0, .slice DA dps.length dc])) wr) := Lib.hid ⟨_, _, _, [], _, _, _, dps.map (fun p => (7, p)), rfl, cms_nil _, dgs_own HP.out.dgs (by simp), below_trans' HB1.out HP.out.rs.bel, by rw [HF.out, hres]; rfl, by rw [HF.out, hres, hdn.2]⟩
          clear hdn hres hd0 hdp h20
          go_wp2_with fail
          refine bodyPost_ret (v := .tuple #[.slice none 0 0, .slice DA dps.length dc]) ?_ rfl HPO.out
          simp [results, Tryd.f18]
        · have hfew := HQ.out.few
          have f4 : (dps.length : Int) < 20 := by omega
          have HC := Lib.hid (command_val (fun t ht => (HQ.out.wf t ht).1) HP.out.rs)
          go_wp2_with fail
          refine HC.out.mono ?_
          rintro e2 w2 ⟨A', n', c', K', nm', NV', ns', at', hr, hg, hnb, hm⟩
          obtain ⟨m, hm2⟩ : ∃ m, (rdB ts).2 = m := ⟨_, rfl⟩
          rw [hm2] at hr
          have hP2 := HP.out.cmd hr hg
          have hle := HQ.out.len
          cases hrd : (rdB ts).1 with
          | some cc =>
            rw [hrd] at hm
            obtain ⟨rfl, rfl, rfl, rfl, rfl⟩ := hm
            have hrde : rdB ts = (some cc, m) := by rw [← hrd, ← hm2]
            have hpc := rd_some HQ.out.wf hrde
            obtain ⟨xA, xc, rfl, _⟩ := own_form hr.own
            have hcx : CmOwn w1.heap.size w2 ⟨(cc.kind : Nat), cc.name, xA, cc.ns.length, xc, cc.ns, (cc.pos : Nat)⟩ := ⟨hr.own, rfl, ⟨by show (0 : Int) ≤ (cc.kind : Nat); omega, by have := hpc.1.kind; show ((cc.kind : Nat) : Int) ≤ 11; omega⟩, hpc.1.name, hpc.1.ns, ⟨by show (0 : Int) ≤ (cc.pos : Nat); omega, by have := hpc.1.pos; show ((cc.pos : Nat) : Int) ≤ 8000; omega⟩⟩
            have y2 : w2.cell? ⟨w1.heap.size, 2, none⟩ = some (.int .i64 (cc.kind : Nat)) := hr.blk.cell 2
            have y3 : w2.cell? ⟨w1.heap.size, 3, none⟩ = some (.string cc.name) := hr.blk.cell 3
            have y4 : w2.cell? ⟨w1.heap.size, 4, none⟩ = some (.slice xA cc.ns.length xc) := hr.blk.cell 4
            have y5 : w2.cell? ⟨w1.heap.size, 5, none⟩ = some (.int .i64 (cc.pos : Nat)) := hr.blk.cell 5
            have hb3 : Below w2.heap.size w2 (w2.alloc (.cells #[.int .i64 (cc.kind : Nat), .string cc.name, .slice xA cc.ns.length xc, .int .i64 (cc.pos : Nat)] 46)) := (Below.refl _ _).alloc (Nat.le_refl _) _
            have HP3 := Lib.hid (hP2.up hb3)
            have HX3 := Lib.hid (hcx.up hb3)
            have HRD := Lib.hid (rd_fresh w2 46 #[.int .i64 (cc.kind : Nat), .string cc.name, .slice xA cc.ns.length xc, .int .i64 (cc.pos : Nat)] 4 1 (decC ⟨(cc.kind : Nat), cc.name, xA, cc.ns.length, xc, cc.ns, (cc.pos : Nat)⟩) rfl rfl)
            have HON := Lib.hid (one_decC ⟨(cc.kind : Nat), cc.name, xA, cc.ns.length, xc, cc.ns, (cc.pos : Nat)⟩)
            have HTO' := Lib.hid (HQ.out.ok H0.out (by omega) hrde (x := ⟨(cc.kind : Nat), cc.name, xA, cc.ns.length, xc, cc.ns, (cc.pos : Nat)⟩) rfl)
            have HM1 : Hid (1 ≤ m ∧ m ≤ ts.length) := Lib.hid hpc.2
            have HN := Lib.hid hn
            clear hr hg hnb hP2 hrd hrde hpc hcx hb3 hm2 HC hn
            go_wp2_with (at_builtin; refine wpList_append_rd _ rfl (.tmp 47) (.tmp 52) _ rfl w1.heap.size 46 i0 _ 4 56 Tryd.underlying22 hi hz0 hz1 hz2 rfl (by decide) _ OUT.length _ rfl HP3.out.outs _ (some ⟨w2.heap.size, 0, none⟩) 1 1 _ rfl HRD.out HON.out (by simp only [maxLen]; omega) (by omega) HP3.out.rs.bel.size ?_; intro A5 c5 w5 hown hfm hgr; have HP5 := Lib.hid (HP3.out.more hgr HX3.out hown); clear hown hfm hgr)
            refine ⟨⟨ts.drop m, OUT ++ [⟨(cc.kind : Nat), cc.name, xA, cc.ns.length, xc, cc.ns, (cc.pos : Nat)⟩], dps, _, _, _, _, _, _, _, _, HP5, HTO'⟩, ?_⟩
            rw [HLN.out, lstN_of (HP5.out.rs.blk.cell 0)]
            have h1 := HP5.out.rs.len
            rw [List.length_drop] at h1
            have h2 := HM1.out
            have h3 := HN.out
            omega
          | none =>
            rw [hrd] at hm
            subst hm
            have hrde : rdB ts = (none, m) := by rw [← hrd, ← hm2]
            rw [hm2]
            obtain ⟨p, hp⟩ : ∃ p, posB (ts.drop m).head? s.size = p := ⟨_, rfl⟩
            have hbad := HQ.out.bad H0.out (by omega) hrde
            rw [hp] at hbad
            rw [hp]
            have hb3 : Below w2.heap.size w2 (w2.alloc (.cells #[.int .i64 7, .int .i64 (p : Nat)] 62)) := (Below.refl _ _).alloc (Nat.le_refl _) _
            have HP3 := Lib.hid (hP2.up hb3)
            have HRD := Lib.hid (rd_fresh w2 62 #[.int .i64 7, .int .i64 (p : Nat)] 2 1 (decD (7, p)) rfl rfl)
            have HON : Hid (∀ u ∈ decD (7, p), u.oneCell' = true) := Lib.hid (fun u hu => by
              unfold decD at hu
              simp only [List.mem_cons, List.not_mem_nil, or_false] at hu
              rcases hu with rfl | rfl <;> rfl)
            have HBAD := Lib.hid hbad
            have HN := Lib.hid hn
            have HWD : Hid (∀ t ∈ ts.drop m, WfP t) := Lib.hid (fun t ht => HQ.out.wf t (List.mem_of_mem_drop ht))
            have hd19 : dps.length ≤ 19 := by omega
            clear hr hg hnb hP2 hrd hrde hbad hb3 hm2 HC hn hp hle
            go_wp2_with (at_builtin; refine wpList_append_rd _ rfl (.tmp 54) (.tmp 57) _ rfl w1.heap.size 62 i1 _ 2 16 Tryd.underlying36 hi1 hy0 hy1 hy2 rfl (by decide) _ dps.length _ rfl HP3.out.dgs _ (some ⟨w2.heap.size, 0, none⟩) 1 1 _ rfl HRD.out HON.out (by simp only [maxLen]; omega) (by omega) HP3.out.rs.bel.size ?_; intro A5 c5 w5 hown hfm hgr; have HP5 := Lib.hid (HP3.out.diag hgr hown); have k0 : w5.cell? ⟨w1.heap.size, 0, none⟩ = some (.slice A' n' c') := HP5.out.rs.blk.cell 0; clear hown hfm hgr)
            refine (idx_val A' n' c' (ts.drop m) w5 (HP5.out.rs.toks.up HP5.out.rs.bel)).mono ?_
            rintro e6 w6 ⟨rfl, hb6⟩
            have HP6 := Lib.hid (HP5.out.up hb6)
            have k6 : w6.cell? ⟨w1.heap.size, 0, none⟩ = some (.slice A' n' c') := HP6.out.rs.blk.cell 0
            have z6 : w6.frozen? ⟨w1.heap.size, 0, none⟩ = false := HP6.out.rs.blk.frozen 0
            clear k0 hb6 HP5
            rcases skip_semi (ts.drop m) HWD.out with ⟨ha, hb⟩ | ⟨k, ha, hk, hb⟩
            · rw [ha]
              have hdn := HBAD.out
              rw [hb] at hdn
              have hdn2 := hdn.done (.inl rfl)
              have hres : finB fin = ([], fin.dgs.map fun p => (7, p)) := by unfold finB; rw [if_pos (by rw [← hdn2.2]; simp)]
              have hdg : w6.ownsRow w1.heap.size 62 2 (.slice A5 (dps.length + 1) c5) (dps.length + 1) (((dps ++ [p]).map fun p => (7, p)).flatMap decD) := by
                have := HP6.out.dgs
                rwa [List.length_append, List.length_singleton] at this
              have HPO : Hid (ParseOut s.data.toList w (.returned (.tuple #[.slice none 0 0, .slice A5 (dps.length + 1) c5])) w6) := Lib.hid ⟨_, _, _, [], _, _, _, (dps ++ [p]).map (fun p => (7, p)), rfl, cms_nil _, dgs_own hdg (by simp), below_trans' HB1.out HP6.out.rs.bel, by rw [HF.out, hres]; rfl, by rw [HF.out, hres, hdn2.2]⟩
              have f6 : (0 : Int) < (dps.length : Int) + 1 := by omega
              clear hdn hdn2 hres hdg hb ha k6 z6
              go_wp2_with fail
              refine bodyPost_ret (v := .tuple #[.slice none 0 0, .slice A5 (dps.length + 1) c5]) ?_ rfl HPO.out
              simp [results, Tryd.f18]
            · rw [ha]
              have f5 : ¬ (k : Int) < 0 := by omega
              have hln := HP6.out.rs.len
              have hkn : k + 1 ≤ n' := by omega
              have hk9 : (k : Int) ≤ 2000 := by have := HQ.out.len; rw [List.length_drop] at hk; omega
              have hk8 : IntKind.i64.wrap ((k : Int) + 1) = (k : Int) + 1 := Go.IntWalk.i64_in _ (by omega)
              clear hk9
              have hsl9 : ∀ W : World, (Instr.slice 30 (.slice A' n' c') (some (.int .i64 ((k : Int) + 1))) none none).run Tryd.prog W = .ok (.slice (cutA A' c' (k + 1)) (n' - (k + 1)) (c' - (k + 1))) W := fun W => toks_from A' n' c' (k + 1) hkn W
              have HP7 := Lib.hid (HP6.out.cmd (HP6.out.rs.list (HP6.out.rs.toks.drop hkn)) ((Gr.refl w1.heap.size none w6).setCell (p := ⟨w1.heap.size, 0, none⟩) (.inl rfl) (.slice (cutA A' c' (k + 1)) (n' - (k + 1)) (c' - (k + 1)))))
              have HB7 := Lib.hid hb
              have HKN : Hid ((ts.drop m).length = n' ∧ k + 1 ≤ n') := Lib.hid ⟨hln, hkn⟩
              clear ha hb hk hln hkn
              go_wp2_with fail
              rw [← HB7.out] at HP7
              refine ⟨⟨skipB (ts.drop m), OUT, dps ++ [p], _, _, _, _, _, _, _, _, HP7, HBAD⟩, ?_⟩
              · rw [HLN.out, lstN_of (HP7.out.rs.blk.cell 0)]
                have h1 := HKN.out
                rw [List.length_drop] at h1
                have h3 := HN.out
                omega
  · have f1 : ((L.err : Int) != 0) = true := by rw [bne_iff_ne]; omega
    have BD := Lib.hid (Blk.new w1 62 #[.int .i64 (L.err : Nat), .int .i64 (L.pos : Nat)])
    have HB2 := Lib.hid (HB1.out.alloc HB1.out.size (.cells #[.int .i64 (L.err : Nat), .int .i64 (L.pos : Nat)] 62))
    have hpe := HER.out herr
    go_wp2_with fail
    refine bodyPost_ret (v := .tuple #[.slice none 0 0, .slice (some ⟨w1.heap.size, 0, none⟩) 1 1]) ?_ rfl ⟨_, _, _, [], _, _, _, [(L.err, L.pos)], rfl, cms_nil _, dgs_one BD.out, HB2.out, by rw [hpe]; rfl, by rw [hpe]⟩
    simp [results, Tryd.f18]
end Go.Proofs.YtmdogklgbifacaaDoor.Ps
