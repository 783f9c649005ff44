/- The reference: Parse walked. It answers what the parser answers. -/
import Derived.Test.YtjfcdfhcmkdicaaGreatDoorPsRead2
import Derived.Test.YtjfcdfhcmkdicaaGreatDoorPsD
import Derived.Test.YtjfcdfhcmkdicaaGreatDoorLxB
namespace Go.Proofs.YtjfcdfhcmkdicaaGreatDoor.Ps
open Go.RowKit Go.Proofs.YtjfcdfhcmkdicaaGreatDoor.Lx Go.Proofs.YtjfcdfhcmkdicaaGreatDoor.Pr
set_option linter.unusedVariables false

/-- Commands and diagnostics so far. -/
structure RAt (w1 : World) (o d : Value) (w' : World) (OUT : List Cm) (dps : List Nat) : Prop where
  bel : Below w1.heap.size w1 w'
  outs : w'.ownsRow w1.heap.size 34 4 o OUT.length (OUT.flatMap decC)
  each : ∀ x ∈ OUT, CmOwn w1.heap.size w' x
  dgs : w'.ownsRow w1.heap.size 38 2 d dps.length ((dps.map fun p => (7, p)).flatMap decD)
section
variable {w1 w2 w3 w' : World} {o d o' d' : Value} {OUT : List Cm} {dps : List Nat}
theorem RAt.up (h : RAt w1 o d w' OUT dps) (hb : Below w'.heap.size w' w2) : RAt w1 o d w2 OUT dps :=
  ⟨below_trans' h.bel hb, own_keep h.outs hb, fun x hx => (h.each x hx).up hb, own_keep h.dgs hb⟩
theorem RAt.more (h : RAt w1 o d w2 OUT dps) (hg : w2.grownBy w3 o.ownBlock) {x : Cm} (hx : CmOwn w1.heap.size w2 x) (ho : w3.ownsRow w1.heap.size 34 4 o' (OUT.length + 1) (OUT.flatMap decC ++ decC x)) :
    RAt w1 o' d w3 (OUT ++ [x]) dps := by
  refine ⟨own_below h.outs hg h.bel (Nat.le_refl _) h.bel.size, ?_, fun y hy => ?_, own_apart' h.dgs h.outs (by decide) hg⟩
  · rw [List.length_append, List.flatMap_append, List.flatMap_singleton]; exact ho
  · rcases List.mem_append.1 hy with hy | hy
    · exact (h.each y hy).grown h.outs (by decide) hg
    · rw [List.mem_singleton.1 hy]; exact hx.grown h.outs (by decide) hg
theorem RAt.diag (h : RAt w1 o d w2 OUT dps) (hg : w2.grownBy w3 d.ownBlock) {p : Nat} (ho : w3.ownsRow w1.heap.size 38 2 d' (dps.length + 1) ((dps.map fun p => (7, p)).flatMap decD ++ decD (7, p))) :
    RAt w1 o d' w3 OUT (dps ++ [p]) := by
  refine ⟨own_below h.dgs hg h.bel (Nat.le_refl _) h.bel.size, own_apart' h.outs h.dgs (by decide) hg, fun y hy => (h.each y hy).grown h.dgs (by decide) hg, ?_⟩
  rw [List.length_append, List.map_append, List.flatMap_append, List.map_singleton, List.flatMap_singleton]; exact ho
end
set_option maxRecDepth 100000 in
theorem one_val (e p : Nat) (w : World) : Calls Tryz.prog 20 #[.int .i64 (e : Nat), .int .i64 (p : Nat)] w fun en w' => en = .returned (.slice (some ⟨w.heap.size, 0, none⟩) 1 1) ∧ IsDgs w' (some ⟨w.heap.size, 0, none⟩) 1 1 [(e, p)] ∧ Below w.heap.size w w' := by
  have BD := Lib.hid (Blk.new w 38 #[.int .i64 (e : Nat), .int .i64 (p : Nat)])
  have HB := Lib.hid ((Below.refl w.heap.size w).alloc (Nat.le_refl _) (.cells #[.int .i64 (e : Nat), .int .i64 (p : Nat)] 38))
  go_enter Tryz.func20, Tryz.ntmps20
  go_wp2_with fail
  go_ret
  exact ⟨rfl, dgs_one (x := (e, p)) BD.out, HB.out⟩
theorem skip_at {t : Tok} {r : List Tok} (h : t.kind ≠ 3) : skipB (t :: r) = skipB r := by
  unfold skipB
  rw [List.dropWhile_cons_of_pos (by simpa using h)]
theorem skip_hit {t : Tok} {r : List Tok} (h : t.kind = 3) : skipB (t :: r) = r := by
  unfold skipB
  rw [List.dropWhile_cons_of_neg (by simpa using h)]; rfl
set_option maxRecDepth 100000 in
set_option maxHeartbeats 4000000 in
theorem rparse_val (s : ByteArray) (hs : s.size ≤ maxLen) (w : World) :
    Calls Tryz.prog 7 #[.string s] w (ParseOut s.data.toList w) := by
  have HL := Lib.hid (rlex_val s hs w)
  unfold maxLen at hs
  have hsl : s.data.toList.length = s.size := Array.length_toList
  obtain ⟨i0, hi, hz0, hz1, hz2⟩ := info_parts info_cmd
  obtain ⟨i1, hi1, hy0, hy1, hy2⟩ := info_parts info_diag
  have HWF := Lib.hid (lex_wf s.data.toList)
  obtain ⟨L, hL⟩ : ∃ L, LEX s.data.toList = L := ⟨_, rfl⟩
  have HER : Hid (L.err ≠ 0 → PARSE s.data.toList = ([], [(L.err, L.pos)])) := Lib.hid (by rw [← hL]; exact lex_err _)
  have HOK : Hid (L.err = 0 → PARSE s.data.toList = finB (loopB s.size (L.toks.length + 1) L.toks ⟨[], []⟩)) := Lib.hid (by rw [← hL, ← hsl]; exact lex_ok _)
  rw [hL] at HL HWF
  clear hL hsl
  go_enter Tryz.func7, Tryz.ntmps7
  go_wp2_with fail
  refine HL.out.mono ?_
  rintro e1 w1 ⟨A, n, c, rfl, hT, hb1⟩
  have HT := Lib.hid hT
  have HN := Lib.hid hT.2.1
  have HB1 := Lib.hid hb1
  have hn : n ≤ 2000 := by rw [← hT.2.1]; exact HWF.out.2
  clear hT hb1 HL
  by_cases herr : L.err = 0
  · have f1 : ((L.err : Int) != 0) = false := by rw [herr]; rfl
    have hok := HOK.out herr
    obtain ⟨fin, hfin⟩ : ∃ fin, loopB s.size (L.toks.length + 1) L.toks ⟨[], []⟩ = fin := ⟨_, rfl⟩
    rw [hfin] at hok
    have HF := Lib.hid hok
    have HTO : Hid (PTo s.size fin (L.toks.drop 0) [] []) := Lib.hid ⟨⟨_, [], rfl, Nat.lt_succ_self _, hfin⟩, by have := HWF.out.2; simp only [List.length_nil, List.drop_zero]; omega, HWF.out.1, by simp⟩
    have HP0 : Hid (RAt w1 (.slice none 0 0) (.slice none 0 0) w1 [] []) := Lib.hid ⟨Below.refl _ _, World.ownsRow_nil _ _ _ _, fun x hx => (by cases hx), World.ownsRow_nil _ _ _ _⟩
    clear hok hfin herr HER HOK
    go_wp2_with fail
    go_loopw [7, 8, 9] (fun o d i wr => ∃ (p : Nat) (OUT : List Cm) (dps : List Nat), p ≤ n + 1 ∧ i = i64 (p : Nat) ∧ Hid (RAt w1 o d wr OUT dps) ∧ Hid (PTo s.size fin (L.toks.drop p) OUT dps)) (fun _ _ i _ => n + 1 - (intOf i).toNat)
    case atStart => exact ⟨0, [], [], Nat.zero_le _, rfl, HP0, HTO⟩
    case round =>
      obtain ⟨p, OUT, dps, hp, rfl, HP, HQ⟩ := hrel
      obtain ⟨OA, oc, rfl, hOA⟩ := own_form HP.out.outs
      obtain ⟨DA, dc, rfl, hDA⟩ := own_form HP.out.dgs
      by_cases h0 : p < n
      · have h0' : (p : Int) < (n : Int) := by omega
        have hne : L.toks.drop p ≠ [] := by
          intro q
          have := List.drop_eq_nil_iff.1 q
          rw [HN.out] at this
          omega
        have HNE := Lib.hid hne
        clear hne
        by_cases h20 : dps.length = 20
        · have f4 : ¬ (dps.length : Int) < 20 := by omega
          have hdn := HQ.out.done (.inr h20)
          have hd0 : dps ≠ [] := by rintro rfl; cases h20
          have f2 : (0 : Int) < (dps.length : Int) := by omega
          have hres : finB fin = ([], fin.dgs.map fun p => (7, p)) := by unfold finB; rw [if_pos (by rw [← hdn.2]; exact hd0)]
          have HPO : Hid (ParseOut s.data.toList w (.returned (.tuple #[.slice none 0 0, .slice DA dps.length dc])) wr) := Lib.hid ⟨_, _, _, [], _, _, _, dps.map (fun p => (7, p)), rfl, cms_none _, dgs_own HP.out.dgs (by simp), below_trans' HB1.out HP.out.bel, by rw [HF.out, hres]; rfl, by rw [HF.out, hres, hdn.2]⟩
          clear hdn hres hd0 h20 hDA hOA
          go_wp2_with fail
          refine bodyPost_ret (v := .tuple #[.slice none 0 0, .slice DA dps.length dc]) ?_ rfl HPO.out
          simp [results, Tryz.f7]
        · have hfew := HQ.out.few
          have f4 : (dps.length : Int) < 20 := by omega
          have hd19 : dps.length ≤ 19 := by omega
          have hlen := HQ.out.len
          have HR := Lib.hid (read_val A n c L.toks p wr (HT.out.up HP.out.bel) HWF.out.1 hn h0)
          obtain ⟨⟨a, m⟩, hrd⟩ : ∃ x, rdB (L.toks.drop p) = x := ⟨_, rfl⟩
          rw [hrd] at HR
          have HRD := Lib.hid hrd
          have hmle : m ≤ n - p := by
            have h1 : m ≤ (L.toks.drop p).length := by
              cases a with
              | some cc => exact (rd_some HQ.out.wf hrd).2.2
              | none =>
                unfold rdB at hrd
                split at hrd
                · rename_i k hk
                  injection hrd with _ hrd
                  subst hrd
                  unfold selB at hk
                  have hpos := List.length_pos_iff.2 HNE.out
                  split at hk
                  · split at hk
                    · rename_i h2
                      split at hk
                      · cases hk
                      · injection hk with hk
                        subst hk
                        rcases Nat.lt_or_ge 1 (L.toks.drop p).length with q | q
                        · omega
                        · rw [List.getElem?_eq_none q] at h2; cases h2
                    · injection hk with hk; omega
                  · split at hk
                    · cases hk
                    · injection hk with hk; omega
                · rename_i k hk
                  split at hrd
                  · cases hrd
                  · injection hrd with _ hrd
                    rw [← hrd]
                    exact (matchB_le _ _).2
            rw [List.length_drop, HN.out] at h1
            exact h1
          rw [List.length_drop, HN.out] at hlen
          have hmn : p + m ≤ n := by omega
          have ho2 : OUT.length ≤ 2000 := by omega
          clear hrd h20 hmle hlen hfew hp
          cases a with
          | some cc =>
            have hpc := rd_some HQ.out.wf HRD.out
            have HQ2 : Hid (∀ x, keyQ x = keyR cc → PTo s.size fin (L.toks.drop (p + m)) (OUT ++ [x]) dps) := Lib.hid (fun x hx => by
              have := HQ.out.ok HNE.out (by omega) HRD.out (x := x) hx
              rwa [List.drop_drop] at this)
            have hm1 := hpc.2.1
            go_wp2_with fail
            refine HR.out.mono ?_
            rintro e2 w2 ⟨XA, xc, rfl, hxo, hb2⟩
            have HP2 := HP.out.up hb2
            have hcx : CmOwn w1.heap.size w2 ⟨(cc.kind : Nat), cc.name, XA, cc.ns.length, xc, cc.ns, (cc.pos : Nat)⟩ := ⟨own_base hxo HP.out.bel.size, rfl, ⟨by show (0 : Int) ≤ (cc.kind : Nat); omega, by have := hpc.1.kind; show ((cc.kind : Nat) : Int) ≤ 11; omega⟩, hpc.1.name, hpc.1.ns, ⟨by show (0 : Int) ≤ (cc.pos : Nat); omega, by have := hpc.1.pos; show ((cc.pos : Nat) : Int) ≤ 8000; omega⟩⟩
            have hb3 : Below w2.heap.size w2 (w2.alloc (.cells #[.int .i64 (cc.kind : Nat), .string cc.name, .slice XA cc.ns.length xc, .int .i64 (cc.pos : Nat)] 34)) := (Below.refl _ _).alloc (Nat.le_refl _) _
            have hb4 : Below w2.heap.size w2 ((w2.alloc (.cells #[.int .i64 (cc.kind : Nat), .string cc.name, .slice XA cc.ns.length xc, .int .i64 (cc.pos : Nat)] 34)).alloc (.cells #[.int .i64 (cc.kind : Nat), .string cc.name, .slice XA cc.ns.length xc, .int .i64 (cc.pos : Nat)] 34)) := below_trans' hb3 ((Below.refl _ _).alloc (Nat.le_refl _) _)
            have HP3 := Lib.hid (HP2.up hb4)
            have HX3 := Lib.hid (hcx.up hb4)
            have hrdf := rd_fresh (w2.alloc (.cells #[.int .i64 (cc.kind : Nat), .string cc.name, .slice XA cc.ns.length xc, .int .i64 (cc.pos : Nat)] 34)) 34 #[.int .i64 (cc.kind : Nat), .string cc.name, .slice XA cc.ns.length xc, .int .i64 (cc.pos : Nat)] 4 1 (decC ⟨(cc.kind : Nat), cc.name, XA, cc.ns.length, xc, cc.ns, (cc.pos : Nat)⟩) rfl rfl
            rw [World.size_alloc] at hrdf
            have HRDF := Lib.hid hrdf
            have HON := Lib.hid (one_decC ⟨(cc.kind : Nat), cc.name, XA, cc.ns.length, xc, cc.ns, (cc.pos : Nat)⟩)
            have h63 : OUT.length + 1 ≤ maxLen := by simp only [maxLen]; omega
            have hby : (OUT.length + 1) * 56 ≤ 140737488355328 := by omega
            clear hxo hb2 HP2 hcx hb3 hb4 hrdf hpc HR
            go_wp2_with (at_builtin; refine wpList_append_rd _ rfl (.tmp 45) (.tmp 47) _ rfl w1.heap.size 34 i0 _ 4 56 Tryz.underlying22 hi hz0 hz1 hz2 rfl (by decide) _ OUT.length _ rfl HP3.out.outs _ (some ⟨w2.heap.size + 1, 0, none⟩) 1 1 _ rfl HRDF.out HON.out h63 hby HP3.out.bel.size ?_; intro A5 c5 w5 hown hfm hgr; have HP5 := Lib.hid (HP3.out.more hgr HX3.out hown); clear hown hfm hgr)
            refine ⟨⟨p + m, OUT ++ [⟨(cc.kind : Nat), cc.name, XA, cc.ns.length, xc, cc.ns, (cc.pos : Nat)⟩], dps, by omega, rfl, HP5, Lib.hid (HQ2.out _ rfl)⟩, ?_⟩
            simp only [intOf]; omega
          | none =>
            have hbad := HQ.out.bad HNE.out (by omega) HRD.out
            rw [List.drop_drop] at hbad
            have HBD0 := Lib.hid hbad
            clear hbad
            go_wp2_with fail
            refine HR.out.mono ?_
            rintro e2 w2 ⟨rfl, hb2⟩
            have hbad := HBD0.out
            have HP2 := HP.out.up hb2
            have hb3 : Below w2.heap.size w2 (w2.alloc (.cells #[.int .i64 0, .string ⟨#[]⟩, .slice none 0 0, .int .i64 0] 34)) := (Below.refl _ _).alloc (Nat.le_refl _) _
            have HP3 := Lib.hid (HP2.up hb3)
            have HP4 : Hid (Below w1.heap.size w1 ((w2.alloc (.cells #[.int .i64 0, .string ⟨#[]⟩, .slice none 0 0, .int .i64 0] 34)))) := Lib.hid (HP2.up hb3).bel
            clear hb2 HP2 hb3 HR
            by_cases hpn : p + m < n
            · have hpn' : (p : Int) + (m : Int) < (n : Int) := by omega
              have hpl : p + m < L.toks.length := by rw [HN.out]; exact hpn
              obtain ⟨b0, off0, rfl, hb0, hc0⟩ := rd_el (dec := decT) (s := 4) (fun _ => rfl) (HT.out.up HP4.out).1 HN.out hpl
              have c3 := hc0 3 _ rfl
              have hph : posB (L.toks.drop (p + m)).head? s.size = L.toks[p + m].pos := by rw [List.drop_eq_getElem_cons hpl]; rfl
              rw [hph] at hbad
              obtain ⟨WH, hWH⟩ : ∃ x, L.toks[p + m].pos = x := ⟨_, rfl⟩
              rw [hWH] at hbad
              have c3' : (w2.alloc (.cells #[.int .i64 0, .string ⟨#[]⟩, .slice none 0 0, .int .i64 0] 34)).cell? ⟨b0, off0 + (p + m) * 4 + 3, none⟩ = some (.int .i64 (WH : Nat)) := by rw [← hWH]; exact c3
              have HBAD := Lib.hid hbad
              clear hb0 hc0 c3 hph hWH hbad
              have HP4D : Hid (∀ {w3 : World} {d' : Value}, (((w2.alloc (.cells #[.int .i64 0, .string ⟨#[]⟩, .slice none 0 0, .int .i64 0] 34)).alloc (.cells #[.int .i64 7, .int .i64 (WH : Nat)] 38))).grownBy w3 (Value.slice DA dps.length dc).ownBlock → w3.ownsRow w1.heap.size 38 2 d' (dps.length + 1) ((dps.map fun p => (7, p)).flatMap decD ++ decD (7, WH)) → RAt w1 (.slice OA OUT.length oc) d' w3 OUT (dps ++ [WH])) := Lib.hid (fun hg ho => (HP3.out.up ((Below.refl _ _).alloc (Nat.le_refl _) _)).diag hg ho)
              have hrdf := rd_fresh (w2.alloc (.cells #[.int .i64 0, .string ⟨#[]⟩, .slice none 0 0, .int .i64 0] 34)) 38 #[.int .i64 7, .int .i64 (WH : Nat)] 2 1 (decD (7, WH)) rfl rfl
              rw [World.size_alloc] at hrdf
              have HP3 := Lib.hid (HP3.out.up ((Below.refl _ _).alloc (Nat.le_refl _) (.cells #[.int .i64 7, .int .i64 (WH : Nat)] 38)))
              have HP4 := Lib.hid HP3.out.bel
              have HRDF := Lib.hid hrdf
              have HON : Hid (∀ u ∈ decD (7, WH), u.oneCell' = true) := Lib.hid (fun u hu => by
                unfold decD at hu
                simp only [List.mem_cons, List.not_mem_nil, or_false] at hu
                rcases hu with rfl | rfl <;> rfl)
              have h63 : dps.length + 1 ≤ maxLen := by simp only [maxLen]; omega
              have hby : (dps.length + 1) * 16 ≤ 140737488355328 := by omega
              clear hrdf
              go_wp2_with (at_builtin; refine wpList_append_rd _ rfl (.tmp 60) (.tmp 63) _ rfl w1.heap.size 38 i1 _ 2 16 Tryz.underlying25 hi1 hy0 hy1 hy2 rfl (by decide) _ dps.length _ rfl HP3.out.dgs _ (some ⟨w2.heap.size + 1, 0, none⟩) 1 1 _ rfl HRDF.out HON.out h63 hby HP4.out.size ?_; intro A5 c5 w5 hown hfm hgr; have HP5 := Lib.hid (HP4D.out hgr hown); clear hown hfm hgr)
              have HT5 := Lib.hid (HT.out.up HP5.out.bel)
              clear HP3 HP4 HP4D HRDF HON
              go_loopw [9] (fun i W => ∃ q : Nat, p + m ≤ q ∧ q ≤ n ∧ i = i64 (q : Nat) ∧ Hid (skipB (L.toks.drop (p + m)) = skipB (L.toks.drop q)) ∧ w5 = W) (fun i _ => n - (intOf i).toNat)
              case atStart => exact ⟨p + m, Nat.le_refl _, by omega, rfl, Lib.hid rfl, rfl⟩
              case round =>
                obtain ⟨q, hq1, hq2, rfl, HS, rfl⟩ := hrel
                by_cases hqn : q < n
                · have hqn' : (q : Int) < (n : Int) := by omega
                  have hql : q < L.toks.length := by rw [HN.out]; exact hqn
                  obtain ⟨b, off, hbo, hb, hc⟩ := rd_el (dec := decT) (s := 4) (fun _ => rfl) HT5.out.1 HN.out hql
                  injection hbo with hbo
                  injection hbo with hb9 ho9
                  subst hb9 ho9
                  have c0 := hc 0 _ rfl
                  rw [Nat.add_zero] at c0
                  have hs := HS.out
                  rw [List.drop_eq_getElem_cons hql] at hs
                  obtain ⟨⟨tk, tx, tn, tp⟩, hx⟩ : ∃ x, L.toks[q] = x := ⟨_, rfl⟩
                  rw [hx] at c0 hs
                  dsimp only at c0
                  clear hb hc hx
                  by_cases h3 : tk = 3
                  · have e3 : ((tk : Int) != 3) = false := by rw [bne_eq_false_iff_eq]; omega
                    rw [skip_hit h3] at hs
                    have HSS := Lib.hid hs
                    clear hs h3 HS
                    go_wp2_with fail
                    refine ⟨⟨q + 1, OUT, dps ++ [WH], by omega, rfl, HP5, Lib.hid ?_⟩, ?_⟩
                    · rw [← HSS.out]; exact HBAD.out
                    · simp only [intOf]; omega
                  · have e3 : ((tk : Int) != 3) = true := by rw [bne_iff_ne]; omega
                    rw [skip_at h3] at hs
                    have HSS := Lib.hid hs
                    clear hs h3 HS
                    go_wp2_with fail
                    refine ⟨⟨q + 1, by omega, by omega, rfl, HSS, trivial⟩, ?_⟩
                    simp only [intOf]; omega
                · have hqn' : ¬ (q : Int) < (n : Int) := by omega
                  have hs := HS.out
                  rw [List.drop_of_length_le (l := L.toks) (i := q) (by rw [HN.out]; omega)] at hs
                  have HSS := Lib.hid hs
                  clear hs HS
                  go_wp2_with fail
                  refine ⟨⟨q + 1, OUT, dps ++ [WH], by omega, rfl, HP5, Lib.hid ?_⟩, ?_⟩
                  · rw [List.drop_of_length_le (l := L.toks) (i := q + 1) (by rw [HN.out]; omega)]
                    have h9 : skipB [] = [] := rfl
                    rw [← h9, ← HSS.out]; exact HBAD.out
                  · simp only [intOf]; omega
            · have hpn' : ¬ (p : Int) + (m : Int) < (n : Int) := by omega
              have hpl : L.toks.drop (p + m) = [] := List.drop_of_length_le (by rw [HN.out]; omega)
              rw [hpl] at hbad
              have HBAD : Hid (PTo s.size fin (skipB (L.toks.drop (p + m))) OUT (dps ++ [s.size])) := Lib.hid (by rw [hpl]; exact hbad)
              clear hpl hbad
              have HP4D : Hid (∀ {w3 : World} {d' : Value}, (((w2.alloc (.cells #[.int .i64 0, .string ⟨#[]⟩, .slice none 0 0, .int .i64 0] 34)).alloc (.cells #[.int .i64 7, .int .i64 (s.size : Nat)] 38))).grownBy w3 (Value.slice DA dps.length dc).ownBlock → w3.ownsRow w1.heap.size 38 2 d' (dps.length + 1) ((dps.map fun p => (7, p)).flatMap decD ++ decD (7, s.size)) → RAt w1 (.slice OA OUT.length oc) d' w3 OUT (dps ++ [s.size])) := Lib.hid (fun hg ho => (HP3.out.up ((Below.refl _ _).alloc (Nat.le_refl _) _)).diag hg ho)
              have hrdf := rd_fresh (w2.alloc (.cells #[.int .i64 0, .string ⟨#[]⟩, .slice none 0 0, .int .i64 0] 34)) 38 #[.int .i64 7, .int .i64 (s.size : Nat)] 2 1 (decD (7, s.size)) rfl rfl
              rw [World.size_alloc] at hrdf
              have HP3 := Lib.hid (HP3.out.up ((Below.refl _ _).alloc (Nat.le_refl _) (.cells #[.int .i64 7, .int .i64 (s.size : Nat)] 38)))
              have HP4 := Lib.hid HP3.out.bel
              have HRDF := Lib.hid hrdf
              have HON : Hid (∀ u ∈ decD (7, s.size), u.oneCell' = true) := Lib.hid (fun u hu => by
                unfold decD at hu
                simp only [List.mem_cons, List.not_mem_nil, or_false] at hu
                rcases hu with rfl | rfl <;> rfl)
              have h63 : dps.length + 1 ≤ maxLen := by simp only [maxLen]; omega
              have hby : (dps.length + 1) * 16 ≤ 140737488355328 := by omega
              clear hrdf
              go_wp2_with (at_builtin; refine wpList_append_rd _ rfl (.tmp 60) (.tmp 63) _ rfl w1.heap.size 38 i1 _ 2 16 Tryz.underlying25 hi1 hy0 hy1 hy2 rfl (by decide) _ dps.length _ rfl HP3.out.dgs _ (some ⟨w2.heap.size + 1, 0, none⟩) 1 1 _ rfl HRDF.out HON.out h63 hby HP4.out.size ?_; intro A5 c5 w5 hown hfm hgr; have HP5 := Lib.hid (HP4D.out hgr hown); clear hown hfm hgr)
              have HT5 := Lib.hid (HT.out.up HP5.out.bel)
              clear HP3 HP4 HP4D HRDF HON
              go_loopw [9] (fun i W => ∃ q : Nat, p + m ≤ q ∧ q ≤ n ∧ i = i64 (q : Nat) ∧ Hid (skipB (L.toks.drop (p + m)) = skipB (L.toks.drop q)) ∧ w5 = W) (fun i _ => n - (intOf i).toNat)
              case atStart => exact ⟨p + m, Nat.le_refl _, by omega, rfl, Lib.hid rfl, rfl⟩
              case round =>
                obtain ⟨q, hq1, hq2, rfl, HS, rfl⟩ := hrel
                by_cases hqn : q < n
                · exact absurd hqn (by omega)
                · have hqn' : ¬ (q : Int) < (n : Int) := by omega
                  have hs := HS.out
                  rw [List.drop_of_length_le (l := L.toks) (i := q) (by rw [HN.out]; omega)] at hs
                  have HSS := Lib.hid hs
                  clear hs HS
                  go_wp2_with fail
                  refine ⟨⟨q + 1, OUT, dps ++ [s.size], by omega, rfl, HP5, Lib.hid ?_⟩, ?_⟩
                  · rw [List.drop_of_length_le (l := L.toks) (i := q + 1) (by rw [HN.out]; omega)]
                    have h9 : skipB [] = [] := rfl
                    rw [← h9, ← HSS.out]; exact HBAD.out
                  · simp only [intOf]; omega
      · have h0' : ¬ (p : Int) < (n : Int) := by omega
        have hnil : L.toks.drop p = [] := List.drop_of_length_le (by rw [HN.out]; omega)
        have hdn := HQ.out.done (.inl hnil)
        by_cases hd0 : dps = []
        · have f2 : ¬ (0 : Int) < (dps.length : Int) := by rw [hd0]; simp
          by_cases h3 : 300 < OUT.length
          · have f3 : (300 : Int) < (OUT.length : Int) := by omega
            obtain ⟨og, hog⟩ := hOA (by omega)
            subst hog
            have h300 : 300 < fin.out.length := by have := congrArg List.length hdn.1; rw [List.length_map, List.length_map] at this; omega
            have hres : finB fin = ([], [(2, fin.out[300].pos)]) := by unfold finB; rw [if_neg (fun q => q (by rw [← hdn.2]; exact hd0)), dif_pos h300]
            have hpos : OUT[300].pos = (fin.out[300].pos : Nat) := by
              have h1 : (OUT.map keyQ)[300]? = (fin.out.map keyR)[300]? := by rw [hdn.1]
              rw [List.getElem?_map, List.getElem?_map, List.getElem?_eq_getElem h3, List.getElem?_eq_getElem h300] at h1
              injection h1 with h1
              exact congrArg (fun x => x.2.2.2) h1
            obtain ⟨q, hq0⟩ : ∃ q, fin.out[300].pos = q := ⟨_, rfl⟩
            rw [hq0] at hres hpos
            have cX : wr.cell? ⟨og, 1203, none⟩ = some (.int .i64 (q : Nat)) := by
              rw [HP.out.outs.cellAt 1203 (by omega), show (1203 : Nat) = 300 * 4 + 3 from rfl, flat_get (k := 4) (fun _ => rfl) _ 300 3 _ (List.getElem?_eq_getElem h3) (by decide), ← hpos]
              rfl
            have HRS := Lib.hid (show PARSE s.data.toList = ([], [(2, q)]) by rw [HF.out, hres])
            have HO := Lib.hid (one_val 2 q wr)
            have HBX := Lib.hid (below_trans' HB1.out HP.out.bel)
            clear hdn hres hd0 h300 hpos hq0 hnil h0
            go_wp2_with fail
            refine HO.out.mono ?_
            rintro e2 w2 ⟨rfl, hd, hb2⟩
            have HPO : Hid (ParseOut s.data.toList w (.returned (.tuple #[.slice none 0 0, .slice (some ⟨wr.heap.size, 0, none⟩) 1 1])) w2) := Lib.hid ⟨_, _, _, [], _, _, _, [(2, q)], rfl, cms_none _, hd, below_trans' HBX.out hb2, by rw [HRS.out]; rfl, by rw [HRS.out]⟩
            clear hd hb2
            go_wp2_with fail
            refine bodyPost_ret (v := .tuple #[.slice none 0 0, .slice (some ⟨wr.heap.size, 0, none⟩) 1 1]) ?_ rfl HPO.out
            simp [results, Tryz.f7]
          · have f3 : ¬ (300 : Int) < (OUT.length : Int) := by omega
            have hres : finB fin = (fin.out, []) := by unfold finB; rw [if_neg (fun q => q (by rw [← hdn.2]; exact hd0)), dif_neg (by have := congrArg List.length hdn.1; rw [List.length_map, List.length_map] at this; omega)]
            have HPO : Hid (ParseOut s.data.toList w (.returned (.tuple #[.slice OA OUT.length oc, .slice none 0 0])) wr) := Lib.hid ⟨_, _, _, OUT, _, _, _, [], rfl, cms_own HP.out.outs rfl (fun x hx => (HP.out.each x hx).in_), dgs_nil _, below_trans' HB1.out HP.out.bel, by rw [HF.out, hres]; exact hdn.1, by rw [HF.out, hres]⟩
            clear hdn hres hd0 hnil h0
            go_wp2_with fail
            refine bodyPost_ret (v := .tuple #[.slice OA OUT.length oc, .slice none 0 0]) ?_ rfl HPO.out
            simp [results, Tryz.f7]
        · have hdp : 0 < dps.length := List.length_pos_iff.2 hd0
          have f2 : (0 : Int) < (dps.length : Int) := by omega
          have hres : finB fin = ([], fin.dgs.map fun p => (7, p)) := by unfold finB; rw [if_pos (by rw [← hdn.2]; exact hd0)]
          have HPO : Hid (ParseOut s.data.toList w (.returned (.tuple #[.slice none 0 0, .slice DA dps.length dc])) wr) := Lib.hid ⟨_, _, _, [], _, _, _, dps.map (fun p => (7, p)), rfl, cms_none _, dgs_own HP.out.dgs (by simp), below_trans' HB1.out HP.out.bel, by rw [HF.out, hres]; rfl, by rw [HF.out, hres, hdn.2]⟩
          clear hdn hres hd0 hdp hnil h0
          go_wp2_with fail
          refine bodyPost_ret (v := .tuple #[.slice none 0 0, .slice DA dps.length dc]) ?_ rfl HPO.out
          simp [results, Tryz.f7]
  · have f1 : ((L.err : Int) != 0) = true := by rw [bne_iff_ne]; omega
    have HO := Lib.hid (one_val L.err L.pos w1)
    have HRS := Lib.hid (HER.out herr)
    clear herr HER HOK
    go_wp2_with fail
    refine HO.out.mono ?_
    rintro e2 w2 ⟨rfl, hd, hb2⟩
    have HPO : Hid (ParseOut s.data.toList w (.returned (.tuple #[.slice none 0 0, .slice (some ⟨w1.heap.size, 0, none⟩) 1 1])) w2) := Lib.hid ⟨_, _, _, [], _, _, _, [(L.err, L.pos)], rfl, cms_none _, hd, below_trans' HB1.out hb2, by rw [HRS.out]; rfl, by rw [HRS.out]⟩
    clear hd hb2
    go_wp2_with fail
    refine bodyPost_ret (v := .tuple #[.slice none 0 0, .slice (some ⟨w1.heap.size, 0, none⟩) 1 1]) ?_ rfl HPO.out
    simp [results, Tryz.f7]
end Go.Proofs.YtjfcdfhcmkdicaaGreatDoor.Ps
