/- The reader's command walked. Printed by wip/mk_pscmd.py. -/
import Derived.Test.YtmdogklgbifacaaDoorPsDoor
namespace Go.Proofs.YtmdogklgbifacaaDoor.Ps
open Go.RowKit Go.Proofs.YtmdogklgbifacaaDoor.Lx Go.Proofs.YtmdogklgbifacaaDoor.Pr
set_option linter.unusedVariables false

theorem next_word {ts : List Tok} {e : Nat} {t : Tok} (h : nextT ts e = t) (hw : Wf ts) (h0 : t.text.data.toList ≠ []) : ∃ r, ts = t :: r ∧ t.kind ≠ 2 := by
  cases ts with
  | nil => subst h; exact absurd rfl h0
  | cons t' r =>
    obtain rfl : t' = t := h
    exact ⟨r, rfl, fun q => h0 ((hw _ (List.mem_cons_self ..)).w2 q)⟩
theorem fits_self {t : Tok} (hk : t.kind ≠ 2) (h35 : t.text.data.toList ≠ [35]) (h110 : t.text.data.toList ≠ [110]) (h100 : t.text.data.toList ≠ [100]) : fitsB t t.text.data.toList = true := by
  unfold fitsB
  rw [if_neg h35, if_neg h110, if_neg h100, decide_eq_true hk, beq_self_eq_true]
  rfl
theorem EvTab.up {m : Nat} {w w' : World} (h : EvTab m w) (hb : Below w.heap.size w w') : EvTab m w' :=
  ⟨(hb.block _ (Array.getElem?_eq_some_iff.1 h.tab).1).trans h.tab, h.b1.up' hb, h.b2.up' hb, h.b3.up' hb, h.b4.up' hb⟩
theorem post_cons {wP W W1 W2 : World} {rb e : Nat} {p : List UInt8} {p2 : List (List UInt8)} {t : Tok} {r : List Tok} {K : Int} {nm : ByteArray} {NV : Value} {ns : List Int} {at_ : Int} {e1 : Ending} (hf : fitsB t p = true) (h35 : p ≠ [35]) (h110 : p ≠ [110]) (h100 : p ≠ [100]) (hg : Gr rb none W W1) (h : Post wP rb e p2 r K nm NV ns at_ W1 e1 W2) :
    Post wP rb e ([p] ++ p2) (t :: r) K nm NV ns at_ W e1 W2 := by
  obtain ⟨A', n', c', nm', NV', ns', h1, h2, h3, h4⟩ := h
  have hm : matchB (t :: r) ([p] ++ p2) = matchB r p2 + 1 := by simp only [List.singleton_append, matchB]; rw [if_pos hf, Nat.add_comm]
  have hn : nsB false (t :: r) ([p] ++ p2) = nsB false r p2 := by simp only [List.singleton_append, nsB]; rw [if_neg h35, decide_eq_false h100, Bool.false_and]
  have hk : nmB nm (t :: r) ([p] ++ p2) = nmB nm r p2 := by simp only [List.singleton_append, nmB]; rw [if_neg h110]
  refine ⟨A', n', c', nm', NV', ns', by rw [hm, List.drop_succ_cons]; exact h1, hg.more.trans h2 (.inr (.inl rfl)), ?_, ?_⟩
  · rcases h3 with h | ⟨k, h, hk⟩
    · exact .inl h
    · exact .inr ⟨k, h, Nat.le_trans hg.size hk⟩
  · rw [hm, hn, hk, List.drop_succ_cons]
    rcases h4 with ⟨a, b, c, d⟩ | ⟨a, b⟩
    · exact .inl ⟨by rw [a, List.length_append, List.length_singleton, Nat.add_comm], b, c, d⟩
    · exact .inr ⟨by rw [List.length_append, List.length_singleton]; omega, b⟩
theorem sel_none {ts : List Tok} (h : txtB ts.head? ≠ bAt) (hl : lookB cmdTab (txtB ts.head?) = none) : selB ts = .error 0 := by
  unfold selB
  rw [if_neg h, hl]
theorem sel_some {ts : List Tok} {k : Nat} (h : txtB ts.head? ≠ bAt) (hl : lookB cmdTab (txtB ts.head?) = some k) : selB ts = .ok k := by
  unfold selB
  rw [if_neg h, hl]
set_option maxRecDepth 100000 in
set_option maxHeartbeats 4000000 in
theorem command_val {wP W : World} {rb e n c : Nat} {A : Option Addr} {ts : List Tok} {K : Int} {nm : ByteArray} {NV : Value} {ns : List Int} {at_ : Int} (hw : Wf ts) (h : RS wP rb e A n c ts K nm NV ns at_ W) :
    Calls Tryd.prog 32 #[.pointer (some ⟨rb, 0, none⟩)] W (CmdOut wP rb e ts W) := by
  have hmf := hmf
  have HWP : Hid (wP.heap.size ≤ W.heap.size) := Lib.hid h.bel.size
  have HRW : Hid (rb < W.heap.size) := Lib.hid h.blk.lt
  have hb1 : Below W.heap.size W ((W.alloc (.cells #[.int .i64 0] 3)).alloc (.cells #[.bool false] 4)) := ((Below.refl _ _).alloc (Nat.le_refl _) _).alloc (by simp) _
  have hr0 := h.up hb1
  have HN := Lib.hid (next_val hr0)
  obtain ⟨⟨tk, tx, tn, tp⟩, ht⟩ : ∃ t, nextT ts e = t := ⟨_, rfl⟩
  have htx : txtB ts.head? = tx.data.toList := (show txtB ts.head? = (nextT ts e).text.data.toList from by cases ts <;> rfl).trans (by rw [ht])
  rw [ht] at HN
  unfold tokA at HN
  dsimp only at HN
  obtain ⟨v, hv0⟩ : ∃ v, (tx.data.toList == bAt) = v := ⟨_, rfl⟩
  have hv : (tx.toList == [97, 116]) = v := by rw [Lib.toList_data]; exact hv0
  have BC0 : Hid (Blk ((W.alloc (.cells #[.int .i64 0] 3)).alloc (.cells #[.bool false] 4)) W.heap.size 3 #[.int .i64 0]) := Lib.hid ((Blk.new W _ _).alloc _)
  have BC1 : Hid (Blk ((W.alloc (.cells #[.int .i64 0] 3)).alloc (.cells #[.bool false] 4)) (W.heap.size + 1) 4 #[.bool false]) := Lib.hid (by have := Blk.new (W.alloc (.cells #[.int .i64 0] 3)) 4 #[.bool false]; rwa [World.size_alloc] at this)
  have HR0 := Lib.hid hr0
  have HB1 := Lib.hid hb1
  have hfd3 := tok_f3 (.int .i64 (tk : Nat)) (.string tx) (.int .i64 (tn : Nat)) (.int .i64 (tp : Nat))
  have hfd1 := tok_f1 (.int .i64 (tk : Nat)) (.string tx) (.int .i64 (tn : Nat)) (.int .i64 (tp : Nat))
  clear h hb1 hr0
  go_enter_defers Tryd.func32, Tryd.ntmps32
  go_wp2_with fail
  refine HN.out.mono ?_
  rintro e1 w1 ⟨rfl, hw1⟩
  have hb1 : Below ((W.alloc (.cells #[.int .i64 0] 3)).alloc (.cells #[.bool false] 4)).heap.size ((W.alloc (.cells #[.int .i64 0] 3)).alloc (.cells #[.bool false] 4)) w1 := by rw [hw1]; exact (Below.refl _ _).alloc (Nat.le_refl _) _
  have HR1 := Lib.hid (HR0.out.up hb1)
  have HG1 : Hid (Gr rb none W w1) := Lib.hid (Gr.of_below (below_trans' HB1.out hb1))
  have BD0 := Lib.hid (BC0.out.up' hb1)
  have BD1 := Lib.hid (BC1.out.up' hb1)
  clear hw1 hb1 HN BC0 BC1 HR0 HB1
  have y2 : w1.cell? ⟨rb, 2, none⟩ = some (.int .i64 K) := HR1.out.blk.cell 2
  have y3 : w1.cell? ⟨rb, 3, none⟩ = some (.string nm) := HR1.out.blk.cell 3
  have y4 : w1.cell? ⟨rb, 4, none⟩ = some NV := HR1.out.blk.cell 4
  have y5 : w1.cell? ⟨rb, 5, none⟩ = some (.int .i64 at_) := HR1.out.blk.cell 5
  have z2 := HR1.out.blk.frozen 2
  have z3 := HR1.out.blk.frozen 3
  have z4 := HR1.out.blk.frozen 4
  have z5 := HR1.out.blk.frozen 5
  go_wp2_with fail
  have hf2 := HR1.out.fresh (tp : Nat)
  have HR2 := Lib.hid hf2.1
  have HG2 := Lib.hid (HG1.out.trans hf2.2 (.inl rfl))
  have q0 : W.heap.size ≠ rb := by have := HRW.out; omega
  have q1 : W.heap.size + 1 ≠ rb := by have := HRW.out; omega
  have BE0 := Lib.hid ((((BD0.out.far (p := ⟨rb, 2, none⟩) q0 (.int .i64 0)).far (p := ⟨rb, 3, none⟩) q0 (.string ⟨#[]⟩)).far (p := ⟨rb, 4, none⟩) q0 (.slice none 0 0)).far (p := ⟨rb, 5, none⟩) q0 (.int .i64 (tp : Nat)))
  have BE1 := Lib.hid ((((BD1.out.far (p := ⟨rb, 2, none⟩) q1 (.int .i64 0)).far (p := ⟨rb, 3, none⟩) q1 (.string ⟨#[]⟩)).far (p := ⟨rb, 4, none⟩) q1 (.slice none 0 0)).far (p := ⟨rb, 5, none⟩) q1 (.int .i64 (tp : Nat)))
  obtain ⟨w2, hw2⟩ : ∃ w2, (((w1.setCell ⟨rb, 2, none⟩ (.int .i64 0)).setCell ⟨rb, 3, none⟩ (.string ⟨#[]⟩)).setCell ⟨rb, 4, none⟩ (.slice none 0 0)).setCell ⟨rb, 5, none⟩ (.int .i64 (tp : Nat)) = w2 := ⟨_, rfl⟩
  rw [hw2] at HR2 HG2 BE0 BE1 ⊢
  clear hw2 hf2 y2 y3 y4 y5 z2 z3 z4 z5 HR1 HG1 BD0 BD1 q0 q1
  have HFP : Hid (∀ p w', CmdMid wP rb e ts w2 (some p) w' → ∀ t0 t1 l, Leaves Tryd.prog Tryd.f32 (t0 :: t1 :: .pointer (some ⟨W.heap.size, 0, none⟩) :: .pointer (some ⟨W.heap.size + 1, 0, none⟩) :: l).toArray (CmdOut wP rb e ts W)
      [{ target := .fn (.func 52) #[.pointer (some ⟨W.heap.size, 0, none⟩), .pointer (some ⟨W.heap.size + 1, 0, none⟩)], args := #[] }] (.panicking [{ v := FV p, recovered := false }]) w') := Lib.hid (fun p w' hm t0 t1 l => door_panic hm HG2.out HWP.out HRW.out BE0.out BE1.out t0 t1 l)
  have HFD : Hid (∀ wd w', CmdMid wP rb e ts w2 none w' → wd = (w'.setCell ⟨W.heap.size, 0, none⟩ (.int .i64 0)).setCell ⟨W.heap.size + 1, 0, none⟩ (.bool true) → ∀ t0 t1 l, Leaves Tryd.prog Tryd.f32 (t0 :: t1 :: .pointer (some ⟨W.heap.size, 0, none⟩) :: .pointer (some ⟨W.heap.size + 1, 0, none⟩) :: l).toArray (CmdOut wP rb e ts W)
      [{ target := .fn (.func 52) #[.pointer (some ⟨W.heap.size, 0, none⟩), .pointer (some ⟨W.heap.size + 1, 0, none⟩)], args := #[] }] .returning wd) := Lib.hid (fun wd w' hm hwd t0 t1 l => door_done hm HG2.out HWP.out HRW.out BE0.out BE1.out t0 t1 l hwd)
  refine (commands_val w2).mono ?_
  rintro e3 w3 ⟨rfl, hw3⟩
  have hb3 : Below w2.heap.size w2 w3 := by rw [hw3]; exact (Below.refl _ _).alloc (Nat.le_refl _) _
  have hT3 : w3.heap[w2.heap.size]? = some (.map (ents 0 cmdT).toArray 4) := by rw [hw3]; exact heap_alloc_new w2 _
  have HR3 := Lib.hid (HR2.out.up hb3)
  have HB3 := Lib.hid hb3
  have HT3 := Lib.hid hT3
  have HN3 := Lib.hid (next_val (HR2.out.up hb3))
  rw [ht] at HN3
  unfold tokA at HN3
  dsimp only at HN3
  clear hb3 hT3 hw3
  go_wp2_with fail
  refine HN3.out.mono ?_
  rintro e4 w4 ⟨rfl, hw4⟩
  have hb4 : Below w3.heap.size w3 w4 := by rw [hw4]; exact (Below.refl _ _).alloc (Nat.le_refl _) _
  have HR4 := Lib.hid (HR3.out.up hb4)
  have HB4 := Lib.hid (below_trans' HB3.out hb4)
  have HT4 : Hid (w4.heap[w2.heap.size]? = some (.map (ents 0 cmdT).toArray 4)) := Lib.hid ((hb4.block _ (Array.getElem?_eq_some_iff.1 HT3.out).1).trans HT3.out)
  clear hw4 hb4 HR3 HB3 HT3 HN3
  cases v with
  | false =>
    have hat : txtB ts.head? ≠ bAt := by rw [htx]; exact beq_eq_false_iff_ne.1 hv0
    have HN4 := Lib.hid (next_val HR4.out)
    rw [ht] at HN4
    unfold tokA at HN4
    dsimp only at HN4
    go_wp2_with fail
    refine HN4.out.mono ?_
    rintro e5 w5 ⟨rfl, hw5⟩
    have hb5 : Below w4.heap.size w4 w5 := by rw [hw5]; exact (Below.refl _ _).alloc (Nat.le_refl _) _
    have HR5 := Lib.hid (HR4.out.up hb5)
    have HB5 := Lib.hid (below_trans' HB4.out hb5)
    have hT5 : w5.heap[w2.heap.size]? = some (.map (ents 0 cmdT).toArray 4) := (hb5.block _ (Array.getElem?_eq_some_iff.1 HT4.out).1).trans HT4.out
    have hlk := tab_look cmdT tx hT5
    have hsel := cmd_sel wP rb e w2.heap.size w5 tx
    clear hw5 hb5 HR4 HB4 HT4 HN4 hT5
    rcases hsel with ⟨hf, hlook⟩ | ⟨⟨kw, xv⟩, k, mid, hf, hlook, hexp, h35, h110, h100, h0, hml, f, caps, hx, hcf, hcall⟩
    · rw [hf] at hlk
      dsimp only at hlk
      go_wp2_with fail
      have hb6 : Below w5.heap.size w5 (w5.alloc (.cells #[.int .i64 0, .nilFunc] 99)) := (Below.refl _ _).alloc (Nat.le_refl _) _
      refine (need_no (HR5.out.up hb6)).mono ?_
      rintro e6 w6 ⟨rfl, hb7⟩
      have hsl := sel_none hat (by rw [htx]; exact hlook)
      have hb8 := below_trans' HB5.out (below_trans' hb6 hb7)
      exact HFP.out _ _ (mid_err hsl (HR2.out.up hb8) (Gr.of_below hb8) (fun k hk => by cases hk) rfl) _ _ _
    · rw [hf] at hlk
      obtain rfl : xv = _ := hx
      dsimp only at hlk
      obtain ⟨r, hts, hk2⟩ := next_word ht hw h0
      have hwr : Wf r := Wf.tail (by rw [← hts]; exact hw)
      have hsl := sel_some hat (by rw [htx]; exact hlook)
      go_wp2_with fail
      have b6 := Blk.new w5 99 #[.int .i64 (k : Nat), .func (.func f) #[] caps]
      have hb6 : Below w5.heap.size w5 (w5.alloc (.cells #[.int .i64 (k : Nat), .func (.func f) #[] caps] 99)) := (Below.refl _ _).alloc (Nat.le_refl _) _
      have hrs := HR5.out.up hb6
      rw [hts] at hrs
      refine (need_ok hrs).mono ?_
      rintro eA vA ⟨rfl, hr6, hg6⟩
      have hrb5 : rb < w5.heap.size := HR5.out.blk.lt
      have b7 := hg6.blk b6 (by omega) (by simp)
      have x0 : vA.cell? ⟨w5.heap.size, 0, none⟩ = some (.int .i64 (k : Nat)) := b7.cell 0
      have y0 : vA.cell? ⟨rb, 2, none⟩ = some (.int .i64 0) := hr6.blk.cell 2
      have z0 : vA.frozen? ⟨rb, 2, none⟩ = false := hr6.blk.frozen 2
      have x1 : (vA.setCell ⟨rb, 2, none⟩ (.int .i64 (k : Nat))).cell? ⟨w5.heap.size, 1, none⟩ = some (.func (.func f) #[] caps) := (b7.far (p := ⟨rb, 2, none⟩) (show w5.heap.size ≠ rb by omega) (.int .i64 (k : Nat))).cell 1
      have g6 : Gr rb none w5 (vA.setCell ⟨rb, 2, none⟩ (.int .i64 (k : Nat))) := ((Gr.of_below hb6 (r2 := none)).trans hg6 (.inl rfl)).setCell (.inl rfl) _
      have gS : Gr rb none w2 (vA.setCell ⟨rb, 2, none⟩ (.int .i64 (k : Nat))) := (Gr.of_below HB5.out : Gr rb none w2 w5).trans g6 (.inl rfl)
      have HR8 := Lib.hid (hr6.kindS (k : Nat))
      have HCL := Lib.hid (hcall _ _ _ _ _ _ _ _ _ _ g6 (fun j hj => by cases hj) (by simp) hwr HR8.out)
      have HPC : Hid (∀ p2 e1 W2, Post wP rb e p2 r (k : Nat) ⟨#[]⟩ (.slice none 0 0) [] (tp : Nat) (vA.setCell ⟨rb, 2, none⟩ (.int .i64 (k : Nat))) e1 W2 → Post wP rb e ([] ++ ([tx.data.toList] ++ p2)) ts (k : Nat) ⟨#[]⟩ (.slice none 0 0) [] (tp : Nat) w2 e1 W2) := Lib.hid (fun p2 e1 W2 q => (by rw [hts]; exact post_cons (fits_self (t := ⟨tk, tx, tn, tp⟩) hk2 h35 h110 h100) h35 h110 h100 gS q))
      have HX := Lib.hid hexp
      have HSL := Lib.hid hsl
      clear hb6 b6 b7 hrs hr6 hg6 g6 gS hcall hlk hexp hsl hts HR5
      go_wp2_with fail
      clear x0 y0 z0 x1
      refine HCL.out.mono ?_
      intro eB vB hp
      rcases hp.two with ⟨hm, rfl⟩ | ⟨hm, rfl⟩
      · obtain ⟨_, A9, n9, c9, nm9, NV9, ns9, hr9, _, _, _, hc9⟩ := hp.sure hm hml
        have HW := Lib.hid (word_val [59] (by decide) (by decide) (by decide) (by decide) (hwr.drop _) hr9)
        have HC9 := Lib.hid hc9
        clear hr9 hc9 hp
        go_wp2_with fail
        refine HW.out.mono ?_
        intro eC vC hq
        have hz := HPC.out _ _ _ (HC9.out _ _ _ _ hq)
        rw [← HX.out] at hz
        rcases hq.two with ⟨_, rfl⟩ | ⟨_, rfl⟩
        · have hmd := mid_done HSL.out (by rw [HX.out]; simp) (by rw [ht]; exact hz)
          have hgz : Gr rb none w2 vC := by
            obtain ⟨_, _, _, _, _, _, _, _, _, q, _⟩ := hmd
            exact q
          have k0 := hgz.blk BE0.out (by have := HRW.out; omega) (by simp)
          have k1 := hgz.blk BE1.out (by have := HRW.out; omega) (by simp)
          have k1' := (k1.far (p := ⟨W.heap.size, 0, none⟩) (show W.heap.size + 1 ≠ W.heap.size by omega) (.int .i64 0))
          have u0 : vC.cell? ⟨W.heap.size, 0, none⟩ = some (.int .i64 0) := k0.cell 0
          have u1 : vC.frozen? ⟨W.heap.size, 0, none⟩ = false := k0.frozen 0
          have u2 : (vC.setCell ⟨W.heap.size, 0, none⟩ (.int .i64 0)).cell? ⟨W.heap.size + 1, 0, none⟩ = some (.bool false) := k1'.cell 0
          have u3 : vC.frozen? ⟨W.heap.size + 1, 0, none⟩ = false := k1.frozen 0
          have HD := Lib.hid hmd
          clear hq hz hmd hgz k0 k1 k1'
          go_wp2_with fail
          exact HFD.out _ _ HD.out rfl _ _ _
        · exact HFP.out _ _ (mid_fail HSL.out rfl hz) _ _ _
      · have hz := HPC.out _ _ _ (hp.fail (p2 := [[59]]) hm)
        rw [← HX.out] at hz
        exact HFP.out _ _ (mid_fail HSL.out rfl hz) _ _ _
  | true =>
    have hat : txtB ts.head? = bAt := by rw [htx]; exact beq_iff_eq.1 hv0
    obtain ⟨r0, hts, hk2⟩ := next_word ht hw (by rw [beq_iff_eq.1 hv0]; decide)
    have hm1 : matchB ts [[97, 116]] = [[(97 : UInt8), 116]].length := by
      have hfa : fitsB ⟨tk, tx, tn, tp⟩ [97, 116] = true := by
        have := fits_self (t := ⟨tk, tx, tn, tp⟩) hk2 (by rw [beq_iff_eq.1 hv0]; decide) (by rw [beq_iff_eq.1 hv0]; decide) (by rw [beq_iff_eq.1 hv0]; decide)
        rw [show Tok.text ⟨tk, tx, tn, tp⟩ = tx from rfl, beq_iff_eq.1 hv0] at this
        exact this
      rw [hts]
      simp only [matchB]
      rw [if_pos hfa]
      rfl
    have HM1 := Lib.hid hm1
    have HAT := Lib.hid hat
    have HQ4 := Lib.hid (word_val [97, 116] (by decide) (by decide) (by decide) (by decide) hw HR4.out)
    clear hts hk2 hat hm1 HT4
    go_wp2_with fail
    refine HQ4.out.mono ?_
    intro e5 w5 hp5
    obtain ⟨rfl, A5, n5, c5, nm5, NV5, ns5, hr5, hn5, _, _, hc5⟩ := hp5.sure HM1.out (by decide)
    have hnl5 : ns5.length ≤ 1 := by
      rw [hn5, List.length_append]
      have := nsB_len false ts [[97, 116]]
      simp only [List.length_cons, List.length_nil] at this ⊢
      omega
    have HQ5 := Lib.hid (nums_val 1 (by omega) (by omega) (hw.drop _) hr5)
    have HC5 := Lib.hid hc5
    clear hr5 hn5 hc5 hp5 HQ4
    go_wp2_with fail
    refine HQ5.out.mono ?_
    intro e6 w6 hp6
    have hp6' := (HC5.out _ _ _ _ hp6).start (Gr.of_below HB4.out)
    have hmm : matchB ts ([[97, 116]] ++ rep 1) = 1 + matchB (ts.drop 1) [[35]] := by rw [match_append, if_pos HM1.out]; rfl
    rcases hp6.two.symm with ⟨hm6, rfl⟩ | ⟨hm6, rfl⟩
    · obtain ⟨A6, n6, c6, nm6, NV6, ns6, hr6, hg6, hv6, h6⟩ := hp6'
      have hz : matchB (ts.drop 1) [[35]] = 0 := by
        have : matchB (ts.drop 1) [[35]] < 1 := hm6
        omega
      rw [hmm, hz] at hr6
      have hsl : selB ts = .error 1 := by
        unfold selB
        rw [if_pos HAT.out]
        refine if_neg (fun q => ?_)
        have hg1 : ∃ t1 r1, ts.drop 1 = t1 :: r1 ∧ t1.kind = 2 := by
          cases hq : ts.drop 1 with
          | nil => rw [← List.head?_drop, hq] at q; cases q
          | cons t1 r1 => rw [← List.head?_drop, hq] at q; exact ⟨t1, r1, rfl, by simpa using q⟩
        obtain ⟨t1, r1, hq, hk1⟩ := hg1
        rw [hq] at hz
        have hft : fitsB t1 [35] = true := by unfold fitsB; rw [if_pos rfl]; exact decide_eq_true hk1
        simp only [matchB] at hz
        rw [if_pos hft] at hz
        omega
      refine HFP.out _ _ (mid_err hsl hr6 hg6 (fun k hk => ?_) ?_) _ _ _
      · rcases hv6 with h | ⟨j, h, hj⟩
        · rw [h] at hk; cases hk
        · rw [h] at hk; cases hk; exact hj
      · show (nextT ((ts.drop 1).drop (matchB (ts.drop 1) (rep 1))) e).pos = (nextT (ts.drop 1) e).pos
        rw [show matchB (ts.drop 1) (rep 1) = 0 from hz]
        rfl
    · have hm2 : matchB ts ([[97, 116]] ++ rep 1) = ([[97, 116]] ++ rep 1).length := by rw [hmm, show matchB (ts.drop 1) [[35]] = 1 from hm6]; rfl
      have hk1 : (ts[1]?.map (·.kind)) = some 2 := by
        have hm6' : matchB (ts.drop 1) [[35]] = 1 := hm6
        rw [← List.head?_drop]
        cases hq : ts.drop 1 with
        | nil => rw [hq] at hm6'; cases hm6'
        | cons t1 r1 =>
          rw [hq] at hm6'
          simp only [matchB] at hm6'
          by_cases hft : fitsB t1 [35] = true
          · unfold fitsB at hft
            rw [if_pos rfl, decide_eq_true_eq] at hft
            show some t1.kind = some 2
            rw [hft]
          · rw [if_neg hft] at hm6'; omega
      obtain ⟨_, A6, n6, c6, nm6, NV6, ns6, hr6, hn6, hg6, hv6, hc6⟩ := hp6'.sure hm2 (by decide)
      have hnl6 : ns6.length ≤ 2 := by
        rw [hn6, List.length_append]
        have := nsB_len false ts ([[97, 116]] ++ rep 1)
        have h2 : ([[97, 116]] ++ rep 1).length = 2 := rfl
        rw [h2] at this
        simp only [List.length_nil]
        omega
      have hnb : ∀ j, NV6.ownBlock = some j → j < w6.heap.size := fun j hj => (own_block hr6.own j hj).2
      have HNV : Hid (∀ k, NV6.ownBlock = some k → w2.heap.size ≤ k) := Lib.hid (fun k hk => by
        rcases hv6 with h | ⟨j, h, hj⟩
        · rw [h] at hk; cases hk
        · rw [h] at hk; cases hk; exact hj)
      have HNB := Lib.hid hnb
      have HR6 := Lib.hid hr6
      have HG6 := Lib.hid hg6
      have HK1 := Lib.hid hk1
      have HC6 : Hid (∀ K' e1 W2 p2, Post wP rb e p2 (ts.drop 2) K' nm6 NV6 ns6 (tp : Nat) w6 e1 W2 → Post wP rb e ([[97, 116], [35]] ++ p2) ts K' ⟨#[]⟩ (.slice none 0 0) [] (tp : Nat) w2 e1 W2) := Lib.hid hc6
      have hrb6 : rb < w6.heap.size := hr6.blk.lt
      have HRB6 := Lib.hid hrb6
      clear hm6 hm2 hk1 hr6 hn6 hg6 hv6 hc6 hnb hrb6 hp6 hp6' hmm HC5 HQ5
      go_wp2_with fail
      refine (events_val w6).mono ?_
      rintro e7 w7 ⟨rfl, hT7, hb7⟩
      obtain ⟨⟨uk, ux, un, up⟩, hu⟩ : ∃ t, nextT (ts.drop 2) e = t := ⟨_, rfl⟩
      have hux : txtB ts[2]? = ux.data.toList := by
        rw [← List.head?_drop]
        exact (show txtB (ts.drop 2).head? = (nextT (ts.drop 2) e).text.data.toList from by cases ts.drop 2 <;> rfl).trans (by rw [hu])
      have HR7 : Hid (RS wP rb e A6 n6 c6 (ts.drop 2) 0 nm6 NV6 ns6 (tp : Nat) w7) := Lib.hid (HR6.out.up hb7)
      have HN7 := Lib.hid (next_val HR7.out)
      rw [hu] at HN7
      unfold tokA at HN7
      dsimp only at HN7
      have HT7 := Lib.hid hT7
      have HB7 := Lib.hid hb7
      have hfe1 := tok_f1 (.int .i64 (uk : Nat)) (.string ux) (.int .i64 (un : Nat)) (.int .i64 (up : Nat))
      clear hT7 hb7 hfd1 hfd3
      go_wp2_with fail
      refine HN7.out.mono ?_
      rintro e8 w8 ⟨rfl, hw8⟩
      have hb8 : Below w7.heap.size w7 w8 := by rw [hw8]; exact (Below.refl _ _).alloc (Nat.le_refl _) _
      have HR8' := Lib.hid (HR7.out.up hb8)
      have HB8 := Lib.hid (below_trans' HB7.out hb8)
      have HT8 : Hid (EvTab w6.heap.size w8) := Lib.hid (HT7.out.up hb8)
      have hlk := tab_look (evT w6.heap.size) ux HT8.out.tab
      have hsel := ev_sel wP rb e w6.heap.size w8 HT8.out HRB6.out ux
      clear hw8 hb8 HN7 HR7 HB7 HT7
      rcases hsel with ⟨hf, hlook⟩ | ⟨⟨kw, xv⟩, k, mid, hf, hlook, hexp, h35, h110, h100, h0, hml, f, caps, hx, hcf, hcall⟩
      · rw [hf] at hlk
        dsimp only at hlk
        go_wp2_with fail
        have hb9 : Below w8.heap.size w8 (w8.alloc (.cells #[.int .i64 0, .nilFunc] 99)) := (Below.refl _ _).alloc (Nat.le_refl _) _
        refine (need_no (HR8'.out.up hb9)).mono ?_
        rintro e9 w9 ⟨rfl, hb10⟩
        have hsl : selB ts = .error 2 := by
          unfold selB
          rw [if_pos HAT.out, if_pos HK1.out, hux, hlook]
        have hb11 := below_trans' HB8.out (below_trans' hb9 hb10)
        exact HFP.out _ _ (mid_err hsl (HR6.out.up hb11) (HG6.out.trans (Gr.of_below hb11) (.inl rfl)) HNV.out rfl) _ _ _
      · rw [hf] at hlk
        obtain rfl : xv = _ := hx
        dsimp only at hlk
        obtain ⟨r, hts, hk2⟩ := next_word hu (hw.drop 2) h0
        have hwr : Wf r := Wf.tail (by rw [← hts]; exact hw.drop 2)
        have hsl : selB ts = .ok k := by
          unfold selB
          rw [if_pos HAT.out, if_pos HK1.out, hux, hlook]
        go_wp2_with fail
        have b6 := Blk.new w8 99 #[.int .i64 (k : Nat), .func (.func f) #[] caps]
        have hb6 : Below w8.heap.size w8 (w8.alloc (.cells #[.int .i64 (k : Nat), .func (.func f) #[] caps] 99)) := (Below.refl _ _).alloc (Nat.le_refl _) _
        have hrs := HR8'.out.up hb6
        rw [hts] at hrs
        refine (need_ok hrs).mono ?_
        rintro eA vA ⟨rfl, hr6, hg6⟩
        have hrb5 : rb < w8.heap.size := HR8'.out.blk.lt
        have b7 := hg6.blk b6 (by omega) (by simp)
        have x0 : vA.cell? ⟨w8.heap.size, 0, none⟩ = some (.int .i64 (k : Nat)) := b7.cell 0
        have y0 : vA.cell? ⟨rb, 2, none⟩ = some (.int .i64 0) := hr6.blk.cell 2
        have z0 : vA.frozen? ⟨rb, 2, none⟩ = false := hr6.blk.frozen 2
        have x1 : (vA.setCell ⟨rb, 2, none⟩ (.int .i64 (k : Nat))).cell? ⟨w8.heap.size, 1, none⟩ = some (.func (.func f) #[] caps) := (b7.far (p := ⟨rb, 2, none⟩) (show w8.heap.size ≠ rb by omega) (.int .i64 (k : Nat))).cell 1
        have g6 : Gr rb none w8 (vA.setCell ⟨rb, 2, none⟩ (.int .i64 (k : Nat))) := ((Gr.of_below hb6 (r2 := none)).trans hg6 (.inl rfl)).setCell (.inl rfl) _
        have gS : Gr rb none w6 (vA.setCell ⟨rb, 2, none⟩ (.int .i64 (k : Nat))) := (Gr.of_below HB8.out : Gr rb none w6 w8).trans g6 (.inl rfl)
        have HR8 := Lib.hid (hr6.kindS (k : Nat))
        have HCL := Lib.hid (hcall _ _ _ _ _ _ _ _ _ _ g6 HNB.out (by omega) hwr HR8.out)
        have HPC : Hid (∀ p2 e1 W2, Post wP rb e p2 r (k : Nat) nm6 NV6 ns6 (tp : Nat) (vA.setCell ⟨rb, 2, none⟩ (.int .i64 (k : Nat))) e1 W2 → Post wP rb e ([[97, 116], [35]] ++ ([ux.data.toList] ++ p2)) ts (k : Nat) ⟨#[]⟩ (.slice none 0 0) [] (tp : Nat) w2 e1 W2) := Lib.hid (fun p2 e1 W2 q => HC6.out _ _ _ _ (by rw [hts]; exact post_cons (fits_self (t := ⟨uk, ux, un, up⟩) hk2 h35 h110 h100) h35 h110 h100 gS q))
        have HX := Lib.hid hexp
        have HSL := Lib.hid hsl
        clear hb6 b6 b7 hrs hr6 hg6 g6 gS hcall hlk hexp hsl hts HR8'
        go_wp2_with fail
        clear x0 y0 z0 x1
        refine HCL.out.mono ?_
        intro eB vB hp
        rcases hp.two with ⟨hm, rfl⟩ | ⟨hm, rfl⟩
        · obtain ⟨_, A9, n9, c9, nm9, NV9, ns9, hr9, _, _, _, hc9⟩ := hp.sure hm hml
          have HW := Lib.hid (word_val [59] (by decide) (by decide) (by decide) (by decide) (hwr.drop _) hr9)
          have HC9 := Lib.hid hc9
          clear hr9 hc9 hp
          go_wp2_with fail
          refine HW.out.mono ?_
          intro eC vC hq
          have hz := HPC.out _ _ _ (HC9.out _ _ _ _ hq)
          rw [← HX.out] at hz
          rcases hq.two with ⟨_, rfl⟩ | ⟨_, rfl⟩
          · have hmd := mid_done HSL.out (by rw [HX.out]; simp) (by rw [ht]; exact hz)
            have hgz : Gr rb none w2 vC := by
              obtain ⟨_, _, _, _, _, _, _, _, _, q, _⟩ := hmd
              exact q
            have k0 := hgz.blk BE0.out (by have := HRW.out; omega) (by simp)
            have k1 := hgz.blk BE1.out (by have := HRW.out; omega) (by simp)
            have k1' := (k1.far (p := ⟨W.heap.size, 0, none⟩) (show W.heap.size + 1 ≠ W.heap.size by omega) (.int .i64 0))
            have u0 : vC.cell? ⟨W.heap.size, 0, none⟩ = some (.int .i64 0) := k0.cell 0
            have u1 : vC.frozen? ⟨W.heap.size, 0, none⟩ = false := k0.frozen 0
            have u2 : (vC.setCell ⟨W.heap.size, 0, none⟩ (.int .i64 0)).cell? ⟨W.heap.size + 1, 0, none⟩ = some (.bool false) := k1'.cell 0
            have u3 : vC.frozen? ⟨W.heap.size + 1, 0, none⟩ = false := k1.frozen 0
            have HD := Lib.hid hmd
            clear hq hz hmd hgz k0 k1 k1'
            go_wp2_with fail
            exact HFD.out _ _ HD.out rfl _ _ _
          · exact HFP.out _ _ (mid_fail HSL.out rfl hz) _ _ _
        · have hz := HPC.out _ _ _ (hp.fail (p2 := [[59]]) hm)
          rw [← HX.out] at hz
          exact HFP.out _ _ (mid_fail HSL.out rfl hz) _ _ _
end Go.Proofs.YtmdogklgbifacaaDoor.Ps
