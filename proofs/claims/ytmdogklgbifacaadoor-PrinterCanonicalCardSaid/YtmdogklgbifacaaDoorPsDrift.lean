/- The reader's drift. -/
import Derived.Test.YtmdogklgbifacaaDoorPsForm
namespace Go.Proofs.YtmdogklgbifacaaDoor.Ps
open Go.RowKit Go.Proofs.YtmdogklgbifacaaDoor.Lx Go.Proofs.YtmdogklgbifacaaDoor.Pr
set_option linter.unusedVariables false

section
variable {wP W W1 W2 : World} {rb e : Nat} {ps ps' : List (List UInt8)} {ts : List Tok} {K : Int} {nm : ByteArray} {NV : Value} {ns : List Int} {at_ : Int} {e1 : Ending}
theorem Post.conv (h : Post wP rb e ps ts K nm NV ns at_ W e1 W1) (hl : ps.length = ps'.length) (hm : matchB ts ps' = matchB ts ps) (hn : nmB nm ts ps' = nmB nm ts ps) (hs : nsB false ts ps' = nsB false ts ps) : Post wP rb e ps' ts K nm NV ns at_ W e1 W1 := by
  obtain ⟨A', n', c', nm', NV', ns', h1, h2, h3, h4⟩ := h
  refine ⟨A', n', c', nm', NV', ns', by rw [hm]; exact h1, h2, h3, ?_⟩
  rw [hm, ← hl, hn, hs]
  exact h4
theorem Post.conv_fail {p : Nat} (h : Post wP rb e ps ts K nm NV ns at_ W (pvE p) W1) (hl : ps.length = ps'.length) (hm : matchB ts ps' = matchB ts ps) : Post wP rb e ps' ts K nm NV ns at_ W (pvE p) W1 := by
  obtain ⟨A', n', c', nm', NV', ns', h1, h2, h3, h4⟩ := h
  refine ⟨A', n', c', nm', NV', ns', by rw [hm]; exact h1, h2, h3, ?_⟩
  rw [hm, ← hl]
  rcases h4 with ⟨_, q, _⟩ | h4
  · cases q
  · exact .inr h4
theorem Post.up (h : Post wP rb e ps ts K nm NV ns at_ W e1 W1) (hb : Below W1.heap.size W1 W2) : Post wP rb e ps ts K nm NV ns at_ W e1 W2 := by
  obtain ⟨A', n', c', nm', NV', ns', h1, h2, h3, h4⟩ := h
  exact ⟨A', n', c', nm', NV', ns', h1.up hb, h2.trans (Gr.of_below hb (r2 := none)) (.inl rfl), h3, h4⟩
end
theorem fits_dir {t : Tok} (h : WfT t) (s : List UInt8) (hs : s = bFast ∨ s = bSlow) (hd : t.text.data.toList = bSlow ↔ s = bSlow) : fitsB t [100] = fitsB t s := by
  have h59 : s ≠ [59] := by rcases hs with rfl | rfl <;> decide
  have h0 : s ≠ [] := by rcases hs with rfl | rfl <;> decide
  have h35 : s ≠ [35] := by rcases hs with rfl | rfl <;> decide
  have h110 : s ≠ [110] := by rcases hs with rfl | rfl <;> decide
  have h100 : s ≠ [100] := by rcases hs with rfl | rfl <;> decide
  unfold fitsB
  rw [if_neg (by decide), if_neg (by decide), if_pos rfl, if_neg h35, if_neg h110, if_neg h100]
  by_cases hts : t.text.data.toList = s
  · have h2 : t.kind ≠ 2 := fun q => h0 (by rw [← hts, h.w2 q])
    have h3 : t.kind ≠ 3 := fun q => h59 (by rw [← hts, h.w3 q])
    have h1 := (h.w1 h2 h3).1
    rw [decide_eq_true h1, decide_eq_true h2, hts, beq_self_eq_true]
    rcases hs with rfl | rfl <;> rfl
  · have e1 : (t.text.data.toList == s) = false := beq_eq_false_iff_ne.2 hts
    have e2 : (t.text.data.toList == bFast || t.text.data.toList == bSlow) = false := by
      rw [Bool.or_eq_false_iff, beq_eq_false_iff_ne, beq_eq_false_iff_ne]
      rcases hs with rfl | rfl
      · exact ⟨hts, fun q => absurd (hd.1 q) (by decide)⟩
      · exact ⟨fun q => hts (by
          exfalso
          exact hts (hd.2 rfl)), hts⟩
    rw [e1, e2, Bool.and_false, Bool.and_false]
theorem dir_match {ts : List Tok} (h : Wf ts) (s : List UInt8) (hs : s = bFast ∨ s = bSlow) (hd : txtB ts.head? = bSlow ↔ s = bSlow) (ps : List (List UInt8)) : matchB ts ([100] :: ps) = matchB ts (s :: ps) := by
  cases ts with
  | nil => rfl
  | cons t r => simp only [matchB]; rw [fits_dir (h t (List.mem_cons_self ..)) s hs hd]
theorem dir_nm (ts : List Tok) (nm : ByteArray) (s : List UInt8) (hs : s = bFast ∨ s = bSlow) (ps : List (List UInt8)) : nmB nm ts ([100] :: ps) = nmB nm ts (s :: ps) := by
  cases ts with
  | nil => rfl
  | cons t r => simp only [nmB]; rw [if_neg (by decide), if_neg (by rcases hs with rfl | rfl <;> decide)]
theorem dir_ns (ts : List Tok) (hd : txtB ts.head? ≠ bSlow) (ps : List (List UInt8)) : nsB false ts ([100] :: ps) = nsB false ts (bFast :: ps) := by
  cases ts with
  | nil => rfl
  | cons t r =>
    simp only [nsB]
    rw [if_neg (by decide), if_neg (by decide), show (t.text.data.toList == bSlow) = false from beq_eq_false_iff_ne.2 hd, Bool.and_false, Bool.and_false]
/-- The number behind a direction, turned. -/
theorem turned {wP W W1 : World} {rb e : Nat} {ts : List Tok} {K : Int} {nm : ByteArray} {NV : Value} {ns : List Int} {at_ : Int} (hw : Wf ts) (hd : txtB ts.head? = bSlow) (h : Post wP rb e [bSlow, [35]] ts K nm NV ns at_ W (.returned (.tuple #[])) W1) :
    ∃ g cap x, 0 ≤ x ∧ x ≤ 1000000000 ∧ W1.cell? ⟨rb, 4, none⟩ = some (.slice (some ⟨g, 0, none⟩) (ns.length + 1) cap) ∧ W1.cell? ⟨g, ns.length, none⟩ = some (.int .i64 x) ∧ W1.frozen? ⟨g, ns.length, none⟩ = false ∧
      ∀ W2, Below W1.heap.size W1 W2 → Post wP rb e [[100], [35]] ts K nm NV ns at_ W (.returned (.tuple #[])) (W2.setCell ⟨g, ns.length, none⟩ (.int .i64 (-x))) := by
  obtain ⟨A', n', c', nm', NV', ns', h1, h2, h3, h4⟩ := h
  obtain ⟨h5, h6, h7⟩ : matchB ts [bSlow, [35]] = [bSlow, [35]].length ∧ nm' = nmB nm ts [bSlow, [35]] ∧ ns' = ns ++ nsB false ts [bSlow, [35]] := by
    rcases h4 with ⟨a, _, b, c⟩ | ⟨_, q⟩
    · exact ⟨a, b, c⟩
    · cases q
  have hm : matchB ts [[100], [35]] = matchB ts [bSlow, [35]] := dir_match hw bSlow (.inr rfl) (by rw [hd]) _
  obtain ⟨t0, t1, r, rfl⟩ : ∃ t0 t1 r, ts = t0 :: t1 :: r := by
    have := (matchB_le ts [bSlow, [35]]).2
    rw [h5] at this
    match ts, this with
    | t0 :: t1 :: r, _ => exact ⟨t0, t1, r, rfl⟩
  have e1 : nsB false (t0 :: t1 :: r) [bSlow, [35]] = [(t1.n : Int)] := by
    simp only [nsB]
    rw [if_neg (by decide), if_pos trivial, show (decide (bSlow = [100])) = false from by decide, Bool.false_and]
    rfl
  have e2 : nsB false (t0 :: t1 :: r) [[100], [35]] = [-(t1.n : Int)] := by
    simp only [nsB]
    rw [if_neg (by decide), if_pos trivial, show (t0.text.data.toList == bSlow) = true from beq_iff_eq.2 hd, decide_eq_true trivial, Bool.true_and]
    rfl
  rw [e1] at h7
  subst h7
  have hown := h1.own
  obtain ⟨NA, cap, rfl, hNA⟩ := own_form hown
  obtain ⟨g, rfl⟩ := hNA (by simp)
  have hlen : (ns ++ [(t1.n : Int)]).length = ns.length + 1 := by simp
  have hn1 := (hw t1 (by simp)).n
  have hne := own_ne hown h1.blk
  have hgne : g ≠ rb := fun q => hne (by rw [q]; rfl)
  have hgb := own_block hown g rfl
  have hk : ns.length < (ns ++ [(t1.n : Int)]).length := by omega
  have hc := hown.cellAt ns.length (by omega)
  have hmapg : ((ns ++ [(t1.n : Int)]).map iv)[ns.length]? = some (.int .i64 (t1.n : Int)) := by simp [iv]
  refine ⟨g, cap, (t1.n : Int), by omega, by omega, ?_, ?_, ?_, fun W2 hb => ?_⟩
  · have := h1.blk.cell 4
    rw [← hlen]; exact this
  · rw [hc]; exact hmapg
  · exact hown.frozenAt ns.length
  · have h1' := h1.up hb
    obtain ⟨ho2, hg2⟩ := h1'.own.stored ns.length (.int .i64 (-(t1.n : Int)))
    have hblk := h1'.blk.far (p := ⟨g, ns.length, none⟩) (Ne.symm hgne) (.int .i64 (-(t1.n : Int)))
    have hbel := h1'.bel.setCell (p := ⟨g, ns.length, none⟩) hgb.1 (.int .i64 (-(t1.n : Int)))
    refine ⟨A', n', c', nm', .slice (some ⟨g, 0, none⟩) (ns ++ [(t1.n : Int)]).length cap, ns ++ [-(t1.n : Int)], ?_, ?_, h3, .inl ⟨by rw [hm]; exact h5, rfl, ?_, by rw [e2]⟩⟩
    · rw [hm]
      refine ⟨hbel, h1'.toks, ?_, ?_, h1'.ge⟩
      · exact hblk
      · have : (List.map iv (ns ++ [(t1.n : Int)])).set ns.length (.int .i64 (-(t1.n : Int))) = List.map iv (ns ++ [-(t1.n : Int)]) := by
          rw [List.map_append, List.map_append, List.set_append_right _ _ (by simp)]
          simp [iv]
        rw [this] at ho2
        simpa using ho2
    · have hg3 : Gr rb NV.ownBlock W W2 := h2.trans (Gr.of_below hb (r2 := none)) (.inl rfl)
      refine ⟨hg3.os, hg3.tape, hg3.output, by rw [World.size_setCell]; exact hg3.size, fun k hk hr hr2 => ?_⟩
      rw [Below.heap_setCell W2 ⟨g, ns.length, none⟩ _ k, hg3.block k hk hr hr2]
      intro q
      have q' : k = g := q
      rcases h3 with h | ⟨k', h, hk'⟩
      · exact hr2 (by rw [← h, q']; rfl)
      · have : g = k' := by simpa [Value.ownBlock] using h
        omega
    · rw [h6]; exact (dir_nm _ _ bSlow (.inr rfl) _).symm
set_option maxRecDepth 100000 in
set_option maxHeartbeats 2000000 in
theorem drift_val {wP W : World} {rb e n c : Nat} {A : Option Addr} {ts : List Tok} {K : Int} {nm : ByteArray} {NV : Value} {ns : List Int} {at_ : Int} (hnl : ns.length ≤ 16) (hw : Wf ts) (h : RS wP rb e A n c ts K nm NV ns at_ W) :
    Calls Tryd.prog 79 #[.pointer (some ⟨rb, 0, none⟩)] W (Post wP rb e [[100], [35]] ts K nm NV ns at_ W) := by
  have HN := Lib.hid (next_val h)
  have hbw : Below W.heap.size W (W.alloc (.cells (tokA (nextT ts e)) 41)) := (Below.refl _ W).alloc (Nat.le_refl _) _
  have HB := Lib.hid hbw
  have H1 := Lib.hid (h.up hbw)
  have htx : txtB ts.head? = (nextT ts e).text.data.toList := by cases ts <;> rfl
  obtain ⟨v, hv0⟩ : ∃ v, ((nextT ts e).text.data.toList == bSlow) = v := ⟨_, rfl⟩
  obtain ⟨t, ht⟩ : ∃ t, nextT ts e = t := ⟨_, rfl⟩
  rw [ht] at HN HB H1 htx hv0
  obtain ⟨tk, tx, tn, tp⟩ := t
  unfold tokA at HN HB H1
  dsimp only at HN HB H1 htx hv0
  have hv : (tx.toList == [115, 108, 111, 119]) = v := by rw [Lib.toList_data]; exact hv0
  have HS := Lib.hid h
  have hfd := tok_f1 (.int .i64 (tk : Nat)) (.string tx) (.int .i64 (tn : Nat)) (.int .i64 (tp : Nat))
  clear h hbw
  go_enter Tryd.func79, Tryd.ntmps79
  go_wp2_with fail
  refine HN.out.mono ?_
  rintro e1 w1 ⟨rfl, hw1⟩
  rw [← hw1] at HB H1
  clear hw1
  cases v with
  | false =>
    have htn : txtB ts.head? ≠ bSlow := by rw [htx]; exact beq_eq_false_iff_ne.1 hv0
    have HCV : Hid (∀ e1 W1, Post wP rb e [bFast, [35]] ts K nm NV ns at_ W e1 W1 → Post wP rb e [[100], [35]] ts K nm NV ns at_ W e1 W1) := Lib.hid (fun e1 W1 q => q.conv rfl (dir_match hw bFast (.inl rfl) (by rw [iff_false_right (show ¬ bFast = bSlow from by decide)]; exact htn) _) (dir_nm _ _ bFast (.inl rfl) _) (dir_ns ts htn _))
    have HWD := Lib.hid (word_val bFast (by decide) (by decide) (by decide) (by decide) hw H1.out)
    unfold bFast at HWD
    rw [show ByteArray.mk (List.toArray [102, 97, 115, 116]) = ⟨#[102, 97, 115, 116]⟩ from rfl] at HWD
    go_wp2_with fail
    refine HWD.out.mono ?_
    intro e2 w2 hp
    rcases hp.cases (by decide) with ⟨rfl, hm1, A1, n1, c1, nm1, NV1, ns1, hr1, hn1, hg1, hc1⟩ | ⟨p, rfl, hf⟩
    · have hnl1 : ns1.length ≤ 17 := by
        rw [hn1, List.length_append]
        have := nsB_len false ts [[102, 97, 115, 116]]
        rw [List.length_singleton] at this
        omega
      have HM := Lib.hid (nums_val 1 (by omega) (by omega) (hw.drop _) hr1)
      have HC1 := Lib.hid hc1
      clear hm1 hr1 hn1 hg1 hc1 hp
      go_wp2_with fail
      refine HM.out.mono ?_
      intro e3 w3 hp2
      have hq : Post wP rb e [[35]] _ K nm1 NV1 ns1 at_ w2 e3 w3 := hp2
      have hz := HC1.out _ _ _ hq
      rcases hq.cases (by decide) with ⟨rfl, _, _⟩ | ⟨p, rfl, hf⟩
      · have HZ := Lib.hid (HCV.out _ _ (hz.start (Gr.of_below HB.out)))
        clear hq hz hp2
        go_wp2_with fail
        go_end0
        exact HZ.out
      · exact ⟨rfl, HCV.out _ _ (hz.start (Gr.of_below HB.out))⟩
    · exact ⟨rfl, HCV.out _ _ ((hf [[35]]).start (Gr.of_below HB.out))⟩
  | true =>
    have HTS : Hid (txtB ts.head? = bSlow) := Lib.hid (by rw [htx]; exact beq_iff_eq.1 hv0)
    have HMM := Lib.hid (dir_match hw bSlow (.inr rfl) (by rw [HTS.out]))
    have HWD := Lib.hid (word_val bSlow (by decide) (by decide) (by decide) (by decide) hw H1.out)
    unfold bSlow at HWD
    rw [show ByteArray.mk (List.toArray [115, 108, 111, 119]) = ⟨#[115, 108, 111, 119]⟩ from rfl] at HWD
    go_wp2_with fail
    refine HWD.out.mono ?_
    intro e2 w2 hp
    rcases hp.cases (by decide) with ⟨rfl, hm1, A1, n1, c1, nm1, NV1, ns1, hr1, hn1, hg1, hc1⟩ | ⟨p, rfl, hf⟩
    · have hnl1 : ns1.length ≤ 17 := by
        rw [hn1, List.length_append]
        have := nsB_len false ts [[115, 108, 111, 119]]
        rw [List.length_singleton] at this
        omega
      have HM := Lib.hid (nums_val 1 (by omega) (by omega) (hw.drop _) hr1)
      have HC1 := Lib.hid hc1
      clear hm1 hr1 hn1 hg1 hc1 hp
      go_wp2_with fail
      refine HM.out.mono ?_
      intro e3 w3 hp2
      have hq : Post wP rb e [[35]] _ K nm1 NV1 ns1 at_ w2 e3 w3 := hp2
      have hz := HC1.out _ _ _ hq
      have hz' := hz.start (Gr.of_below HB.out (rb := rb) (r2 := none))
      rcases hq.cases (by decide) with ⟨rfl, _, _⟩ | ⟨p, rfl, hf⟩
      · obtain ⟨g, cap, x, hx0, hx1, cN, cE, zE, hfin⟩ := turned hw HTS.out hz'
        have HF := Lib.hid hfin
        clear hq hz hp2 hfin hz'
        have k1 : ((ns.length : Int) + 1 - 1) = (ns.length : Int) := by omega
        have k2 : (0 : Int) ≤ (ns.length : Int) := by omega
        have k3 : (ns.length : Int) < (ns.length : Int) + 1 := by omega
        have k4 : IntKind.i64.wrap (ns.length : Int) = (ns.length : Int) := Go.IntWalk.i64_in _ (by omega)
        have k5 : IntKind.i64.wrap (-x) = -x := Go.IntWalk.i64_in _ (by omega)
        go_wp2_with fail
        go_region
        go_wp2_with fail
        go_end0
        exact (HF.out _ (Below.refl _ _)).up (Below.refl _ _).drew
      · exact ⟨rfl, hz'.conv_fail rfl (HMM.out _)⟩
    · exact ⟨rfl, ((hf [[35]]).start (Gr.of_below HB.out)).conv_fail rfl (HMM.out _)⟩
end Go.Proofs.YtmdogklgbifacaaDoor.Ps
