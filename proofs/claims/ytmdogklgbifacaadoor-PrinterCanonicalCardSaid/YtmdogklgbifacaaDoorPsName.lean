/- The reader's word and name walked. -/
import Derived.Test.YtmdogklgbifacaaDoorPsWord
namespace Go.Proofs.YtmdogklgbifacaaDoor.Ps
open Go.RowKit Go.Proofs.YtmdogklgbifacaaDoor.Lx Go.Proofs.YtmdogklgbifacaaDoor.Pr
set_option linter.unusedVariables false

theorem tok_f0 (a b c d : Value) (W : World) : (Instr.field 41 (.agg #[a, b, c, d]) 0).run Tryd.prog W = .ok a W := by kernel_rfl
theorem tok_f1 (a b c d : Value) (W : World) : (Instr.field 41 (.agg #[a, b, c, d]) 1).run Tryd.prog W = .ok b W := by kernel_rfl
theorem tok_f2 (a b c d : Value) (W : World) : (Instr.field 41 (.agg #[a, b, c, d]) 2).run Tryd.prog W = .ok c W := by kernel_rfl
theorem tok_f3 (a b c d : Value) (W : World) : (Instr.field 41 (.agg #[a, b, c, d]) 3).run Tryd.prog W = .ok d W := by kernel_rfl
section
variable {wP W W1 : World} {rb e n c n' c' : Nat} {A A' : Option Addr} {ts : List Tok} {t : Tok} {K : Int} {nm nm' : ByteArray} {NV : Value} {ns : List Int} {at_ : Int} {p : List UInt8}
theorem post_no (h : RS wP rb e A n c ts K nm NV ns at_ W) (hb : Below W.heap.size W W1) (hm : matchB ts [p] = 0) : Post wP rb e [p] ts K nm NV ns at_ W (pvE (nextT ts e).pos) W1 :=
  ⟨A, n, c, nm, NV, ns, by rw [hm]; exact h.up hb, Gr.of_below hb, .inl rfl, .inr ⟨by rw [hm]; exact Nat.zero_lt_succ _, by rw [hm]; rfl⟩⟩
theorem post_one (hf : fitsB t p = true) (hp : p ≠ [35]) (h : RS wP rb e A' n' c' ts K nm' NV ns at_ W1) (hg : Gr rb none W W1) (hnm : nm' = if p = [110] then t.text else nm) : Post wP rb e [p] (t :: ts) K nm NV ns at_ W (.returned (.tuple #[])) W1 := by
  have hm : matchB (t :: ts) [p] = 1 := by simp only [matchB]; rw [if_pos hf]
  refine ⟨A', n', c', nm', NV, ns, by rw [hm]; exact h, hg.more, .inl rfl, .inl ⟨hm, rfl, ?_, ?_⟩⟩
  · rw [hnm]; cases ts <;> rfl
  · simp only [nsB]; rw [if_neg hp]; cases ts <;> simp
theorem match_no (hf : fitsB t p = false) : matchB (t :: ts) [p] = 0 := by simp only [matchB]; rw [if_neg (by rw [hf]; decide)]
end
set_option maxRecDepth 100000 in
set_option maxHeartbeats 1000000 in
theorem word_val {wP W : World} {rb e n c : Nat} {A : Option Addr} {ts : List Tok} {K : Int} {nm : ByteArray} {NV : Value} {ns : List Int} {at_ : Int} (s : List UInt8) (h35 : s ≠ [35]) (h110 : s ≠ [110]) (h100 : s ≠ [100]) (h0 : s ≠ []) (hw : Wf ts)
    (h : RS wP rb e A n c ts K nm NV ns at_ W) :
    Calls Tryd.prog 55 #[.pointer (some ⟨rb, 0, none⟩), .string ⟨s.toArray⟩] W (Post wP rb e [s] ts K nm NV ns at_ W) := by
  have HN := Lib.hid (next_val h)
  obtain ⟨S, hS⟩ : ∃ S : ByteArray, ⟨s.toArray⟩ = S := ⟨_, rfl⟩
  have hSl : S.toList = s := by rw [← hS, Lib.toList_data]
  have hbw : Below W.heap.size W (W.alloc (.cells (tokA (nextT ts e)) 41)) := (Below.refl _ W).alloc (Nat.le_refl _) _
  have HB := Lib.hid hbw
  have H1 := Lib.hid (h.up hbw)
  have HS := Lib.hid h
  rw [hS]
  cases ts with
  | nil =>
    have hv : S.toList.isEmpty = false := by
      rw [hSl]
      cases s with
      | nil => exact absurd rfl h0
      | cons a b => rfl
    have HQ := Lib.hid (need_no H1.out)
    have HF : Hid (∀ W', Below W.heap.size W W' → Post wP rb e [s] [] K nm NV ns at_ W (pvE (nextT [] e).pos) W') := Lib.hid (fun W' hb => post_no HS.out hb rfl)
    unfold tokA nextT at HN HQ HB
    dsimp only at HN HQ HB
    unfold nextT at HF
    dsimp only at HF
    clear h hbw H1 hSl hS
    have hfd := tok_f1 (.int .i64 0) (.string ⟨#[]⟩) (.int .i64 0) (.int .i64 (e : Nat))
    go_enter Tryd.func55, Tryd.ntmps55
    go_wp2_with fail
    refine HN.out.mono ?_
    rintro e1 w1 ⟨rfl, hw1⟩
    rw [← hw1] at HQ HB
    clear hw1
    go_wp2_with fail
    refine HQ.out.mono ?_
    rintro e2 w2 ⟨rfl, hb2⟩
    exact ⟨rfl, HF.out _ (below_trans' HB.out hb2)⟩
  | cons t r =>
    obtain ⟨v, hv0⟩ : ∃ v, (t.text.data.toList == s) = v := ⟨_, rfl⟩
    have hv : (t.text.toList == S.toList) = v := by rw [hSl, Lib.toList_data]; exact hv0
    have hwt := hw t (List.mem_cons_self ..)
    have hft : fitsB t s = v := by
      unfold fitsB
      rw [if_neg h35, if_neg h110, if_neg h100, hv0]
      cases v with
      | false => rw [Bool.and_false]
      | true =>
        rw [Bool.and_true, decide_eq_true_eq]
        intro hk
        rw [hwt.w2 hk, beq_iff_eq] at hv0
        exact h0 hv0.symm
    cases v with
    | false =>
      have HQ := Lib.hid (need_no H1.out)
      have HF : Hid (∀ W', Below W.heap.size W W' → Post wP rb e [s] (t :: r) K nm NV ns at_ W (pvE (nextT (t :: r) e).pos) W') := Lib.hid (fun W' hb => post_no HS.out hb (match_no hft))
      unfold tokA nextT at HN HB
      unfold nextT at HQ HF
      unfold tokA at HQ
      dsimp only at HN HQ HB HF
      obtain ⟨tk, tx, tn, tp⟩ := t
      dsimp only at HN HQ HB HF hv
      clear h hbw H1 hSl hS hft hwt hv0 HS
      have hfd := tok_f1 (.int .i64 (tk : Nat)) (.string tx) (.int .i64 (tn : Nat)) (.int .i64 (tp : Nat))
      go_enter Tryd.func55, Tryd.ntmps55
      go_wp2_with fail
      refine HN.out.mono ?_
      rintro e1 w1 ⟨rfl, hw1⟩
      rw [← hw1] at HQ HB
      clear hw1
      go_wp2_with fail
      refine HQ.out.mono ?_
      rintro e2 w2 ⟨rfl, hb2⟩
      exact ⟨rfl, HF.out _ (below_trans' HB.out hb2)⟩
    | true =>
      have HQ := Lib.hid (need_ok H1.out)
      have HF : Hid (∀ W', RS wP rb e (cutA A c 1) (n - 1) (c - 1) r K nm NV ns at_ W' → Gr rb none W W' → Post wP rb e [s] (t :: r) K nm NV ns at_ W (.returned (.tuple #[])) W') := Lib.hid (fun W' hr hg => post_one hft h35 hr hg (by rw [if_neg h110]))
      unfold tokA nextT at HN HB HQ
      dsimp only at HN HQ HB
      obtain ⟨tk, tx, tn, tp⟩ := t
      dsimp only at HN HQ HB hv
      clear h hbw H1 hSl hS hft hwt hv0 HS
      have hfd := tok_f1 (.int .i64 (tk : Nat)) (.string tx) (.int .i64 (tn : Nat)) (.int .i64 (tp : Nat))
      go_enter Tryd.func55, Tryd.ntmps55
      go_wp2_with fail
      refine HN.out.mono ?_
      rintro e1 w1 ⟨rfl, hw1⟩
      rw [← hw1] at HQ HB
      clear hw1
      go_wp2_with fail
      refine HQ.out.mono ?_
      rintro e2 w2 ⟨rfl, hr2, hg2⟩
      have HP := Lib.hid (HF.out _ hr2 ((Gr.of_below (r2 := none) HB.out).trans hg2 (.inl rfl)))
      clear hr2 hg2
      go_wp2_with fail
      go_end0
      exact HP.out
set_option maxRecDepth 100000 in
set_option maxHeartbeats 1000000 in
theorem name_val {wP W : World} {rb e n c : Nat} {A : Option Addr} {ts : List Tok} {K : Int} {nm : ByteArray} {NV : Value} {ns : List Int} {at_ : Int} (hw : Wf ts)
    (h : RS wP rb e A n c ts K nm NV ns at_ W) :
    Calls Tryd.prog 77 #[.pointer (some ⟨rb, 0, none⟩)] W (Post wP rb e [[110]] ts K nm NV ns at_ W) := by
  have HN := Lib.hid (next_val h)
  have hbw : Below W.heap.size W (W.alloc (.cells (tokA (nextT ts e)) 41)) := (Below.refl _ W).alloc (Nat.le_refl _) _
  have HB := Lib.hid hbw
  have HS := Lib.hid h
  cases ts with
  | nil =>
    have HF : Hid (∀ W', Below W.heap.size W W' → Post wP rb e [[110]] [] K nm NV ns at_ W (pvE (nextT [] e).pos) W') := Lib.hid (fun W' hb => post_no HS.out hb rfl)
    unfold tokA nextT at HN HB
    dsimp only at HN HB
    unfold nextT at HF
    dsimp only at HF
    clear h hbw
    go_enter Tryd.func77, Tryd.ntmps77
    go_wp2_with fail
    refine HN.out.mono ?_
    rintro e1 w1 ⟨rfl, hw1⟩
    have hb1 : Below W.heap.size W w1 := by rw [hw1]; exact HB.out
    have HB1 := Lib.hid hb1
    have BT := Lib.hid (Blk.new w1 41 #[.int .i64 0, .string ⟨#[]⟩, .int .i64 0, .int .i64 (e : Nat)])
    have hb2 : Below w1.heap.size w1 (w1.alloc (.cells #[.int .i64 0, .string ⟨#[]⟩, .int .i64 0, .int .i64 (e : Nat)] 41)) := (Below.refl _ _).alloc (Nat.le_refl _) _
    have HB2 := Lib.hid (below_trans' hb1 hb2)
    obtain ⟨W2, hW2⟩ : ∃ W2, w1.alloc (.cells #[.int .i64 0, .string ⟨#[]⟩, .int .i64 0, .int .i64 (e : Nat)] 41) = W2 := ⟨_, rfl⟩
    rw [hW2] at BT HB2
    have H2 := Lib.hid (HS.out.up HB2.out)
    have k0 : W2.cell? ⟨w1.heap.size, 0, none⟩ = some (.int .i64 0) := BT.out.cell 0
    have k1 : W2.cell? ⟨w1.heap.size, 1, none⟩ = some (.string ⟨#[]⟩) := BT.out.cell 1
    clear hw1 hb1 hb2 HN HB
    have HQ := Lib.hid (need_no H2.out)
    unfold nextT at HQ
    dsimp only at HQ
    go_wp2_with fail
    refine HQ.out.mono ?_
    rintro e2 w2 ⟨rfl, hb2⟩
    exact ⟨rfl, HF.out _ (below_trans' HB2.out hb2)⟩
  | cons t r =>
    have hwt := hw t (List.mem_cons_self ..)
    have hft : fitsB t [110] = (decide (t.kind = 1) && nameB t.text) := by unfold fitsB; rw [if_neg (by decide), if_pos rfl]
    have HI := Lib.hid (isName_val t.text (Nat.le_trans hwt.size (by decide)))
    have HP1 : Hid (fitsB t [110] = false → ∀ W', Below W.heap.size W W' → Post wP rb e [[110]] (t :: r) K nm NV ns at_ W (pvE (nextT (t :: r) e).pos) W') := Lib.hid (fun hf W' hb => post_no HS.out hb (match_no hf))
    have HP2 : Hid (fitsB t [110] = true → ∀ W', RS wP rb e (cutA A c 1) (n - 1) (c - 1) r K t.text NV ns at_ W' → Gr rb none W W' → Post wP rb e [[110]] (t :: r) K nm NV ns at_ W (.returned (.tuple #[])) W') := Lib.hid (fun hf W' hr hg => post_one hf (by decide) hr hg (by rw [if_pos rfl]))
    have HT := Lib.hid (Toks.tail h.toks)
    rw [hft] at HP1 HP2
    obtain ⟨tk, tx, tn, tp⟩ := t
    obtain ⟨nb, hnb⟩ : ∃ v, nameB tx = v := ⟨_, rfl⟩
    unfold tokA nextT at HN HB
    unfold nextT at HP1
    dsimp only at HN HB HP1 HP2 HI
    rw [hnb] at HI HP1 HP2
    clear h hbw hwt hft hnb
    by_cases hk : tk = 1
    · have f1 : ((tk : Int) == 1) = true := by rw [beq_iff_eq]; omega
      rw [decide_eq_true hk, Bool.true_and] at HP1 HP2
      clear hk
      cases nb with
      | false =>
        have HF := Lib.hid (HP1.out rfl)
        clear HP1 HP2
        go_enter Tryd.func77, Tryd.ntmps77
        go_wp2_with fail
        refine HN.out.mono ?_
        rintro e1 w1 ⟨rfl, hw1⟩
        have hb1 : Below W.heap.size W w1 := by rw [hw1]; exact HB.out
        have HB1 := Lib.hid hb1
        have BT := Lib.hid (Blk.new w1 41 #[.int .i64 (tk : Nat), .string tx, .int .i64 (tn : Nat), .int .i64 (tp : Nat)])
        have hb2 : Below w1.heap.size w1 (w1.alloc (.cells #[.int .i64 (tk : Nat), .string tx, .int .i64 (tn : Nat), .int .i64 (tp : Nat)] 41)) := (Below.refl _ _).alloc (Nat.le_refl _) _
        have HB2 := Lib.hid (below_trans' hb1 hb2)
        obtain ⟨W2, hW2⟩ : ∃ W2, w1.alloc (.cells #[.int .i64 (tk : Nat), .string tx, .int .i64 (tn : Nat), .int .i64 (tp : Nat)] 41) = W2 := ⟨_, rfl⟩
        rw [hW2] at BT HB2
        have H2 := Lib.hid (HS.out.up HB2.out)
        have k0 : W2.cell? ⟨w1.heap.size, 0, none⟩ = some (.int .i64 (tk : Nat)) := BT.out.cell 0
        have k1 : W2.cell? ⟨w1.heap.size, 1, none⟩ = some (.string tx) := BT.out.cell 1
        clear hw1 hb1 hb2 HN HB
        go_wp2_with fail
        refine (HI.out _).mono ?_
        rintro e3 w3 ⟨rfl, hb3⟩
        have HB3 := Lib.hid (below_trans' HB2.out hb3)
        have H3 := Lib.hid (H2.out.up hb3)
        clear hb3
        have HQ := Lib.hid (need_no H3.out)
        unfold nextT at HQ
        dsimp only at HQ
        go_wp2_with fail
        refine HQ.out.mono ?_
        rintro e2 w2 ⟨rfl, hb2⟩
        exact ⟨rfl, HF.out _ (below_trans' HB3.out hb2)⟩
      | true =>
        have HF := Lib.hid (HP2.out rfl)
        clear HP1 HP2
        go_enter Tryd.func77, Tryd.ntmps77
        go_wp2_with fail
        refine HN.out.mono ?_
        rintro e1 w1 ⟨rfl, hw1⟩
        have hb1 : Below W.heap.size W w1 := by rw [hw1]; exact HB.out
        have HB1 := Lib.hid hb1
        have BT := Lib.hid (Blk.new w1 41 #[.int .i64 (tk : Nat), .string tx, .int .i64 (tn : Nat), .int .i64 (tp : Nat)])
        have hb2 : Below w1.heap.size w1 (w1.alloc (.cells #[.int .i64 (tk : Nat), .string tx, .int .i64 (tn : Nat), .int .i64 (tp : Nat)] 41)) := (Below.refl _ _).alloc (Nat.le_refl _) _
        have HB2 := Lib.hid (below_trans' hb1 hb2)
        obtain ⟨W2, hW2⟩ : ∃ W2, w1.alloc (.cells #[.int .i64 (tk : Nat), .string tx, .int .i64 (tn : Nat), .int .i64 (tp : Nat)] 41) = W2 := ⟨_, rfl⟩
        rw [hW2] at BT HB2
        have H2 := Lib.hid (HS.out.up HB2.out)
        have k0 : W2.cell? ⟨w1.heap.size, 0, none⟩ = some (.int .i64 (tk : Nat)) := BT.out.cell 0
        have k1 : W2.cell? ⟨w1.heap.size, 1, none⟩ = some (.string tx) := BT.out.cell 1
        clear hw1 hb1 hb2 HN HB
        go_wp2_with fail
        refine (HI.out _).mono ?_
        rintro e3 w3 ⟨rfl, hb3⟩
        have HB3 := Lib.hid (below_trans' HB2.out hb3)
        have H3 := Lib.hid (H2.out.up hb3)
        clear hb3
        have HQ := Lib.hid (need_ok H3.out)
        unfold tokA at HQ
        dsimp only at HQ
        have hfd := tok_f1 (.int .i64 (tk : Nat)) (.string tx) (.int .i64 (tn : Nat)) (.int .i64 (tp : Nat))
        go_wp2_with fail
        refine HQ.out.mono ?_
        rintro e4 w4 ⟨rfl, hr4, hg4⟩
        have HR := Lib.hid (hr4.nameS tx)
        have HG : Hid (Gr rb none W (w4.setCell ⟨rb, 3, none⟩ (.string tx))) := Lib.hid (((Gr.of_below (r2 := none) HB3.out).trans hg4 (.inl rfl)).setCell (p := ⟨rb, 3, none⟩) (.inl rfl) _)
        have m0 : w4.cell? ⟨rb, 3, none⟩ = some (.string nm) := hr4.blk.cell 3
        have m1 : w4.frozen? ⟨rb, 3, none⟩ = false := hr4.blk.frozen 3
        clear hr4 hg4
        go_wp2_with fail
        go_end0
        exact HF.out _ HR.out HG.out
    · have f1 : ((tk : Int) == 1) = false := by rw [beq_eq_false_iff_ne]; omega
      rw [decide_eq_false hk, Bool.false_and] at HP1
      have HF := Lib.hid (HP1.out rfl)
      clear HP1 HP2
      go_enter Tryd.func77, Tryd.ntmps77
      go_wp2_with fail
      refine HN.out.mono ?_
      rintro e1 w1 ⟨rfl, hw1⟩
      have hb1 : Below W.heap.size W w1 := by rw [hw1]; exact HB.out
      have HB1 := Lib.hid hb1
      have BT := Lib.hid (Blk.new w1 41 #[.int .i64 (tk : Nat), .string tx, .int .i64 (tn : Nat), .int .i64 (tp : Nat)])
      have hb2 : Below w1.heap.size w1 (w1.alloc (.cells #[.int .i64 (tk : Nat), .string tx, .int .i64 (tn : Nat), .int .i64 (tp : Nat)] 41)) := (Below.refl _ _).alloc (Nat.le_refl _) _
      have HB2 := Lib.hid (below_trans' hb1 hb2)
      obtain ⟨W2, hW2⟩ : ∃ W2, w1.alloc (.cells #[.int .i64 (tk : Nat), .string tx, .int .i64 (tn : Nat), .int .i64 (tp : Nat)] 41) = W2 := ⟨_, rfl⟩
      rw [hW2] at BT HB2
      have H2 := Lib.hid (HS.out.up HB2.out)
      have k0 : W2.cell? ⟨w1.heap.size, 0, none⟩ = some (.int .i64 (tk : Nat)) := BT.out.cell 0
      have k1 : W2.cell? ⟨w1.heap.size, 1, none⟩ = some (.string tx) := BT.out.cell 1
      clear hw1 hb1 hb2 HN HB
      have HQ := Lib.hid (need_no H2.out)
      unfold nextT at HQ
      dsimp only at HQ
      go_wp2_with fail
      refine HQ.out.mono ?_
      rintro e2 w2 ⟨rfl, hb2⟩
      exact ⟨rfl, HF.out _ (below_trans' HB2.out hb2)⟩
end Go.Proofs.YtmdogklgbifacaaDoor.Ps
