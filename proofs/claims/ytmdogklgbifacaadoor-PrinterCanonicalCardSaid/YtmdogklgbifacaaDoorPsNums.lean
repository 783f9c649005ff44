/- The reader's numbers. -/
import Derived.Test.YtmdogklgbifacaaDoorPsName
import Derived.Test.YtmdogklgbifacaaDoorStg
namespace Go.Proofs.YtmdogklgbifacaaDoor.Ps
open Go.RowKit Go.Proofs.YtmdogklgbifacaaDoor.Lx Go.Proofs.YtmdogklgbifacaaDoor.Pr
set_option linter.unusedVariables false

theorem info_int : (Tryd.prog.info? 3).map (fun i => (i.zero, i.size, i.bytes)) = some (some (.int .i64 0), 1, 8) := by kernel_rfl
def rep (j : Nat) : List (List UInt8) := List.replicate j [35]
def vN (rb : Nat) (W : World) : Value := (W.cell? ⟨rb, 4, none⟩).getD undef
theorem vN_of {rb : Nat} {W : World} {v : Value} (h : W.cell? ⟨rb, 4, none⟩ = some v) : W.cell? ⟨rb, 4, none⟩ = some (vN rb W) := by unfold vN; rw [h]; rfl
theorem vN_eq {rb : Nat} {W : World} {v : Value} (h : W.cell? ⟨rb, 4, none⟩ = some v) : vN rb W = v := by unfold vN; rw [h]; rfl
theorem rep_succ (j : Nat) : rep (j + 1) = rep j ++ [[35]] := by unfold rep; rw [List.replicate_succ']
theorem rep_last (j : Nat) : (rep j).getLast? ≠ some [100] := by
  intro h
  have := List.mem_of_getLast? h
  unfold rep at this
  have := List.eq_of_mem_replicate this
  exact absurd this (by decide)
theorem rep_len (j : Nat) : (rep j).length = j := List.length_replicate ..
theorem rep_split {j m : Nat} (h : j < m) : rep m = rep j ++ ([[35]] ++ rep (m - j - 1)) := by
  unfold rep
  rw [show ([[35]] : List (List UInt8)) = List.replicate 1 [35] from rfl, List.replicate_append_replicate, List.replicate_append_replicate]
  congr 1
  omega
theorem nsB_rep : ∀ (j : Nat) (ts : List Tok), matchB ts (rep j) = j → (nsB false ts (rep j)).length = j
  | 0, ts, _ => by cases ts <;> rfl
  | j + 1, [], h => by simp [matchB] at h
  | j + 1, t :: ts, h => by
    unfold rep at h ⊢
    rw [List.replicate_succ] at h ⊢
    simp only [matchB] at h
    split at h
    · simp only [nsB, if_pos, List.length_cons]
      rw [show (nsB false ts (List.replicate j [35])).length = j from nsB_rep j ts (by unfold rep; omega)]
    · omega
theorem RS.nums {wP W W' : World} {rb e n c : Nat} {A : Option Addr} {ts : List Tok} {K : Int} {nm : ByteArray} {NV NV' : Value} {ns ns' : List Int} {at_ : Int} (h : RS wP rb e A n c ts K nm NV ns at_ W) (hg : W.grownBy W' NV.ownBlock) (ho : W'.ownsRow wP.heap.size 3 1 NV' ns'.length (ns'.map iv)) :
    RS wP rb e A n c ts K nm NV' ns' at_ (W'.setCell ⟨rb, 4, none⟩ NV') ∧ Gr rb NV.ownBlock W (W'.setCell ⟨rb, 4, none⟩ NV') := by
  have hne := own_ne h.own h.blk
  have hb : Blk W' rb 65 _ := h.blk.grown hg (fun e => hne e.symm)
  have hne' := own_ne ho hb
  have hG : Gr rb NV.ownBlock W W' := ⟨hg.os, hg.tape, hg.output, hg.size, fun k hk _ hr => hg.block k hk hr⟩
  have hbl : Below wP.heap.size W W' := hG.below h.ge (fun k hk => (own_block h.own k hk).1) h.bel.size
  have hrs : RS wP rb e A n c ts K nm NV' ns' at_ (W'.setCell ⟨rb, 4, none⟩ NV') := by
    refine ⟨(h.bel.trans hbl).setCell (p := ⟨rb, 4, none⟩) h.ge _, h.toks, hb.set_ 4 NV', ?_, h.ge⟩
    exact ho.kept (row := some rb) ⟨rfl, rfl, rfl, by rw [World.size_setCell]; exact Nat.le_refl _, fun k hk hr => Below.heap_setCell W' ⟨rb, 4, none⟩ NV' k (fun q => hr (congrArg some (show k = rb from q)))⟩ (.inr hne')
  exact ⟨hrs, hG.setCell (.inl rfl) _⟩
theorem Post.cont {wP W W1 : World} {rb e : Nat} {ts : List Tok} {K : Int} {nm : ByteArray} {NV : Value} {ns : List Int} {at_ : Int} {p1 : List (List UInt8)} (h : Post wP rb e p1 ts K nm NV ns at_ W (.returned (.tuple #[])) W1) (hl : p1.getLast? ≠ some [100]) :
    matchB ts p1 = p1.length ∧ ∃ A' n' c' nm' NV' ns', RS wP rb e A' n' c' (ts.drop p1.length) K nm' NV' ns' at_ W1 ∧ ns' = ns ++ nsB false ts p1 ∧
      (∀ e1 W2 p2, Post wP rb e p2 (ts.drop p1.length) K nm' NV' ns' at_ W1 e1 W2 → Post wP rb e (p1 ++ p2) ts K nm NV ns at_ W e1 W2) := by
  obtain ⟨A', n', c', nm', NV', ns', h1, h2, h3, h4⟩ := h
  rcases h4 with ⟨h5, h5', h6, h7⟩ | ⟨_, h5⟩
  · refine ⟨h5, A', n', c', nm', NV', ns', h5 ▸ h1, h7, fun e1 W2 p2 hp => ?_⟩
    obtain ⟨A2, n2, c2, nm2, NV2, ns2, g1, g2, g3, g4⟩ := hp
    have hma : matchB ts (p1 ++ p2) = p1.length + matchB (ts.drop p1.length) p2 := by rw [match_append, if_pos h5]
    have hd : ts.drop (matchB ts (p1 ++ p2)) = (ts.drop p1.length).drop (matchB (ts.drop p1.length) p2) := by rw [hma, List.drop_drop]
    refine ⟨A2, n2, c2, nm2, NV2, ns2, by rw [hd]; exact g1, h2.trans g2 ?_, ?_, ?_⟩
    · rcases h3 with h | ⟨k, h, hk⟩
      · exact .inr (.inl h)
      · exact .inr (.inr ⟨k, h, hk⟩)
    · rcases g3 with g | ⟨k, g, hk⟩
      · rcases h3 with h | ⟨k, h, hk⟩
        · exact .inl (g.trans h)
        · exact .inr ⟨k, g.trans h, hk⟩
      · exact .inr ⟨k, g, Nat.le_trans h2.size hk⟩
    · rcases g4 with ⟨q1, q2, q3, q4⟩ | ⟨q1, q2⟩
      · refine .inl ⟨by rw [hma, q1, List.length_append], q2, ?_, ?_⟩
        · rw [q3, h6, nm_append p1 p2 ts nm h5]
        · rw [q4, h7, ns_append p1 p2 ts false h5 hl (.inl rfl), List.append_assoc]
      · exact .inr ⟨by rw [hma, List.length_append]; omega, by rw [hd]; exact q2⟩
  · cases h5
theorem Post.start {wP W0 W W1 : World} {rb e : Nat} {ts : List Tok} {K : Int} {nm : ByteArray} {NV : Value} {ns : List Int} {at_ : Int} {p1 : List (List UInt8)} {e1 : Ending} (h : Post wP rb e p1 ts K nm NV ns at_ W e1 W1) (hg : Gr rb none W0 W) : Post wP rb e p1 ts K nm NV ns at_ W0 e1 W1 := by
  obtain ⟨A', n', c', nm', NV', ns', h1, h2, h3, h4⟩ := h
  refine ⟨A', n', c', nm', NV', ns', h1, hg.more.trans h2 (.inr (.inl rfl)), ?_, h4⟩
  rcases h3 with h | ⟨k, h, hk⟩
  · exact .inl h
  · exact .inr ⟨k, h, Nat.le_trans hg.size hk⟩
/-- A number read. -/
theorem one_num {wP W W1 W2 : World} {rb e n c : Nat} {A : Option Addr} {t : Tok} {r : List Tok} {K : Int} {nm : ByteArray} {NV NV' : Value} {ns : List Int} {at_ : Int} (hk : t.kind = 2) (h : RS wP rb e A n c r K nm NV ns at_ W1) (hg : Gr rb none W W1)
    (hw : W1.grownBy W2 NV.ownBlock) (ho : W2.ownsRow wP.heap.size 3 1 NV' (ns.length + 1) (ns.map iv ++ [iv (t.n : Nat)])) (hb : NV'.ownBlock = NV.ownBlock ∨ NV'.ownBlock = some W1.heap.size) :
    Post wP rb e [[35]] (t :: r) K nm NV ns at_ W (.returned (.tuple #[])) (W2.setCell ⟨rb, 4, none⟩ NV') := by
  have hf : fitsB t [35] = true := by unfold fitsB; rw [if_pos rfl, decide_eq_true_eq]; exact hk
  have hm : matchB (t :: r) [[35]] = 1 := by simp only [matchB]; rw [if_pos hf]
  have ho' : W2.ownsRow wP.heap.size 3 1 NV' (ns ++ [((t.n : Nat) : Int)]).length ((ns ++ [((t.n : Nat) : Int)]).map iv) := by rw [List.length_append, List.map_append]; exact ho
  obtain ⟨h1, h2⟩ := h.nums hw ho'
  refine ⟨A, n, c, nm, NV', ns ++ [((t.n : Nat) : Int)], by rw [hm]; exact h1, hg.more.trans h2 (.inr (.inl rfl)), ?_, .inl ⟨hm, rfl, ?_, ?_⟩⟩
  · rcases hb with hb | hb
    · exact .inl hb
    · exact .inr ⟨_, hb, hg.size⟩
  · cases r <;> rfl
  · cases r <;> rfl
theorem match_num {ts : List Tok} {e : Nat} (hk : (nextT ts e).kind ≠ 2) : matchB ts [[35]] = 0 := by
  cases ts with
  | nil => rfl
  | cons t r => exact match_no (by unfold fitsB; rw [if_pos rfl]; exact decide_eq_false hk)
theorem no_num {wP W W1 : World} {rb e n c : Nat} {A : Option Addr} {ts : List Tok} {K : Int} {nm : ByteArray} {NV : Value} {ns : List Int} {at_ : Int} (hk : (nextT ts e).kind ≠ 2) (h : RS wP rb e A n c ts K nm NV ns at_ W) (hb : Below W.heap.size W W1) :
    Post wP rb e [[35]] ts K nm NV ns at_ W (pvE (nextT ts e).pos) W1 := by
  exact post_no h hb (match_num hk)
theorem arr26 {tm : Array Value} (h : tm.size = 26) : ∃ t0 t1 t2 t3 t4 t5 t6 t7 t8 t9 t10 t11 t12 t13 t14 t15 t16 t17 t18 t19 t20 t21 t22 t23 t24 t25, tm = #[t0, t1, t2, t3, t4, t5, t6, t7, t8, t9, t10, t11, t12, t13, t14, t15, t16, t17, t18, t19, t20, t21, t22, t23, t24, t25] := by
  obtain ⟨l⟩ := tm
  match l, h with
  | [t0, t1, t2, t3, t4, t5, t6, t7, t8, t9, t10, t11, t12, t13, t14, t15, t16, t17, t18, t19, t20, t21, t22, t23, t24, t25], _ => exact ⟨t0, t1, t2, t3, t4, t5, t6, t7, t8, t9, t10, t11, t12, t13, t14, t15, t16, t17, t18, t19, t20, t21, t22, t23, t24, t25, rfl⟩
theorem append_wp {P : Program} {o : Oper} {a : Act} {w : World} {K : Act → World → Prop} {Q : Exit → Act → World → Prop} (hgd : o.guard = none) (s x : Operand) (t : TypeId)
    (ho : o.op = .call { callee := .builtin .append, args := #[s, x], argTypes := #[t, t] })
    (base : Nat) (e : TypeId) (i : TypeInfo) (z : Value) (size bytes : Nat) (ht : P.underlying t = some (.slice e)) (hi : P.info? e = some i) (hz : i.zero = some z)
    (hsize : i.size = size) (hby : i.bytes = bytes) (hzs : z.cells.size = size) (hsz : 0 < size)
    (v : Value) (n : Nat) (xs : List Value) (hs : a.eval s = v) (hown : w.ownsRow base e size v n xs)
    (B : Nat) (A : Option Addr) (m c : Nat) (news : List Value) (hx : a.eval x = .slice A m c) (hr : Rd w B size A m news) (h1 : ∀ u ∈ news, u.oneCell' = true)
    (h63 : n + m ≤ maxLen) (hbytes : (n + m) * bytes ≤ 140737488355328) (hbase : base ≤ w.heap.size)
    (h : ∀ A' c' w', w'.ownsRow base e size (.slice A' (n + m) c') (n + m) (xs ++ news) → (0 < n + m → ∃ g, A' = some ⟨g, 0, none⟩) → w.grownBy w' v.ownBlock → ((Value.slice A' (n + m) c').ownBlock = v.ownBlock ∨ (Value.slice A' (n + m) c').ownBlock = some w.heap.size) → K (a.put o.dst (.slice A' (n + m) c')) w') :
    Oper.wp P o a w K Q := by
  have := step_append_rd2 (ops := #[]) (E := True) (Q := Q) (P := P) w hgd s x t ho base e i z size bytes ht hi hz hsize hby hzs hsz v n xs hs hown B A m c news hx hr h1 h63 hbytes hbase h
  rwa [if_pos (by simp [Region.wanted, hgd])] at this
/-- What is known in a round of numbers when s of the five have come. -/
structure CHN (wP : World) (rb e : Nat) (A : Option Addr) (n c : Nat) (ts : List Tok) (K : Int) (nm : ByteArray) (NV : Value) (ns : List Int) (at_ : Int) (W : World) (t : Tok) (s : Nat) (f : Nat → Value) (W' : World) : Prop where
  c15 : 0 < s → f 15 = .agg (tokA t)
  c18 : 1 < s → f 18 = .agg (tokA t)
  cN : s ≤ 3 → W'.cell? ⟨rb, 4, none⟩ = some NV
  s0 : s = 0 → W' = W
  s1 : s = 1 → Below W.heap.size W W'
  s2 : 1 < s → t.kind = 2 ∧ ∃ r, ts = t :: r
  s3 : s = 2 → RS wP rb e (cutA A c 1) (n - 1) (c - 1) ts.tail K nm NV ns at_ W' ∧ Gr rb none W W'
  s4 : s = 3 → RS wP rb e (cutA A c 1) (n - 1) (c - 1) ts.tail K nm NV ns at_ W' ∧ Gr rb none W W' ∧ ∃ Ad B, f 20 = .slice Ad 1 1 ∧ Rd W' B 1 Ad 1 [iv (t.n : Nat)]
  s5 : s = 4 → ∃ A5 c5 W1, f 21 = .slice A5 (ns.length + 1) c5 ∧ RS wP rb e (cutA A c 1) (n - 1) (c - 1) ts.tail K nm NV ns at_ W1 ∧ Gr rb none W W1 ∧ W1.grownBy W' NV.ownBlock ∧ W'.ownsRow wP.heap.size 3 1 (.slice A5 (ns.length + 1) c5) (ns.length + 1) (ns.map iv ++ [iv (t.n : Nat)]) ∧ ((Value.slice A5 (ns.length + 1) c5).ownBlock = NV.ownBlock ∨ (Value.slice A5 (ns.length + 1) c5).ownBlock = some W1.heap.size)
  s6 : s = 5 → Post wP rb e [[35]] ts K nm NV ns at_ W (.returned (.tuple #[])) W'
theorem CHN.same {wP : World} {rb e : Nat} {A : Option Addr} {n c : Nat} {ts : List Tok} {K : Int} {nm : ByteArray} {NV : Value} {ns : List Int} {at_ : Int} {W : World} {t : Tok} {s : Nat} {f g : Nat → Value} {W' : World} (h15 : f 15 = g 15) (h18 : f 18 = g 18) (h20 : f 20 = g 20) (h21 : f 21 = g 21)
    (h : CHN wP rb e A n c ts K nm NV ns at_ W t s f W') : CHN wP rb e A n c ts K nm NV ns at_ W t s g W' :=
  ⟨fun q => h15 ▸ h.c15 q, fun q => h18 ▸ h.c18 q, h.cN, h.s0, h.s1, h.s2, h.s3, fun q => h20 ▸ h.s4 q, fun q => h21 ▸ h.s5 q, h.s6⟩
set_option maxRecDepth 100000 in
set_option maxHeartbeats 2000000 in
theorem nums_val {wP W : World} {rb e n c : Nat} {A : Option Addr} {ts : List Tok} {K : Int} {nm : ByteArray} {NV : Value} {ns : List Int} {at_ : Int} (many : Nat) (hm : many ≤ 10) (hl : ns.length ≤ 20) (hw : Wf ts)
    (h : RS wP rb e A n c ts K nm NV ns at_ W) :
    Calls Tryd.prog 56 #[.pointer (some ⟨rb, 0, none⟩), .int .i64 (many : Nat)] W (Post wP rb e (rep many) ts K nm NV ns at_ W) := by
  have HS := Lib.hid h
  obtain ⟨i0, hi, hz0, hz1, hz2⟩ := info_parts info_int
  clear h
  go_enter Tryd.func56, Tryd.ntmps56
  go_wp2_with fail
  go_loopw [5] (fun i wr => ∃ j : Nat, j ≤ many ∧ i = i64 (j : Nat) ∧ Hid (Post wP rb e (rep j) ts K nm NV ns at_ W (.returned (.tuple #[])) wr)) (fun i _ => many - (intOf i).toNat)
  case atStart => exact ⟨0, Nat.zero_le _, rfl, Lib.hid HS.out.post0⟩
  case round =>
    obtain ⟨j, hj, rfl, HP⟩ := hrel
    by_cases hlt : j < many
    · have hlt' : (j : Int) < (many : Int) := by omega
      obtain ⟨hmj, A', n', c', nm', NV', ns', hr, hnl, hct⟩ := HP.out.cont (rep_last j)
      rw [rep_len] at hmj hr hct
      have hnl2 : ns'.length ≤ 30 := by rw [hnl, List.length_append, nsB_rep j ts hmj]; omega
      obtain ⟨NA, nc, hNV, _⟩ := own_form hr.own
      subst hNV
      have hup0 := (Below.refl wr.heap.size wr).drew
      have HR0 := Lib.hid (hr.up hup0)
      have HU0 := Lib.hid hup0
      have hr0 := Lib.hid hr
      have HCT := Lib.hid hct
      have HWF := Lib.hid (hw.drop j)
      clear hct hmj hnl hr hup0
      obtain ⟨ts', hts⟩ : ∃ ts', ts.drop j = ts' := ⟨_, rfl⟩
      rw [hts] at HR0 HCT HWF hr0
      have HMZ : Hid ((nextT ts' e).kind ≠ 2 → matchB ts' [[35]] < [[(35 : UInt8)]].length) := Lib.hid (fun q => by rw [match_num q]; decide)
      clear hts
      obtain ⟨⟨tk, tx, tn, tp⟩, ht⟩ : ∃ t, nextT ts' e = t := ⟨_, rfl⟩
      go_wp2_with fail
      refine wp_region_stg1 26 [8, 11, 13, 14, 18] [5, 5, 5, 5, 5, 3, 5, 5, 5, 5, 5, 5, 5, 5, 5, 5, 5, 5, 5] (fun m => [.pointer (some ⟨rb, 0, none⟩), .pointer (some ⟨rb, 0, none⟩), .pointer (some ⟨rb, 0, none⟩), .pointer (some ⟨rb, 2, none⟩), .pointer (some ⟨rb, 4, none⟩), .slice NA ns'.length nc, .pointer (some ⟨rb, 0, none⟩), .pointer (some ⟨rb, 0, none⟩), undef, .int .i64 (tk : Nat), .bool ((tk : Int) == 2), undef, .int .i64 (tn : Nat), undef, undef, .pointer (some ⟨rb, 0, none⟩), .pointer (some ⟨rb, 2, none⟩), .pointer (some ⟨rb, 4, none⟩), undef].getD m undef) (CHN wP rb e A' n' c' ts' K nm' (.slice NA ns'.length nc) ns' at_ wr.drew ⟨tk, tx, tn, tp⟩) rfl (by kernel_rfl) rfl (by kernel_rfl) (by kernel_rfl) (by kernel_rfl) ?_ ?_ ?_ ?_ ?_
      · intro s f g w' hfg hc
        exact hc.same (hfg 0 (by decide) 15 rfl) (hfg 1 (by decide) 18 rfl) (hfg 2 (by decide) 20 rfl) (hfg 3 (by decide) 21 rfl)
      · exact ⟨fun q => absurd q (by decide), fun q => absurd q (by decide), fun _ => HR0.out.blk.cell 4, fun _ => rfl, fun q => absurd q (by decide), fun q => absurd q (by decide), fun q => absurd q (by decide), fun q => absurd q (by decide), fun q => absurd q (by decide), fun q => absurd q (by decide)⟩
      · refine ⟨?_, ?_, ?_, ?_, ?_, ?_, ?_, ?_, ?_, ?_, ?_, ?_, ?_, ?_, ?_, ?_, ?_, ?_, ?_, ?_⟩
        · intro _ s f a2 w2 hs hd hr hlo hc
          have d0 := ev_of (show a2.eval (.tmp 0) = .pointer (some ⟨rb, 0, none⟩) from hr 0 (by decide))
          clear hd hr hlo hc hs
          go_simp
        · intro _ s f a2 w2 hs hd hr hlo hc
          have d0 := ev_of (show a2.eval (.tmp 0) = .pointer (some ⟨rb, 0, none⟩) from hr 0 (by decide))
          clear hd hr hlo hc hs
          go_simp
        · intro _ s f a2 w2 hs hd hr hlo hc
          have d8 := ev_of (show a2.eval (.tmp 8) = .pointer (some ⟨rb, 0, none⟩) from hd ⟨1, .data⟩ (by simp) rfl 8 rfl)
          clear hd hr hlo hc hs
          go_simp
        · intro _ s f a2 w2 hs hd hr hlo hc
          have d9 := ev_of (show a2.eval (.tmp 9) = .pointer (some ⟨rb, 0, none⟩) from hd ⟨2, .data⟩ (by simp) rfl 9 rfl)
          clear hd hr hlo hc hs
          go_simp
        · intro _ s f a2 w2 hs hd hr hlo hc
          have d10 := ev_of (show a2.eval (.tmp 10) = .pointer (some ⟨rb, 2, none⟩) from hd ⟨3, .data⟩ (by simp) rfl 10 rfl)
          clear hd hr hlo hc hs
          go_simp
        · intro _ s f a2 w2 hs hd hr hlo hc
          have d11 := ev_of (show a2.eval (.tmp 11) = .pointer (some ⟨rb, 4, none⟩) from hd ⟨4, .data⟩ (by simp) rfl 11 rfl)
          have cN := hc.cN hs
          clear hd hr hlo hc hs
          go_simp
        · intro _ s f a2 w2 hs hd hr hlo hc
          have d0 := ev_of (show a2.eval (.tmp 0) = .pointer (some ⟨rb, 0, none⟩) from hr 0 (by decide))
          clear hd hr hlo hc hs
          go_simp
        · intro _ s f a2 w2 hs hd hr hlo hc
          have d0 := ev_of (show a2.eval (.tmp 0) = .pointer (some ⟨rb, 0, none⟩) from hr 0 (by decide))
          clear hd hr hlo hc hs
          go_simp
        · exact fun h => absurd (by decide) h
        · intro _ s f a2 w2 hs hd hr hlo hc
          have c1 : f 15 = .agg #[.int .i64 (tk : Nat), .string tx, .int .i64 (tn : Nat), .int .i64 (tp : Nat)] := hc.c15 (hlo ⟨8, .data⟩ (by simp) rfl 0 (by decide) rfl)
          have d15 := ev_of (show a2.eval (.tmp 15) = f 15 from hd ⟨8, .data⟩ (by simp) rfl 15 rfl)
          rw [c1] at d15
          have hfd := tok_f0 (.int .i64 (tk : Nat)) (.string tx) (.int .i64 (tn : Nat)) (.int .i64 (tp : Nat))
          clear hd hr hlo hc hs
          go_simp
        · intro _ s f a2 w2 hs hd hr hlo hc
          have d16 := ev_of (show a2.eval (.tmp 16) = .int .i64 (tk : Nat) from hd ⟨9, .data⟩ (by simp) rfl 16 rfl)
          clear hd hr hlo hc hs
          go_simp
        · exact fun h => absurd (by decide) h
        · intro _ s f a2 w2 hs hd hr hlo hc
          have c1 : f 18 = .agg #[.int .i64 (tk : Nat), .string tx, .int .i64 (tn : Nat), .int .i64 (tp : Nat)] := hc.c18 (hlo ⟨11, .data⟩ (by simp) rfl 1 (by decide) rfl)
          have d18 := ev_of (show a2.eval (.tmp 18) = f 18 from hd ⟨11, .data⟩ (by simp) rfl 18 rfl)
          rw [c1] at d18
          have hfd := tok_f2 (.int .i64 (tk : Nat)) (.string tx) (.int .i64 (tn : Nat)) (.int .i64 (tp : Nat))
          clear hd hr hlo hc hs
          go_simp
        · exact fun h => absurd (by decide) h
        · exact fun h => absurd (by decide) h
        · intro _ s f a2 w2 hs hd hr hlo hc
          have d7 := ev_of (show a2.eval (.tmp 7) = .pointer (some ⟨rb, 0, none⟩) from hd ⟨0, .data⟩ (by simp) rfl 7 rfl)
          clear hd hr hlo hc hs
          go_simp
        · intro _ s f a2 w2 hs hd hr hlo hc
          have d22 := ev_of (show a2.eval (.tmp 22) = .pointer (some ⟨rb, 0, none⟩) from hd ⟨15, .data⟩ (by simp) rfl 22 rfl)
          clear hd hr hlo hc hs
          go_simp
        · intro _ s f a2 w2 hs hd hr hlo hc
          have d23 := ev_of (show a2.eval (.tmp 23) = .pointer (some ⟨rb, 2, none⟩) from hd ⟨16, .data⟩ (by simp) rfl 23 rfl)
          clear hd hr hlo hc hs
          go_simp
        · exact fun h => absurd (by decide) h
        · trivial
      · intro s hs o ho f a2 w2 hd hr hdef hc
        match s, hs with
        | 0, _ =>
          obtain rfl := Option.some.inj ho
          have d14 := ev_of (show a2.eval (.tmp 14) = .pointer (some ⟨rb, 0, none⟩) from hd ⟨7, .data⟩ (by simp) rfl 14 rfl)
          obtain rfl := hc.s0 rfl
          have HN := Lib.hid (next_val HR0.out)
          rw [ht] at HN
          clear hd hr hdef
          go_simp
          refine HN.out.mono ?_
          rintro e1 w1 ⟨rfl, hw1⟩
          have hb1 : Below wr.drew.heap.size wr.drew w1 := by rw [hw1]; exact (Below.refl _ _).alloc (Nat.le_refl _) _
          exact ⟨_, rfl, fun _ => rfl, fun q => absurd q (by decide), fun _ => (HR0.out.up hb1).blk.cell 4, fun q => absurd q (by decide), fun _ => hb1, fun q => absurd q (by decide), fun q => absurd q (by decide), fun q => absurd q (by decide), fun q => absurd q (by decide), fun q => absurd q (by decide)⟩
        | 1, _ =>
          obtain rfl := Option.some.inj ho
          have d13 := ev_of (show a2.eval (.tmp 13) = .pointer (some ⟨rb, 0, none⟩) from hd ⟨6, .data⟩ (by simp) rfl 13 rfl)
          have d17 := ev_of (show a2.eval (.tmp 17) = .bool ((tk : Int) == 2) from hd ⟨10, .data⟩ (by simp) rfl 17 rfl)
          have hb1 := hc.s1 rfl
          have HDF : a2.defers = [] := hdef
          have HC15 := hc.c15 (by decide)
          have HR1 := Lib.hid (HR0.out.up hb1)
          have HB1 := Lib.hid hb1
          clear hd hr hdef hc hb1
          by_cases hk : tk = 2
          · subst hk
            obtain ⟨r, rfl⟩ : ∃ r, ts' = ⟨2, tx, tn, tp⟩ :: r := by
              cases ts' with
              | nil => cases ht
              | cons t r => exact ⟨r, by rw [show t = _ from ht]⟩
            have HQ := Lib.hid (need_ok HR1.out)
            have d17' : a2.tmps[17]?.getD undef = .bool true := d17
            clear d17
            go_simp
            refine HQ.out.mono ?_
            rintro e2 w3 ⟨rfl, hr2, hg2⟩
            exact ⟨_, rfl, fun _ => HC15, fun _ => rfl, fun _ => hr2.blk.cell 4, fun q => absurd q (by decide), fun q => absurd q (by decide), fun _ => ⟨rfl, r, rfl⟩, fun _ => ⟨hr2, (Gr.of_below (r2 := none) HB1.out).trans hg2 (.inl rfl)⟩, fun q => absurd q (by decide), fun q => absurd q (by decide), fun q => absurd q (by decide)⟩
          · have HQ := Lib.hid (need_no HR1.out)
            have f1 : ((tk : Int) == 2) = false := by rw [beq_eq_false_iff_ne]; omega
            rw [f1] at d17
            go_simp
            refine HQ.out.mono ?_
            rintro e2 w3 ⟨rfl, hb2⟩
            have HP1 := HCT.out _ _ _ ((no_num (by rw [ht]; exact hk) (hr0.out) (below_trans' HU0.out (below_trans' HB1.out hb2))).fail (p2 := rep (many - j - 1)) (HMZ.out (by rw [ht]; exact hk)))
            rw [← rep_split hlt] at HP1
            exact ⟨HDF, HP1⟩
        | 2, _ =>
          obtain rfl := Option.some.inj ho
          have d19 := ev_of (show a2.eval (.tmp 19) = .int .i64 (tn : Nat) from hd ⟨12, .data⟩ (by simp) rfl 19 rfl)
          have HC15 := hc.c15 (by decide)
          have HC18 := hc.c18 (by decide)
          have HC2 := Lib.hid (hc.s2 (by decide))
          have HC3 := Lib.hid (hc.s3 rfl)
          clear hd hr hdef hc
          go_simp
          exact ⟨_, rfl, fun _ => HC15, fun _ => HC18, fun _ => (HC3.out.1.up ((Below.refl w2.heap.size w2).alloc (Nat.le_refl _) _)).blk.cell 4, fun q => absurd q (by decide), fun q => absurd q (by decide), fun _ => HC2.out, fun q => absurd q (by decide), fun _ => ⟨HC3.out.1.up ((Below.refl w2.heap.size w2).alloc (Nat.le_refl _) _), HC3.out.2.alloc _, _, _, rfl, rd_fresh w2 3 #[.int .i64 (tn : Nat)] 1 1 [.int .i64 (tn : Nat)] rfl rfl⟩, fun q => absurd q (by decide), fun q => absurd q (by decide)⟩
        | 3, _ =>
          obtain rfl := Option.some.inj ho
          have d12 := ev_of (show a2.eval (.tmp 12) = .slice NA ns'.length nc from hd ⟨5, .data⟩ (by simp) rfl 12 rfl)
          have d20' : a2.eval (.tmp 20) = f 20 := hd ⟨13, .data⟩ (by simp) rfl 20 rfl
          have HC15 := hc.c15 (by decide)
          have HC18 := hc.c18 (by decide)
          have HC2 := Lib.hid (hc.s2 (by decide))
          obtain ⟨hr3, hg3, Ad, B, hf20, hrd⟩ := hc.s4 rfl
          refine append_wp rfl (.tmp 12) (.tmp 20) _ rfl wP.heap.size 3 i0 _ 1 8 Tryd.underlying44 hi hz0 hz1 hz2 rfl (by decide) _ ns'.length _ (hd ⟨5, .data⟩ (by simp) rfl 12 rfl) hr3.own _ Ad 1 1 _ (d20'.trans hf20) hrd (fun u hu => by rw [List.mem_singleton.1 hu]; rfl) (by simp only [maxLen]; omega) (by omega) hr3.bel.size ?_
          intro A5 c5 w5 hown hfm hg hblk
          exact ⟨_, rfl, fun _ => HC15, fun _ => HC18, fun q => absurd q (by decide), fun q => absurd q (by decide), fun q => absurd q (by decide), fun _ => HC2.out, fun q => absurd q (by decide), fun q => absurd q (by decide), fun _ => ⟨A5, c5, _, rfl, hr3, hg3, hg, hown, hblk⟩, fun q => absurd q (by decide)⟩
        | 4, _ =>
          obtain rfl := Option.some.inj ho
          obtain ⟨A5, c5, W1, hf21, hr5, hg5, hgb, hown, hblk⟩ := hc.s5 rfl
          have d24 := ev_of (show a2.eval (.tmp 24) = .pointer (some ⟨rb, 4, none⟩) from hd ⟨17, .data⟩ (by simp) rfl 24 rfl)
          have d21 := ev_of ((show a2.eval (.tmp 21) = f 21 from hd ⟨14, .data⟩ (by simp) rfl 21 rfl).trans hf21)
          have HC15 := hc.c15 (by decide)
          have HC18 := hc.c18 (by decide)
          have HC2 := Lib.hid (hc.s2 (by decide))
          have hbl := hr5.blk.grown hgb (fun q => own_ne hr5.own hr5.blk q.symm)
          have m0 := hbl.cell 4
          have m1 := hbl.frozen 4
          have HP5 : Hid (Post wP rb e [[35]] ts' K nm' (.slice NA ns'.length nc) ns' at_ wr.drew (.returned (.tuple #[])) (w2.setCell ⟨rb, 4, none⟩ (.slice A5 (ns'.length + 1) c5))) := by
            obtain ⟨hk, r, rfl⟩ := HC2.out
            exact Lib.hid (one_num hk hr5 hg5 hgb hown hblk)
          clear hd hr hdef hc hbl hf21 hr5 hg5 hgb hown hblk
          go_simp
          exact ⟨fun _ => HC15, fun _ => HC18, fun q => absurd q (by decide), fun q => absurd q (by decide), fun q => absurd q (by decide), fun _ => HC2.out, fun q => absurd q (by decide), fun q => absurd q (by decide), fun q => absurd q (by decide), fun _ => HP5.out⟩
        | s + 5, hs => exact absurd hs (by simp)
      · intro f a2 w2 hdef hsz hr hc
        have HP5 := Lib.hid (hc.s6 rfl)
        obtain ⟨tm, df⟩ := a2
        obtain ⟨t0, t1, t2, t3, t4, t5, t6, t7, t8, t9, t10, t11, t12, t13, t14, t15, t16, t17, t18, t19, t20, t21, t22, t23, t24, t25, rfl⟩ := arr26 hsz
        obtain rfl : df = [] := hdef
        obtain rfl := (show t0 = Value.pointer (some ⟨rb, 0, none⟩) from hr 0 (by decide))
        obtain rfl := (show t1 = Value.int .i64 (many : Nat) from hr 1 (by decide))
        obtain rfl := (show t2 = undef from hr 2 (by decide))
        obtain rfl := (show t3 = undef from hr 3 (by decide))
        obtain rfl := (show t4 = Value.int .i64 (many : Nat) from hr 4 (by decide))
        obtain rfl := (show t5 = i64 (j : Nat) from hr 5 (by decide))
        clear hr hsz hc
        rename_i Q1 K1 hK
        refine hK _ _ ?_
        clear hK
        go_wp2_with fail
        refine ⟨⟨j + 1, hlt, rfl, Lib.hid ?_⟩, ?_⟩
        · rw [rep_succ]
          exact HCT.out _ _ _ (HP5.out.start (Gr.of_below HU0.out))
        · show many - ((j : Int) + 1).toNat < many - ((j : Int)).toNat
          omega
    · have hlt' : ¬ (j : Int) < (many : Int) := by omega
      obtain rfl : j = many := by omega
      go_wp2_with fail
      go_end0
      exact HP.out
end Go.Proofs.YtmdogklgbifacaaDoor.Ps
