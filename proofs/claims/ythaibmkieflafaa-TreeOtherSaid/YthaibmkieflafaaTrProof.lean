/- tree.Proof, over the levels. -/
import Derived.Test.YthaibmkieflafaaTrRoot
namespace Go.Proofs.Ythaibmkieflafaa.Tr
open Go.RowKit Go.Shelf Go.Proofs.Ythaibmkieflafaa.Dig
set_option linter.unusedVariables false
attribute [local go_sem] Oper.semAt_some

theorem LK.below {x : Lv} {W W' : World} (h : Below W.heap.size W W') : LK x W W' :=
  ⟨h.size, fun g t cs fz _ h1 => (h.block g (Array.getElem?_eq_some_iff.1 h1).1).trans h1, fun k d h1 => (h.block k (Array.getElem?_eq_some_iff.1 h1).1).trans h1⟩
theorem LK.grown {x : Lv} {W W' : World} {g b n s : Nat} {e : TypeId} {v : Value} {xs : List Value} (hx : x.A = some ⟨g, 0, none⟩) (hr : W.ownsRow b e s v n xs) (hne : v.ownBlock ≠ some g) (hg : W.grownBy W' v.ownBlock) : LK x W W' := by
  refine ⟨hg.size, fun g' t' cs' fz e h1 => ?_, fun k d h1 => ?_⟩
  · rw [hx] at e
    injection e with e
    injection e with e
    subst e
    rw [hg.block _ (Array.getElem?_eq_some_iff.1 h1).1 (Ne.symm hne)]
    exact h1
  · rw [hg.block _ (Array.getElem?_eq_some_iff.1 h1).1 ?_]
    · exact h1
    · rcases hr.2 with ⟨rfl, _⟩ | ⟨g', cap, cur, rfl, _, hh, _⟩
      · simp [Value.ownBlock]
      · intro he
        obtain rfl : k = g' := by simpa [Value.ownBlock] using he
        rw [hh] at h1
        cases h1

theorem xor1 : ∀ i : Nat, i < 16 → bits .xor .i64 (i : Int) 1 = ((sib i : Nat) : Int) := by decide +kernel
theorem proof_bad (A : Option Addr) (n c B : Nat) (l : List Pg) (i : Int) (hv : okp l = false ∨ (okp l = true ∧ (i < 0 ∨ (n : Int) ≤ i))) (w : World) (hR : Pgs w B A n l) (hBw : B ≤ w.heap.size) (hn : n ≤ maxLen) :
    Calls Try.prog 29 #[.slice A n c, i64 i] w fun e w' => e = .returned (.tuple #[.slice none 0 0, i64 1]) ∧ Below w.heap.size w w' := by
  have hB := (Below.refl w.heap.size w).alloc (Nat.le_refl _) (.cells #[i64 i] 3)
  refine (callsIn_wide (n := 6)).1 ?_
  refine callsIn_of_wp_marks Try.func29 rfl trivial ?_ rfl
  simp only [Try.ntmps29, List.size_toArray, List.length_cons, List.length_nil, Nat.reduceAdd, Nat.reduceSub, Array.replicate_succ, Array.replicate_zero, List.push_toArray, List.append_toArray, List.nil_append, List.cons_append]
  have hR' := hR.below' ((Below.refl w.heap.size w).alloc (Nat.le_refl _) (.cells #[i64 i] 3)) hBw
  have k0 := (Blk.new w 3 #[i64 i]).cell 0
  rcases hv with hv | ⟨hv, h1 | h1⟩
  · gi_wp2_with fail
    refine ⟨trivial, (callsIn_wide.2 (arePages_val A n c B l false hv _ hR' hn)).mono ?_⟩
    rintro e w1 ⟨rfl, rfl⟩
    gi_wp2_with fail
    exact ⟨_, results_tmp2 rfl _ _ _, rfl, hB⟩
  · gi_wp2_with fail
    refine ⟨trivial, (callsIn_wide.2 (arePages_val A n c B l true hv _ hR' hn)).mono ?_⟩
    rintro e w1 ⟨rfl, rfl⟩
    gi_wp2_with fail
    exact ⟨_, results_tmp2 rfl _ _ _, rfl, hB⟩
  · by_cases h0 : i < 0
    · gi_wp2_with fail
      refine ⟨trivial, (callsIn_wide.2 (arePages_val A n c B l true hv _ hR' hn)).mono ?_⟩
      rintro e w1 ⟨rfl, rfl⟩
      gi_wp2_with fail
      exact ⟨_, results_tmp2 rfl _ _ _, rfl, hB⟩
    · gi_wp2_with fail
      refine ⟨trivial, (callsIn_wide.2 (arePages_val A n c B l true hv _ hR' hn)).mono ?_⟩
      rintro e w1 ⟨rfl, rfl⟩
      gi_wp2_with fail
      exact ⟨_, results_tmp2 rfl _ _ _, rfl, hB⟩

/-- Proof's cells when some levels have come. -/
def PI (S : Nat) (ls : List UInt64) (i : Nat) (pre : List Lv) (W : World) : Prop :=
  Blk W S 3 #[i64 (i / 2 ^ pre.length : Nat)] ∧ ∃ Y q, Blk W (S + 1) 39 #[.slice Y (prk ls i pre.length).length q] ∧ W.ownsRow S 23 1 (.slice Y (prk ls i pre.length).length q) (prk ls i pre.length).length ((prk ls i pre.length).map u64)
theorem PI.own (S : Nat) (ls : List UInt64) (i : Nat) : Own (PI S ls i) := fun _ _ _ _ ⟨h1, Y, q, h2, h3⟩ hg hr => ⟨blk_own h1 hg hr, Y, q, blk_own h2 hg hr, row_own h3 hg hr⟩

set_option maxRecDepth 100000 in
set_option maxHeartbeats 4000000 in
theorem proof_good (A : Option Addr) (n c : Nat) (l : List Pg) (i : Nat) (hv : okp l = true) (hi : i < n) (w : World) (hR : Pgs w w.heap.size A n l) (hn : n ≤ maxLen) :
    Calls Try.prog 29 #[.slice A n c, i64 (i : Nat)] w fun e w' => ∃ X m k, e = .returned (.tuple #[.slice X m k, i64 0]) ∧ m = (prf (lvs l) i).length ∧ Rd w' w'.heap.size 1 X m ((prf (lvs l) i).map u64) ∧ m ≤ k ∧ k ≤ maxLen ∧ Below w.heap.size w w' := by
  have hok : 1 ≤ n ∧ n ≤ 16 := by
    have := hR.len
    unfold okp at hv
    simp only [Bool.and_eq_true, decide_eq_true_eq] at hv
    omega
  have hln : (lvs l).length = n := by rw [lvs_length, hR.len]
  have hls : 0 < (lvs l).length := by omega
  have hB1 := (Below.refl w.heap.size w).alloc (Nat.le_refl _) (.cells #[i64 (i : Nat)] 3)
  have k0 := (Blk.new w 3 #[i64 (i : Nat)]).cell 0
  obtain ⟨ib, hib, hz0, hz1, hz2⟩ := info_parts info_u64
  have hi0 : (0 : Int) ≤ (i : Int) := by omega
  have hi1 : ((i : Nat) : Int) < n := by omega
  refine (callsIn_wide (n := 6)).1 ?_
  refine callsIn_of_wp_marks Try.func29 rfl trivial ?_ rfl
  simp only [Try.ntmps29, List.size_toArray, List.length_cons, List.length_nil, Nat.reduceAdd, Nat.reduceSub, Array.replicate_succ, Array.replicate_zero, List.push_toArray, List.append_toArray, List.nil_append, List.cons_append]
  gi_wp2_with fail
  refine ⟨trivial, (callsIn_wide.2 (arePages_val A n c _ l true hv _ (hR.below' hB1 (Nat.le_refl _)) hn)).mono ?_⟩
  rintro e w1 ⟨rfl, rfl⟩
  gi_wp2_with fail
  refine ⟨trivial, (levels_in _ _ _ _ _ rfl).mono ?_⟩
  rintro e w1 ⟨rfl, rfl⟩
  gi_wp2_with fail
  have b0 := ((Blk.new w 3 #[i64 (i : Nat)]).alloc (.cells #[.slice none 0 0] 39)).alloc (.cells #[.slice A n c] 38)
  have b1 := (Blk.new (w.alloc (.cells #[i64 (i : Nat)] 3)) 39 #[.slice none 0 0]).alloc (.cells #[.slice A n c] 38)
  have b2 := Blk.new ((w.alloc (.cells #[i64 (i : Nat)] 3)).alloc (.cells #[.slice none 0 0] 39)) 38 #[.slice A n c]
  simp only [World.size_alloc] at b1 b2
  have hB := (hB1.alloc (by simp) (.cells #[.slice none 0 0] 39)).alloc (by simp; omega) (.cells #[.slice A n c] 38)
  have hz : (((w.alloc (.cells #[i64 (i : Nat)] 3)).alloc (.cells #[.slice none 0 0] 39)).alloc (.cells #[.slice A n c] 38)).heap.size = w.heap.size + 3 := by simp
  obtain ⟨W0, hW0⟩ : ∃ W0, ((w.alloc (.cells #[i64 (i : Nat)] 3)).alloc (.cells #[.slice none 0 0] 39)).alloc (.cells #[.slice A n c] 38) = W0 := ⟨_, rfl⟩
  rw [hW0] at b0 b1 b2 hB hz
  rw [hW0]
  clear hW0 k0 hB1
  refine wpIn_rv [(7, 24)] (fun x : Lv => [(24, x.v)]) (gf := 52) (lb := #[.pointer (some ⟨w.heap.size + 1 + 1, 0, none⟩)]) rfl (enters_of Try.func52 (by kernel_rfl) rfl)
    (levels_seq (w.heap.size + 1 + 1) w.heap.size n c A l hok.1 hok.2 W0 b2 (hR.below' hB (Nat.le_refl _)) (by omega)) (fun h k => h.trans k) (fun x W l r o' _ hW => LK.put x W l r o' hW) (fun _ => rfl) (fun pre x h => LV.own _ _ pre x h)
    (fun pre W => PI w.heap.size (lvs l) i pre W ∧ Below w.heap.size w W) (OwnFrom.and (Own.from (PI.own _ _ _) _) (ownFrom_below (Nat.le_refl _) (by omega)))
    ⟨⟨by simpa using b0, none, 0, b1, ⟨rfl, .inl ⟨rfl, rfl⟩⟩⟩, hB⟩ ?assign ?body ?done
  case assign =>
    intro l₁ x W K hK
    simp only [rfL, List.foldl_cons, List.foldl_nil, List.set_cons_succ, List.set_cons_zero, List.getD_cons_succ, List.getD_cons_zero] at hK
    gi_wp2
    exact hK
  case body =>
    rintro l₁ pre x Wp W ⟨⟨p1, Y, q, p2, p3⟩, hBw⟩ hs hBp hV
    obtain ⟨g, c', hx, hxA, hg, hgW, _, hcell⟩ := hV.form hls
    simp only [rfL, List.foldl_cons, List.foldl_nil, List.set_cons_succ, List.set_cons_zero, List.getD_cons_succ, List.getD_cons_zero]
    rw [hx]
    have hlt := hV.1
    have ha : i / 2 ^ pre.length ≤ i := Nat.div_le_self _ _
    have hpw : i / 2 ^ (pre ++ [x]).length = i / 2 ^ pre.length / 2 := by rw [List.length_append, show [x].length = 1 from rfl, Nat.pow_succ, Nat.div_div_eq_div_mul]
    have hpk : prk (lvs l) i (pre ++ [x]).length = prk (lvs l) i pre.length ++ (if sib (i / 2 ^ pre.length) < (lev (lvs l) pre.length).length then [(lev (lvs l) pre.length).getD (sib (i / 2 ^ pre.length)) 0] else []) := by rw [List.length_append]; rfl
    have hpl : (prk (lvs l) i pre.length).length ≤ 20 := by
      have h1 := prk_le (lvs l) i pre.length
      have h2 := hgt_le (lvs l)
      omega
    have hmle : (lev (lvs l) pre.length).length ≤ 16 := lev_le _ (by omega) _
    have HI : Hid (∀ W' Y' q', Blk W' w.heap.size 3 #[i64 (i / 2 ^ pre.length / 2 : Nat)] → Blk W' (w.heap.size + 1) 39 #[.slice Y' (prk (lvs l) i (pre ++ [x]).length).length q'] → W'.ownsRow w.heap.size 23 1 (.slice Y' (prk (lvs l) i (pre ++ [x]).length).length q') (prk (lvs l) i (pre ++ [x]).length).length ((prk (lvs l) i (pre ++ [x]).length).map u64) → PI w.heap.size (lvs l) i (pre ++ [x]) W') := fun W' Y' q' h1 h2 h3 => ⟨by rw [hpw]; exact h1, Y', q', h2, h3⟩
    have hne : (Value.slice Y (prk (lvs l) i pre.length).length q).ownBlock ≠ some g := fun e => by
      have := (p3.lt _ e).2
      omega
    have P1 := Lib.hid (p1.up' hBp)
    have P2 := Lib.hid (p2.up' hBp)
    have P3 := Lib.hid (own_keep p3 hBp)
    have k0 := (p1.up' hBp).cell 0
    have k1 := (p2.up' hBp).cell 0
    have hB2 := hBw.trans (hBp.mono hBw.size)
    have hxor := xor1 (i / 2 ^ pre.length) (by omega)
    simp only [List.getElem?_toArray, List.getElem?_cons_zero] at k0 k1
    clear p1 p2 p3 hV hx hpw
    generalize i / 2 ^ pre.length = a at *
    generalize prk (lvs l) i pre.length = os at *
    generalize prk (lvs l) i (pre ++ [x]).length = os' at *
    generalize hL : lev (lvs l) pre.length = ls at *
    have hup : ∀ W5 : World, ∀ a b, Below W5.heap.size W5 a → Below a.heap.size a b → Below W5.heap.size W5 b := fun W5 a b h k => below_trans' h k
    by_cases hsb : sib a < ls.length
    · rw [if_pos hsb] at hpk
      have hco : W.cell? ⟨g, sib a, none⟩ = some (u64 (ls.getD (sib a) 0)) := hcell _ hsb
      generalize ls.getD (sib a) 0 = y at *
      generalize ls.length = m at *
      generalize sib a = sb at *
      have hsb' : (sb : Int) < m := by omega
      have f0 : ∀ s : WOf (Below W.heap.size W), s.w.cell? ⟨w.heap.size + 1, 0, none⟩ = some (.slice Y os.length q) := fun s => (P2.out.up' s.ok).cell 0
      have f1 : ∀ s : WOf (Below W.heap.size W), s.w.cell? ⟨g, sb, none⟩ = some (u64 y) := fun s => (s.ok.cell (p := ⟨g, sb, none⟩) hgW).trans hco
      have HX := Lib.hid hpk
      clear hcell hco hpk
      generalize hkk : os.length = kk at *
      gi_wp2_with fail
      refine wpIn_region_fl (Below W.heap.size W) 5 (Below.refl _ _) (hup W) (by kernel_rfl) (by kernel_rfl) (fun ⟨_, _, h⟩ => h) (by kernel_rfl) (fun hnn => ?_)
      simp only [List.take_succ_cons, List.take_zero, List.drop_succ_cons, List.drop_zero]
      repeat (go_big_quiet_step (fail))
      refine wpQuiet_nil ?_
      intro s
      refine ⟨fun o ho => ?_, ?_⟩
      · obtain rfl := Option.some.inj ho
        exact ⟨_, _, build_runs 39 23 _ (u64 y) rfl ib _ Try.underlying39 hib hz0 hz1 rfl rfl, s.ok.alloc s.ok.size _⟩
      obtain ⟨wx, hwx⟩ := s
      clear f0 f1
      have hn6 := (own_keep P3.out hwx).alloc (.cells #[u64 y] 23)
      have hb6 := (P2.out.up' hwx).alloc (.cells #[u64 y] 23)
      have hc6 := (P1.out.up' hwx).alloc (.cells #[u64 y] 23)
      have hx6 : Below W.heap.size W (wx.alloc (.cells #[u64 y] 23)) := hwx.alloc hwx.size _
      have hB6 := hB2.trans (hx6.mono hB2.size)
      have hz6 := hB6.size
      have hg6 : g < (wx.alloc (.cells #[u64 y] 23)).heap.size := by have := hx6.size; omega
      go_wp2_with (at_builtin; refine wpList_append_rd _ rfl (.tmp 31) (.tmp 36) _ rfl w.heap.size 23 ib _ 1 8 Try.underlying39 hib hz0 hz1 hz2 rfl (by omega) _ _ _ rfl hn6 _ _ 1 _ _ rfl (Rd.new wx _ _ _ 1 1 rfl) (by simp [Value.oneCell']) (by simp only [maxLen]; omega) (by omega) hz6 ?_; intro Yb qb w7 hown2 _ hg2; have hb7 := blk_far_row hb6 hn6 (by decide) hg2; have hc7 := blk_far_row hc6 hn6 (by decide) hg2; have hB7 := own_below hn6 hg2 hB6 (Nat.le_refl _) hz6; have hk7 : KeepsFrom W0.heap.size W w7 := kf_trans (keepsFrom_below hx6) (keepsFrom_grown hn6 hg2); have hl7 : LK x W w7 := LK.trans (LK.below hx6) (LK.grown hxA hn6 hne hg2); clear hg2; have HO7 := Lib.hid hown2; clear hown2; have c7 := hb7.cell 0; have d7 := hb7.frozen 0)
      have hc8 := hc7.far (p := ⟨w.heap.size + 1, 0, none⟩) (by show w.heap.size ≠ w.heap.size + 1; omega) (.slice Yb (kk + 1) qb)
      have hb8 := hb7.set_ 0 (.slice Yb (kk + 1) qb)
      have hr8 := row_set HO7.out hb7 (by decide) (.slice Yb (kk + 1) qb)
      have hl8 : LK x W (w7.setCell ⟨w.heap.size + 1, 0, none⟩ (.slice Yb (kk + 1) qb)) := LK.trans hl7 (LK.of (by simp [World.setCell]) hxA hb7 (by omega) (fun k hk _ => Below.heap_setCell _ ⟨w.heap.size + 1, 0, none⟩ _ _ hk))
      have hk8 := kf_trans hk7 (keepsFrom_set (B := W0.heap.size) w7 ⟨w.heap.size + 1, 0, none⟩ (.slice Yb (kk + 1) qb))
      have hB8 := hB7.setCell (p := ⟨w.heap.size + 1, 0, none⟩) (by show w.heap.size ≤ w.heap.size + 1; omega) (.slice Yb (kk + 1) qb)
      obtain ⟨w8, hw8⟩ : ∃ w8, w7.setCell ⟨w.heap.size + 1, 0, none⟩ (.slice Yb (kk + 1) qb) = w8 := ⟨_, rfl⟩
      rw [hw8] at hc8 hb8 hr8 hl8 hk8 hB8 ⊢
      have c8 := hc8.cell 0
      have d8 := hc8.frozen 0
      simp only [List.getElem?_toArray, List.getElem?_cons_zero] at c8
      have HB8 := Lib.hid hb8
      have HC8 := Lib.hid hc8
      have HR8 := Lib.hid hr8
      have Hlen : Hid (os'.length = kk + 1) := by show _ = _; rw [HX.out, List.length_append, hkk]; rfl
      have Hls : Hid (os'.map u64 = os.map u64 ++ [u64 y]) := by show _ = _; rw [HX.out, List.map_append]; rfl
      clear hw8 hb8 hc8 hr8 hc7 hb7 HO7 hn6 hb6 hc6 hl7 hk7 c7 d7 hB7
      gi_wp2_with fail
      have e2 : ((a : Int) / 2) = ((a / 2 : Nat) : Int) := by omega
      rw [e2]
      refine ⟨kf_trans hk8 (keepsFrom_set _ _ _), LK.trans hl8 (LK.of (by simp [World.setCell]) hxA HC8.out (by omega) (fun k hk _ => Below.heap_setCell _ ⟨w.heap.size, 0, none⟩ _ _ hk)), HI.out _ Yb qb (HC8.out.set_ 0 _) ?_ ?_, hB8.setCell (p := ⟨w.heap.size, 0, none⟩) (Nat.le_refl _) _⟩
      · rw [Hlen.out]
        exact HB8.out.far (p := ⟨w.heap.size, 0, none⟩) (by show w.heap.size + 1 ≠ w.heap.size; omega) _
      · rw [Hlen.out, Hls.out]
        exact row_set HR8.out HC8.out (by decide) _
    · rw [if_neg hsb, List.append_nil] at hpk
      subst hpk
      have hsb' : ((ls.length : Nat) : Int) ≤ (sib a : Int) := by omega
      generalize ls.length = m at *
      generalize sib a = sb at *
      have hl8 : LK x W W := LK.below (Below.refl _ _)
      have d0 := P1.out.frozen 0
      clear hcell
      gi_wp2_with fail
      have e2 : ((a : Int) / 2) = ((a / 2 : Nat) : Int) := by omega
      rw [e2]
      refine ⟨keepsFrom_set _ _ _, LK.of (by simp [World.setCell]) hxA P1.out (by omega) (fun k hk _ => Below.heap_setCell _ ⟨w.heap.size, 0, none⟩ _ _ hk), HI.out _ Y q (P1.out.set_ 0 _) (P2.out.far (p := ⟨w.heap.size, 0, none⟩) (by show w.heap.size + 1 ≠ w.heap.size; omega) _) (row_set P3.out P1.out (by decide) _), hB2.setCell (p := ⟨w.heap.size, 0, none⟩) (Nat.le_refl _) _⟩
  case done =>
    rintro D ys W hD hys ⟨⟨p1, Y, q, p2, p3⟩, hB1⟩ hK
    have HP : Hid (W.ownsRow w.heap.size 23 1 (.slice Y (prf (lvs l) i).length q) (prf (lvs l) i).length ((prf (lvs l) i).map u64)) := by
      show World.ownsRow _ _ _ _ _ _ _
      rw [hys, prk_all (lvs l) i (by omega)] at p3
      exact p3
    have k0 : W.cell? ⟨w.heap.size + 1, 0, none⟩ = some (.slice Y (prf (lvs l) i).length q) := by
      rw [hys, prk_all (lvs l) i (by omega)] at p2
      exact p2.cell 0
    clear p1 p2 p3
    gi_wp2_with fail
    refine ⟨by simp, .inl ⟨_, _, rfl, run_takeDeferred hK, ?_⟩⟩
    refine ⟨_, results_tmp2 rfl _ _ _, Y, _, q, rfl, rfl, ?_, ?_, ?_, hB1.trans (belowK_b (w := W0) (by omega) W D _ _ hD hK rfl rfl)⟩
    · have := row_own HP.out (grownBy_putObj' W D (.deferred none)) (fun r e => by cases e; exact ⟨_, hK, rfl⟩)
      exact Rd.of_own this
    · rcases HP.out.2 with ⟨h, h0⟩ | ⟨g', cap, cur, h, _, _, h4, _⟩
      · rw [h0]; omega
      · injection h with _ _ h; omega
    · rcases HP.out.2 with ⟨h, h0⟩ | ⟨g', cap, cur, h, _, _, _, h4, _⟩
      · injection h with _ _ h; subst h; decide
      · injection h with _ _ h; omega
end Go.Proofs.Ythaibmkieflafaa.Tr
