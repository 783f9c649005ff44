/- medium's iterator over the radios that a listening one hears. -/
import Derived.RangeFuncNested
import Derived.RangeFuncBound
import Derived.RangeFuncCalls
import Derived.RangeFuncLeaves
import Derived.Shelf.Abstract
import Derived.Shelf.RegionOpen
import Derived.OwnWalkIn
import Derived.TacticsInMore
import Derived.LoopNIn
import Derived.LoopIn
import Derived.Test.YteeloebhjmmpdaaQt
import Derived.Test.YteeloebhjmmpdaaMdHeard2
namespace Go.Proofs.Yteeloebhjmmpdaa.Md
open Go.RowKit Go.Shelf Go.Proofs.Yteeloebhjmmpdaa.Pl
set_option linter.unusedVariables false
attribute [local go_sem] Oper.semAt_some

/-- What a round keeps: all below n₀, and the two boxes of the closure. -/
def Kp (n₀ Bw Bi : Nat) (W W' : World) : Prop := Below n₀ W W' ∧ W'.heap[Bw]? = W.heap[Bw]? ∧ W'.heap[Bi]? = W.heap[Bi]?
theorem Kp.trans {n₀ Bw Bi : Nat} {A B C : World} (h : Kp n₀ Bw Bi A B) (k : Kp n₀ Bw Bi B C) : Kp n₀ Bw Bi A C := ⟨h.1.trans k.1, k.2.1.trans h.2.1, k.2.2.trans h.2.2⟩
theorem Kp.refl (n₀ Bw Bi : Nat) (W : World) : Kp n₀ Bw Bi W W := ⟨Below.refl _ _, rfl, rfl⟩
theorem Kp.of_below {n₀ Bw Bi : Nat} {W W' : World} (hb : Below W.heap.size W W') (h0 : n₀ ≤ W.heap.size) (h1 : Bw < W.heap.size) (h2 : Bi < W.heap.size) : Kp n₀ Bw Bi W W' := ⟨hb.mono h0, hb.block _ h1, hb.block _ h2⟩

theorem Hm_le (ra : List Ac) (ps : List Pt) (r : Int) (i k : Nat) : (Hm ra ps r i k).length ≤ k := by
  unfold Hm
  exact Nat.le_trans (List.length_filter_le _ _) (by simp)
theorem Hm_prefix (ra : List Ac) (ps : List Pt) (r : Int) (i : Nat) {k n : Nat} (h : k ≤ n) : Hm ra ps r i k <+: Hm ra ps r i n := by
  induction n with
  | zero => rw [show k = 0 by omega]; exact List.prefix_refl _
  | succ n ih =>
    rcases Nat.lt_or_ge k (n + 1) with h1 | h1
    · rw [Hm_succ]; exact (ih (by omega)).trans (List.prefix_append _ _)
    · obtain rfl : k = n + 1 := by omega
      exact List.prefix_refl _

set_option maxRecDepth 100000 in
set_option maxHeartbeats 2000000 in
theorem heard1_in (l₀ Bw Bi n₀ n c d i : Nat) (A P : Option Addr) (ra : List Ac) (ps : List Pt) (r : Int) (hn : n ≤ 210) (hl : ra.length = n) (hm : ps.length = n) (hi : i < n) (J Jx : List Nat → World → Prop)
    (hJ : ∀ pre W W', J pre W → Below W.heap.size W W' → J pre W')
    (hY : ∀ pre x W, J pre W → pre.length < n → YieldAt Fence.wide 3 Try.prog l₀ #[i64 (x : Nat)] W fun e W' =>
      (e = .returned (.bool true) ∧ J (pre ++ [x]) W' ∧ Kp n₀ Bw Bi W W') ∨ (e = .returned (.bool false) ∧ Jx (pre ++ [x]) W'))
    (W : World) (hw1 : Blk W Bw 73 #[.slice A n c, .slice P n d, i64 r]) (hw2 : Blk W Bi 3 #[i64 (i : Nat)]) (hR : Rd W n₀ 5 A n (ra.flatMap decA)) (hP : Rd W n₀ 2 P n (ps.flatMap decP)) (hn₀ : n₀ ≤ W.heap.size) (h0 : J [] W) :
    CallsIn Fence.wide 4 Try.prog 55 #[.func (.yield l₀) #[] #[], .pointer (some ⟨Bw, 0, none⟩), .pointer (some ⟨Bi, 0, none⟩)] W fun e W' => (∃ v, e = .returned v) ∧
      ((∃ ys, ys = Hm ra ps r i n ∧ J ys W') ∨ (∃ pre, pre <+: Hm ra ps r i n ∧ Jx pre W')) := by
  have HL := Lib.hid hl; clear hl
  have HM := Lib.hid hm; clear hm
  have H0 := Lib.hid h0; clear h0
  have k0 : W.cell? ⟨Bw, 0, none⟩ = some (.slice A n c) := hw1.cell 0
  refine callsIn_of_wp Try.func55 rfl trivial ?_ rfl
  simp only [Try.ntmps55, List.size_toArray, List.length_cons, List.length_nil, Nat.reduceAdd, Nat.reduceSub, Array.replicate_succ, Array.replicate_zero, List.push_toArray, List.append_toArray, List.nil_append, List.cons_append]
  gi_wp2
  clear k0
  have HW1 := Lib.hid hw1; clear hw1
  have HW2 := Lib.hid hw2; clear hw2
  gi_loopw [9] (fun j wr => ∃ k : Nat, k ≤ n ∧ j = .int .i64 k ∧ Hid (J (Hm ra ps r i k) wr) ∧ Kp n₀ Bw Bi W wr)
    (fun j _ => n - (intOf j).toNat)
  case atStart => exact ⟨0, Nat.zero_le _, rfl, H0, Kp.refl _ _ _ _⟩
  case round =>
    obtain ⟨k, hkn, rfl, HJ, hnx⟩ := hrel
    have gw1 : Blk wr Bw 73 #[.slice A n c, .slice P n d, i64 r] := hnx.2.1.trans HW1.out
    have gw2 : Blk wr Bi 3 #[i64 (i : Nat)] := hnx.2.2.trans HW2.out
    by_cases hlt : k < n
    · have hkl : k < ra.length := by have := HL.out; omega
      have hil : i < ra.length := by have := HL.out; omega
      have hkp : k < ps.length := by have := HM.out; omega
      have hip : i < ps.length := by have := HM.out; omega
      have hR1 := hR.below hnx.1
      have hP1 := hP.below hnx.1
      obtain ⟨b, off, rfl, hb, hc1⟩ := rd_el (dec := decA) (fun _ => rfl) hR1 HL.out hkl
      obtain ⟨b', off', e, _, hc2⟩ := rd_el (dec := decA) (fun _ => rfl) hR1 HL.out hil
      simp only [Option.some.injEq, Addr.mk.injEq, and_true] at e
      obtain ⟨rfl, rfl⟩ := e
      obtain ⟨q, qo, rfl, hq, hc3⟩ := rd_el (dec := decP) (fun _ => rfl) hP1 HM.out hkp
      obtain ⟨q', qo', e, _, hc4⟩ := rd_el (dec := decP) (fun _ => rfl) hP1 HM.out hip
      simp only [Option.some.injEq, Addr.mk.injEq, and_true] at e
      obtain ⟨rfl, rfl⟩ := e
      have hv : hk ra ps r i k = hrs ra[k] ra[i] ps[k] ps[i] r := by unfold hk; rw [getD_of hkl, getD_of hil, getD_of hkp, getD_of hip]
      obtain ⟨⟨sa, sc, ss, sl, sh⟩, es⟩ : ∃ a, ra[k] = a := ⟨_, rfl⟩
      obtain ⟨⟨la, lc, ls, ll, lh⟩, el⟩ : ∃ a, ra[i] = a := ⟨_, rfl⟩
      obtain ⟨⟨px, py⟩, ep⟩ : ∃ a, ps[k] = a := ⟨_, rfl⟩
      obtain ⟨⟨ox, oy⟩, eo⟩ : ∃ a, ps[i] = a := ⟨_, rfl⟩
      rw [es] at hc1 hv
      rw [el] at hc2 hv
      rw [ep] at hc3 hv
      rw [eo] at hc4 hv
      clear es el ep eo
      have c0 : wr.cell? ⟨b, off + k * 5, none⟩ = some (i64 sa) := hc1 0 _ rfl
      have c1 : wr.cell? ⟨b, off + k * 5 + 1, none⟩ = some (i64 sc) := hc1 1 _ rfl
      have c2 : wr.cell? ⟨b, off + k * 5 + 2, none⟩ = some (i64 ss) := hc1 2 _ rfl
      have c3 : wr.cell? ⟨b, off + k * 5 + 3, none⟩ = some (i64 sl) := hc1 3 _ rfl
      have c4 : wr.cell? ⟨b, off + k * 5 + 4, none⟩ = some (i64 sh) := hc1 4 _ rfl
      have hB1 := (Below.refl wr.heap.size wr).alloc (Nat.le_refl _) (.cells #[i64 sa, i64 sc, i64 ss, i64 sl, i64 sh] 55)
      have B0 := Blk.new wr 55 #[i64 sa, i64 sc, i64 ss, i64 sl, i64 sh]
      obtain ⟨W1, hW⟩ : ∃ W1, W1 = wr.alloc (.cells #[i64 sa, i64 sc, i64 ss, i64 sl, i64 sh] 55) := ⟨_, rfl⟩
      rw [← hW] at hB1 B0
      have HW := Lib.hid hW; clear hW
      have f0 : ∀ s : WOf (Below W1.heap.size W1), s.w.cell? ⟨wr.heap.size, 0, none⟩ = some (i64 sa) := fun s => (B0.up' s.ok).cell 0
      have f1 : ∀ s : WOf (Below W1.heap.size W1), s.w.cell? ⟨wr.heap.size, 1, none⟩ = some (i64 sc) := fun s => (B0.up' s.ok).cell 1
      have f2 : ∀ s : WOf (Below W1.heap.size W1), s.w.cell? ⟨Bw, 0, none⟩ = some (.slice (some ⟨b, off, none⟩) n c) := fun s => ((gw1.up' hB1).up' s.ok).cell 0
      have f3 : ∀ s : WOf (Below W1.heap.size W1), s.w.cell? ⟨Bw, 1, none⟩ = some (.slice (some ⟨q, qo, none⟩) n d) := fun s => ((gw1.up' hB1).up' s.ok).cell 1
      have f4 : ∀ s : WOf (Below W1.heap.size W1), s.w.cell? ⟨Bw, 2, none⟩ = some (i64 r) := fun s => ((gw1.up' hB1).up' s.ok).cell 2
      have f5 : ∀ s : WOf (Below W1.heap.size W1), s.w.cell? ⟨Bi, 0, none⟩ = some (i64 (i : Nat)) := fun s => ((gw2.up' hB1).up' s.ok).cell 0
      have f6 : ∀ s : WOf (Below W1.heap.size W1), s.w.cell? ⟨b, off + i * 5 + 1, none⟩ = some (i64 lc) := fun s => cup (cup (hc2 1 _ rfl) hB1) s.ok
      have f7 : ∀ s : WOf (Below W1.heap.size W1), s.w.cell? ⟨q, qo + k * 2, none⟩ = some (i64 px) := fun s => cup (cup (hc3 0 _ rfl) hB1) s.ok
      have f8 : ∀ s : WOf (Below W1.heap.size W1), s.w.cell? ⟨q, qo + k * 2 + 1, none⟩ = some (i64 py) := fun s => cup (cup (hc3 1 _ rfl) hB1) s.ok
      have f9 : ∀ s : WOf (Below W1.heap.size W1), s.w.cell? ⟨q, qo + i * 2, none⟩ = some (i64 ox) := fun s => cup (cup (hc4 0 _ rfl) hB1) s.ok
      have g0 : ∀ s : WOf (Below W1.heap.size W1), s.w.cell? ⟨q, qo + i * 2 + 1, none⟩ = some (i64 oy) := fun s => cup (cup (hc4 1 _ rfl) hB1) s.ok
      have hup : ∀ a b, Below W1.heap.size W1 a → Below a.heap.size a b → Below W1.heap.size W1 b := fun a b h k => below_trans' h k
      have hsz : n₀ ≤ wr.heap.size := Nat.le_trans hn₀ hnx.1.size
      have hcase : (hk ra ps r i k = false ∧ (sa == 2) = false) ∨ (hk ra ps r i k = false ∧ sa = 2 ∧ (sc == lc) = false) ∨ (hk ra ps r i k = false ∧ sa = 2 ∧ sc = lc ∧ near (px, py) (ox, oy) r = false) ∨ (hk ra ps r i k = true ∧ sa = 2 ∧ sc = lc ∧ near (px, py) (ox, oy) r = true) := by
        rw [hv]
        unfold hrs
        dsimp only
        by_cases h1 : sa = 2
        · by_cases h3 : sc = lc
          · cases h4 : near (px, py) (ox, oy) r
            · exact .inr (.inr (.inl ⟨by simp, h1, h3, rfl⟩))
            · exact .inr (.inr (.inr ⟨by simp [h1, h3], h1, h3, rfl⟩))
          · exact .inr (.inl ⟨by simp [h3], h1, by rw [beq_eq_false_iff_ne]; exact h3⟩)
        · exact .inl ⟨by simp [h1], by rw [beq_eq_false_iff_ne]; exact h1⟩
      clear hv hc1 hc2 hc3 hc4 hR1 hP1 hR hP
      have hkle : ((k : Int) + 1).toNat = k + 1 := by omega
      clear hkle
      rcases hcase with ⟨hf, e1⟩ | ⟨hf, rfl, e1⟩ | ⟨hf, rfl, rfl, e1⟩ | ⟨ht, rfl, rfl, e1⟩
      · have HE : Hid (Hm ra ps r i (k + 1) = Hm ra ps r i k) := by show _ = _; rw [Hm_succ, hf]; simp
        clear hf
        gi_wp2_with fail
        rw [← HW.out]
        refine wpIn_region_ext' WideF.plain (Below W1.heap.size W1) (Below.refl _ _) hup (by kernel_rfl) (by kernel_rfl) (by kernel_rfl) (fun hne => ?_)
        try simp only [List.append_eq, List.cons_append, List.nil_append]
        repeat (go_big_quiet_step (fail))
        refine wpQuiet_nil ?_
        clear hne
        intro wx hx'
        obtain ⟨⟨_, hx⟩, hx''⟩ := hx'
        subst hx''
        have hbx := hB1.trans (hx.mono hB1.size)
        have hJn : Hid (J (Hm ra ps r i (k + 1)) wx) := by rw [HE.out]; exact hJ _ _ _ HJ.out hbx
        have hKn := hnx.trans (Kp.of_below hbx hsz gw1.lt gw2.lt)
        gi_wp2_with fail
        go_roundw
        case rel => exact ⟨k + 1, by omega, by go_num, hJn, hKn⟩
        case measure => simp [intOf]; omega
      · have HE : Hid (Hm ra ps r i (k + 1) = Hm ra ps r i k) := by show _ = _; rw [Hm_succ, hf]; simp
        clear hf
        gi_wp2_with fail
        rw [← HW.out]
        refine wpIn_region_ext' WideF.plain (Below W1.heap.size W1) (Below.refl _ _) hup (by kernel_rfl) (by kernel_rfl) (by kernel_rfl) (fun hne => ?_)
        try simp only [List.append_eq, List.cons_append, List.nil_append]
        repeat (go_big_quiet_step (fail))
        refine wpQuiet_nil ?_
        clear hne
        intro wx hx'
        obtain ⟨⟨_, hx⟩, hx''⟩ := hx'
        subst hx''
        have hbx := hB1.trans (hx.mono hB1.size)
        have hJn : Hid (J (Hm ra ps r i (k + 1)) wx) := by rw [HE.out]; exact hJ _ _ _ HJ.out hbx
        have hKn := hnx.trans (Kp.of_below hbx hsz gw1.lt gw2.lt)
        gi_wp2_with fail
        go_roundw
        case rel => exact ⟨k + 1, by omega, by go_num, hJn, hKn⟩
        case measure => simp [intOf]; omega
      · have HE : Hid (Hm ra ps r i (k + 1) = Hm ra ps r i k) := by show _ = _; rw [Hm_succ, hf]; simp
        clear hf
        have NV := Lib.hid (fun W => near_val px py ox oy r false e1 W)
        clear e1
        gi_wp2_with fail
        rw [← HW.out]
        refine wpIn_region_ext' WideF.plain (Below W1.heap.size W1) (Below.refl _ _) hup (by kernel_rfl) (by kernel_rfl) (by kernel_rfl) (fun hne => ?_)
        try simp only [List.append_eq, List.cons_append, List.nil_append]
        repeat (go_big_quiet_step (with_reducible exact calls_ext hup (NV.out _)))
        refine wpQuiet_nil ?_
        clear hne
        intro wx hx'
        obtain ⟨⟨_, hx⟩, hx''⟩ := hx'
        subst hx''
        have hbx := hB1.trans (hx.mono hB1.size)
        have hJn : Hid (J (Hm ra ps r i (k + 1)) wx) := by rw [HE.out]; exact hJ _ _ _ HJ.out hbx
        have hKn := hnx.trans (Kp.of_below hbx hsz gw1.lt gw2.lt)
        gi_wp2_with fail
        go_roundw
        case rel => exact ⟨k + 1, by omega, by go_num, hJn, hKn⟩
        case measure => simp [intOf]; omega
      · have HE : Hid (Hm ra ps r i (k + 1) = Hm ra ps r i k ++ [k]) := by show _ = _; rw [Hm_succ, ht]; simp
        clear ht
        have NV := Lib.hid (fun W => near_val px py ox oy r true e1 W)
        clear e1
        gi_wp2_with fail
        rw [← HW.out]
        refine wpIn_region_qt WideF.plain (Below W1.heap.size W1) 32 (Below.refl _ _) hup (by kernel_rfl) (by kernel_rfl) (by kernel_rfl) (fun hne => ?_)
        simp only [List.take_succ_cons, List.take_zero, List.drop_succ_cons, List.drop_zero]
        repeat (go_big_quiet_step (with_reducible exact calls_ext hup (NV.out _)))
        refine wpQuiet_nil ?_
        clear hne
        intro s
        obtain ⟨wx, hx⟩ := s
        have hbx := hB1.trans (hx.mono hB1.size)
        have hJn := hJ _ _ _ HJ.out hbx
        have hKn := hnx.trans (Kp.of_below hbx hsz gw1.lt gw2.lt)
        clear f0 f1 f2 f3 f4 f5 f6 f7 f8 f9 g0 NV
        obtain ⟨fn, tmps, assign, body, hy, hRd⟩ := hY _ k wx hJn (Nat.lt_of_le_of_lt (Hm_le _ _ _ _ _) hlt)
        have HJn := Lib.hid hJn; clear hJn
        gi_wp2_with fail
        refine hRd.mono ?_
        rintro e W3 (⟨rfl, hJ3, hk3⟩ | ⟨rfl, hJx3⟩)
        · have HJ3 := Lib.hid hJ3; clear hJ3
          have hK3 := hKn.trans hk3
          gi_wp2_with fail
          go_roundw
          case rel => exact ⟨k + 1, by omega, by go_num, by rw [HE.out]; exact HJ3, hK3⟩
          case measure => simp [intOf]; omega
        · have HJx3 := Lib.hid hJx3; clear hJx3
          gi_wp2_with fail
          refine bodyPost_ret (results_none rfl _ _ _) rfl ?_
          exact ⟨⟨_, rfl⟩, .inr ⟨_, by rw [← HE.out]; exact Hm_prefix ra ps r i hlt, HJx3⟩⟩
    · obtain rfl : k = n := by omega
      gi_wp2
      go_end0
      exact ⟨⟨_, rfl⟩, .inl ⟨_, rfl, HJ.out⟩⟩

theorem heard_in (A P : Option Addr) (n c m d : Nat) (r i : Int) (w : World) :
    CallsIn Fence.wide 4 Try.prog 51 #[.agg #[.slice A n c, .slice P m d, i64 r], i64 i] w fun e w' =>
      e = .returned (.func (.func 55) #[] #[.pointer (some ⟨w.heap.size, 0, none⟩), .pointer (some ⟨w.heap.size + 1, 0, none⟩)]) ∧
      (w.alloc (.cells #[.slice A n c, .slice P m d, i64 r] 73)).alloc (.cells #[i64 i] 3) = w' := by
  refine callsIn_of_wp Try.func51 rfl trivial ?_ rfl
  simp only [Try.ntmps51, List.size_toArray, List.length_cons, List.length_nil, Nat.reduceAdd, Nat.reduceSub, Array.replicate_succ, Array.replicate_zero, List.push_toArray, List.append_toArray, List.nil_append, List.cons_append]
  gi_wp2
  go_ret
  exact ⟨rfl, rfl⟩

theorem heard_stops (Bw Bi n₀ n c d i : Nat) (A P : Option Addr) (ra : List Ac) (ps : List Pt) (r : Int) (hn : n ≤ 210) (hl : ra.length = n) (hm : ps.length = n) (hi : i < n) (w : World)
    (hw1 : Blk w Bw 73 #[.slice A n c, .slice P n d, i64 r]) (hw2 : Blk w Bi 3 #[i64 (i : Nat)]) (hR : Rd w n₀ 5 A n (ra.flatMap decA)) (hP : Rd w n₀ 2 P n (ps.flatMap decP)) (hn₀ : n₀ ≤ w.heap.size) :
    SeqStopsK Fence.wide 4 Try.prog 55 #[.pointer (some ⟨Bw, 0, none⟩), .pointer (some ⟨Bi, 0, none⟩)] (fun x : Nat => #[i64 x]) (Kp n₀ Bw Bi) (fun ys => ys = Hm ra ps r i n) (fun pre => pre <+: Hm ra ps r i n) n w :=
  fun l J Jx W hW hJ _ hY h0 =>
    heard1_in l Bw Bi n₀ n c d i A P ra ps r hn hl hm hi J Jx (fun pre W1 W2 h hb => hJ pre W1 W2 none h ⟨hb.os, hb.tape, hb.output, hb.size, fun i hi _ => hb.block i hi⟩ (fun r e => by cases e)) hY W (hw1.up' hW) (hw2.up' hW) (hR.below' hW hn₀) (hP.below' hW hn₀) (Nat.le_trans hn₀ hW.size) h0
end Go.Proofs.Yteeloebhjmmpdaa.Md
