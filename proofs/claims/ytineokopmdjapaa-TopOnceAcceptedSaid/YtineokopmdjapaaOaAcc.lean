/- w17Accept. -/
import Derived.Deep.RegionHeld3
import Derived.Deep.DeepCutAuto
import Derived.Deep.RegionLaw
import Derived.Test.YtineokopmdjapaaFlat
import Derived.Test.YtineokopmdjapaaOaSeal2
namespace Go.Proofs.Ytineokopmdjapaa.Oa
open Go.RowKit
set_option linter.unusedVariables false

def decW (p : Nat × Nat) : List Value := [i64 (p.1 : Nat), un p.2]
theorem one_decW (a : Nat × Nat) : ∀ u ∈ decW a, u.oneCell' = true := by
  intro u hu
  unfold decW at hu
  simp only [List.mem_cons, List.not_mem_nil, or_false] at hu
  rcases hu with rfl | rfl <;> rfl
/-- The windows L lie at the slice (A, m, c), in w. -/
def Win (w : World) (A : Option Addr) (m c : Nat) (L : List (Nat × Nat)) : Prop := w.ownsRow 0 49 2 (.slice A m c) m (L.flatMap decW) ∧ L.length = m
theorem Win.up {w w' : World} {A : Option Addr} {m c : Nat} {L : List (Nat × Nat)} (h : Win w A m c L) (hb : Below w.heap.size w w') : Win w' A m c L := ⟨own_keep h.1 hb, h.2⟩

theorem acc_old (A : Option Addr) (m c : Nat) (kd fr dst key : Int) (a n : Nat) (D : Option Addr) (dm dc : Nat) (h : a ≠ n) (hn : n ≤ 1000000000) (w : World) :
    Calls Try.prog 7 #[.slice A m c, fv kd fr dst (a : Nat) key (.slice D dm dc), rv n, i64 (n : Nat)] w fun e w' => e = .returned (.tuple #[.slice A m c, .bool false]) ∧ Below w.heap.size w w' := by
  have NO := open_old kd fr dst key a n D dm dc h hn
  unfold fv rv at *
  obtain ⟨q, hq⟩ : ∃ q, n / 2000 = q := ⟨_, rfl⟩
  have e2 : ((q + 2 : Nat) : Int) = (q : Int) + 2 := by omega
  simp only [hq, e2] at NO ⊢
  clear hq e2
  have NO := Lib.hid NO
  clear h
  have hB0 : Below w.heap.size w ((w.alloc (.cells #[i64 kd, i64 fr, i64 dst, i64 (a : Nat), i64 key, .slice D dm dc] 31)).alloc (.cells #[i64 (q : Nat), i64 ((q : Int) + 2)] 36)) := ((Below.refl _ w).alloc (Nat.le_refl _) _).alloc (by simp) _
  go_enter Try.func7, Try.ntmps7
  go_wp2_with fail
  refine (NO.out _).mono ?_
  rintro e w1 ⟨rfl, hb1⟩
  have hB1 := below_trans' hB0 hb1
  go_wp2_with fail
  go_ret2
  exact ⟨rfl, hB1⟩

/-- What w17Accept hands back for a frame that is sealed for the slot, its sender's window L[j]. -/
def AccPost (W : World) (A : Option Addr) (m c : Nat) (L : List (Nat × Nat)) (j t' b' : Nat) (er : Int) (e : Ending) (w' : World) : Prop :=
  Below W.heap.size W w' ∧ ((er = 0 → ∃ A' c', e = .returned (.tuple #[.slice A' m c', .bool true]) ∧ Win w' A' m c' (L.set j (t', b'))) ∧
    (er ≠ 0 → e = .returned (.tuple #[.slice A m c, .bool false])))

theorem info_window : (Try.prog.info? 49).map (fun i => (i.zero, i.size, i.bytes)) = some (some (.agg #[.int .i64 0, .int .u64 0]), 2, 16) := by kernel_rfl

set_option maxRecDepth 100000 in
set_option maxHeartbeats 1000000 in
theorem acc_know (A : Option Addr) (m c : Nat) (L : List (Nat × Nat)) (kd dst : Int) (j n : Nat) (D : Option Addr) (dm dc : Nat) (hn : n ≤ 999999999) (hj : j < m) (hm : m ≤ 4) (t' b' : Nat) (er : Int) (hl : j < L.length)
    (NN : ∀ w, Calls Try.prog 13 #[wv L[j].1 L[j].2, i64 ((n + 1 : Nat) : Int)] w fun e w' => e = .returned (.tuple #[wv t' b', i64 er]) ∧ Below w.heap.size w w') (w : World) (hL : Win w A m c L) :
    Calls Try.prog 7 #[.slice A m c, fv kd (j : Nat) dst (n : Nat) ((n / 2000 + 1 : Nat) : Int) (.slice D dm dc), rv n, i64 (n : Nat)] w (AccPost w A m c L j t' b' er) := by
  have NO := open_ok kd (j : Nat) dst n D dm dc (by omega)
  obtain ⟨hR0, hLm⟩ := hL
  have hR := Rd.of_own hR0
  clear hR0
  obtain ⟨⟨t, b⟩, htb⟩ : ∃ p, L[j] = p := ⟨_, rfl⟩
  rw [htb] at NN
  unfold fv rv wv at *
  obtain ⟨q, hq⟩ : ∃ q, n / 2000 = q := ⟨_, rfl⟩
  have e2 : ((q + 2 : Nat) : Int) = (q : Int) + 2 := by omega
  have e1 : ((q + 1 : Nat) : Int) = (q : Int) + 1 := by omega
  have e3 : ((n + 1 : Nat) : Int) = (n : Int) + 1 := by omega
  simp only [hq, e1, e2, e3] at NO NN ⊢
  clear hq e2 e1 e3
  have NO := Lib.hid NO
  have NN := Lib.hid NN
  have HT := Lib.hid htb; clear htb
  have HLm := Lib.hid hLm; clear hLm
  have HR := Lib.hid hR; clear hR
  obtain ⟨W0, hW0⟩ : ∃ W0, (w.alloc (.cells #[i64 kd, i64 (j : Nat), i64 dst, i64 (n : Nat), i64 ((q : Int) + 1), .slice D dm dc] 31)).alloc (.cells #[i64 (q : Nat), i64 ((q : Int) + 2)] 36) = W0 := ⟨_, rfl⟩
  have hB0 : Below w.heap.size w W0 := by
    rw [← hW0]; exact ((Below.refl _ w).alloc (Nat.le_refl _) _).alloc (by simp) _
  have BF : Blk W0 w.heap.size 31 #[i64 kd, i64 (j : Nat), i64 dst, i64 (n : Nat), i64 ((q : Int) + 1), .slice D dm dc] := by
    rw [← hW0]; exact (Blk.new w _ _).alloc _
  have BR : Blk W0 (w.heap.size + 1) 36 #[i64 (q : Nat), i64 ((q : Int) + 2)] := by
    rw [← hW0]
    have := Blk.new (w.alloc (.cells #[i64 kd, i64 (j : Nat), i64 dst, i64 (n : Nat), i64 ((q : Int) + 1), .slice D dm dc] 31)) 36 #[i64 (q : Nat), i64 ((q : Int) + 2)]
    simpa using this
  have a0 : W0.cell? ⟨w.heap.size, 0, none⟩ = some (i64 kd) := BF.cell 0
  have a1 : W0.cell? ⟨w.heap.size, 1, none⟩ = some (i64 (j : Nat)) := BF.cell 1
  have a2 : W0.cell? ⟨w.heap.size, 2, none⟩ = some (i64 dst) := BF.cell 2
  have a3 : W0.cell? ⟨w.heap.size, 3, none⟩ = some (i64 (n : Nat)) := BF.cell 3
  have a4 : W0.cell? ⟨w.heap.size, 4, none⟩ = some (i64 ((q : Int) + 1)) := BF.cell 4
  have a5 : W0.cell? ⟨w.heap.size, 5, none⟩ = some (.slice D dm dc) := BF.cell 5
  have r0 : W0.cell? ⟨w.heap.size + 1, 0, none⟩ = some (i64 (q : Nat)) := BR.cell 0
  have r1 : W0.cell? ⟨w.heap.size + 1, 1, none⟩ = some (i64 ((q : Int) + 2)) := BR.cell 1
  have BF := Lib.hid BF
  have hj0 : ¬ (j : Int) < 0 := by omega
  have hjm : ¬ (m : Int) ≤ (j : Int) := by omega
  go_enter Try.func7, Try.ntmps7
  go_wp2_with fail
  refine (NO.out _).mono ?_
  rintro e w1 ⟨rfl, hb1⟩
  have hB1 := hB0.trans (hb1.mono hB0.size)
  have B1 := Lib.hid (BF.out.up' hb1)
  clear a0 a1 a2 a3 a4 a5 r0 r1 BF
  have a1 : w1.cell? ⟨w.heap.size, 1, none⟩ = some (i64 (j : Nat)) := B1.out.cell 1
  have a3 : w1.cell? ⟨w.heap.size, 3, none⟩ = some (i64 (n : Nat)) := B1.out.cell 3
  obtain ⟨wb, off, rfl, hwb, hcw⟩ := rd_el (dec := decW) (s := 2) (fun _ => rfl) (HR.out.below hB1) HLm.out hl
  have c0 := hcw 0 (i64 (t : Nat)) (by rw [HT.out]; rfl)
  have c1 := hcw 1 (un b) (by rw [HT.out]; rfl)
  rw [Nat.add_zero] at c0
  clear hcw
  go_upto_region 3 with fail
  have hwb1 : wb < w1.heap.size := Nat.lt_of_lt_of_le hwb hB1.size
  have hWa : Below w1.heap.size w1 w1.drew := (Below.refl _ w1).drew
  have hWb : Below w1.heap.size w1 (w1.alloc (.cells #[i64 0, un 0] 49)).drew := ((Below.refl _ w1).alloc (Nat.le_refl _) _).drew
  have BB : Blk (w1.alloc (.cells #[i64 0, un 0] 49)).drew w1.heap.size 49 #[i64 0, un 0] := Blk.new w1 _ _
  have HWa := Lib.hid hWa; clear hWa
  have HWb := Lib.hid hWb; clear hWb
  have BB := Lib.hid BB
  have y1 := World.new_ne w1 _ a1
  have y2 := World.new_ne w1 _ c0
  have hn1 : IntKind.i64.wrap ((n : Int) + 1) = (n : Int) + 1 := Go.IntWalk.i64_in _ (by omega)
  have hjn : (j : Int).toNat = j := by omega
  go_cut [10, 11] (fun s10 s11 wx => ∃ T, s10 = .pointer (some ⟨T, 0, none⟩) ∧ s11 = .int .i64 er ∧ Hid (Blk wx T 49 #[i64 (t' : Nat), un b']) ∧ Below w1.heap.size w1 wx)
  case first =>
    go_region_held3 (fun W => (W.cell? ⟨w.heap.size, 1, none⟩ = some (i64 (j : Nat)) ∧ W.cell? ⟨w.heap.size, 3, none⟩ = some (i64 (n : Nat))) ∧ W.cell? ⟨wb, off + j * 2, none⟩ = some (i64 (t : Nat)) ∧ W.cell? ⟨wb, off + j * 2 + 1, none⟩ = some (un b)) (first | go_keep | (go_split_ands <;> assumption)) (first
      | (go_at_call 13; refine (NN.out _).mono ?_; rintro e w2 ⟨rfl, hb2⟩; have hbj : Below w1.heap.size w1 w2 := (by first | exact HWa.out.trans (hb2.mono HWa.out.size) | exact HWb.out.trans (hb2.mono HWb.out.size)); (try (have BX := Lib.hid (BB.out.up' hb2); have x0 := BX.out.cell 0; have x1 := BX.out.cell 1; have z0 := BX.out.frozen 0; have z1 := BX.out.frozen 1)); have n1 := (hbj.cell (p := ⟨w.heap.size, 1, none⟩) (by have := B1.out.lt; exact this)).trans a1; have n3 := (hbj.cell (p := ⟨w.heap.size, 3, none⟩) (by have := B1.out.lt; exact this)).trans a3; have n5 := (hbj.cell (p := ⟨wb, off + j * 2, none⟩) hwb1).trans c0; have n6 := (hbj.cell (p := ⟨wb, off + j * 2 + 1, none⟩) hwb1).trans c1; clear hb2; have y3 := World.new_ne w2 _ n1; have y4 := World.new_ne w2 _ n5)
      | fail)
    all_goals
      go_wp2_with fail
      go_meet
      first
        | exact ⟨_, rfl, rfl, Lib.hid (Blk.new w2 _ _), hbj.alloc hbj.size _⟩
        | exact ⟨_, rfl, rfl, Lib.hid ((BX.out.set_ 0 (.int .i64 (t' : Int))).set_ 1 (.int .u64 (b' : Int))), (hbj.setCell (p := ⟨w1.heap.size, 0, none⟩) (Nat.le_refl _) _).setCell (p := ⟨w1.heap.size, 1, none⟩) (Nat.le_refl _) _⟩
  case rest =>
    obtain ⟨T, rfl, rfl, HTB, hbc⟩ := hcut
    have B2 := Lib.hid (B1.out.up' hbc)
    have hB2 := below_trans' hB1 hbc
    clear HWa HWb BB y1 y2 hn1 a1 a3 c0 c1
    by_cases her : er = 0
    · subst her
      have HRc := Lib.hid (HR.out.below hB2)
      have own0 := World.ownsRow_lit (base := wc.heap.size) (e := 49) (size := 2) wc #[] 0 (Nat.le_refl _) (by decide) rfl
      have hC0 : Below wc.heap.size wc (wc.alloc (.cells #[] 49)) := (Below.refl _ _).alloc (Nat.le_refl _) _
      have HRd := Lib.hid (HRc.out.below' hC0 (by exact hB2.size))
      obtain ⟨i0, hi, hz0, hz1, hz2⟩ := info_parts info_window
      go_wp2_with (first
        | (at_builtin; refine wpList_append_rd _ rfl (.tmp 46) (.tmp 47) _ rfl wc.heap.size 49 i0 _ 2 16 Try.underlying25 hi hz0 hz1 hz2 rfl (by omega) _ 0 [] rfl own0 _ _ m c _ rfl HRd.out (one_flat one_decW _) (by simp only [maxLen]; omega) (by omega) hC0.size ?_
           intro Aa ca w3 hown1 hfm hg1; simp only [Nat.zero_add, List.nil_append] at hown1 hfm
           have hC1 := own_below own0 hg1 hC0 (Nat.le_refl _) hC0.size
           obtain ⟨g, rfl⟩ := hfm (by omega)
           have hgb := own_block hown1 g rfl
           have H3 := Lib.hid (HTB.out.up' hC1)
           have F3 := Lib.hid (B2.out.up' hC1)
           have p0 := H3.out.cell 0
           have p1 := H3.out.cell 1
           have p2 : w3.cell? ⟨w.heap.size, 1, none⟩ = some (i64 (j : Nat)) := F3.out.cell 1
           have q0 : w3.cell? ⟨g, j * 2, none⟩ = some (i64 (t : Nat)) := (hown1.cellAt (j * 2) (by omega)).trans ((flat_get (k := 2) (fun _ => rfl) L j 0 _ (List.getElem?_eq_getElem hl) (by omega)).trans (by rw [HT.out]; rfl))
           have q1 : w3.cell? ⟨g, j * 2 + 1, none⟩ = some (un b) := (hown1.cellAt (j * 2 + 1) (by omega)).trans ((flat_get (k := 2) (fun _ => rfl) L j 1 _ (List.getElem?_eq_getElem hl) (by omega)).trans (by rw [HT.out]; rfl))
           have z0 := hown1.frozenAt (j * 2)
           have z1 := hown1.frozenAt (j * 2 + 1)
           clear hg1 own0))
      obtain ⟨hownA, hgA⟩ := hown1.stored (j * 2) (.int .i64 (t' : Int))
      obtain ⟨hownB, hgB⟩ := hownA.stored (j * 2 + 1) (.int .u64 (b' : Int))
      have hC2 := (hC1.setCell (p := ⟨g, j * 2, none⟩) hgb.1 (.int .i64 (t' : Int))).setCell (p := ⟨g, j * 2 + 1, none⟩) hgb.1 (.int .u64 (b' : Int))
      have hset : ((L.flatMap decW).set (j * 2) (.int .i64 (t' : Int))).set (j * 2 + 1) (.int .u64 (b' : Int)) = (L.set j (t', b')).flatMap decW := by
        have h1 := flat_set (dec := decW) (s := 2) (fun _ => rfl) L j 0 (.int .i64 (t' : Int)) (t', b) hl (by omega) (by rw [HT.out]; rfl)
        rw [Nat.add_zero] at h1
        rw [h1]
        have h2 := flat_set (dec := decW) (s := 2) (fun _ => rfl) (L.set j (t', b)) j 1 (.int .u64 (b' : Int)) (t', b') (by simpa using hl) (by omega) (by rw [List.getElem_set_self]; rfl)
        rw [h2, List.set_set]
      rw [hset] at hownB
      have HW := Lib.hid (own_base hownB (Nat.zero_le _))
      have HB2 := Lib.hid (hB2.trans (hC2.mono hB2.size))
      clear hset hownA hownB hgA hgB hC2 hown1
      go_ret2
      exact ⟨HB2.out, fun _ => ⟨_, _, rfl, HW.out, by rw [List.length_set]; exact HLm.out⟩, fun h => absurd rfl h⟩
    · have her1 : (er == 0) = false := by rw [beq_eq_false_iff_ne]; exact her
      have her2 : (er != 0) = true := by rw [bne_iff_ne]; exact her
      have HER := Lib.hid her; clear her
      go_wp2_with fail
      go_ret2
      exact ⟨hB2, fun h => absurd h HER.out, fun _ => rfl⟩
end Go.Proofs.Ytineokopmdjapaa.Oa
