/- seal.Seal. -/
import Derived.Test.YtineokopmdjapaaOaOpen3
namespace Go.Proofs.Ytineokopmdjapaa.Oa
open Go.RowKit
set_option linter.unusedVariables false

theorem seal_val (kd fr to key : Int) (n : Nat) (A : Option Addr) (m c : Nat) (hn : n ≤ 1000000000) (w : World) :
    Calls Try.prog 5 #[fv kd fr to (n : Nat) key (.slice A m c), rv n] w fun e w' => e = .returned (.tuple #[fv kd fr to (n : Nat) ((n / 2000 + 1 : Nat) : Int) (.slice A m c), i64 0]) ∧ Below w.heap.size w w' := by
  unfold fv
  have NA := of_val n hn
  have NK := key_val n hn
  have NC := known_val n hn
  unfold rv at NC ⊢
  obtain ⟨q, hq⟩ : ∃ q, n / 2000 = q := ⟨_, rfl⟩
  have hq1 : q ≤ 500000 := by omega
  have e2 : ((q + 2 : Nat) : Int) = (q : Int) + 2 := by omega
  have e1 : ((q + 1 : Nat) : Int) = (q : Int) + 1 := by omega
  simp only [hq, e2, e1] at NA NK NC ⊢
  clear hq e2 e1
  have NA := Lib.hid NA
  have NK := Lib.hid NK
  have NC := Lib.hid NC
  obtain ⟨W0, hW0⟩ : ∃ W0, (((w.alloc (.cells #[i64 kd, i64 fr, i64 to, i64 (n : Nat), i64 key, .slice A m c] 31)).alloc (.cells #[i64 (q : Nat), i64 ((q : Int) + 2)] 36)).alloc (.cells #[i64 0, i64 0, i64 0, i64 0, i64 0, .slice none 0 0] 31)) = W0 := ⟨_, rfl⟩
  have hB0 : Below w.heap.size w W0 := by
    rw [← hW0]
    exact (((Below.refl _ w).alloc (Nat.le_refl _) _).alloc (by simp) _).alloc (by simp; omega) _
  have hs0 : w.heap.size + 3 ≤ W0.heap.size := by rw [← hW0]; simp
  have BF : Blk W0 w.heap.size 31 #[i64 kd, i64 fr, i64 to, i64 (n : Nat), i64 key, .slice A m c] := by
    rw [← hW0]
    exact ((Blk.new w _ _).alloc _).alloc _
  have BR : Blk W0 (w.heap.size + 1) 36 #[i64 (q : Nat), i64 ((q : Int) + 2)] := by
    rw [← hW0]
    have := (Blk.new (w.alloc (.cells #[i64 kd, i64 fr, i64 to, i64 (n : Nat), i64 key, .slice A m c] 31)) 36 #[i64 (q : Nat), i64 ((q : Int) + 2)]).alloc (.cells #[i64 0, i64 0, i64 0, i64 0, i64 0, .slice none 0 0] 31)
    simpa using this
  have BO : Blk W0 (w.heap.size + 1 + 1) 31 #[i64 0, i64 0, i64 0, i64 0, i64 0, .slice none 0 0] := by
    rw [← hW0]
    have := (Blk.new ((w.alloc (.cells #[i64 kd, i64 fr, i64 to, i64 (n : Nat), i64 key, .slice A m c] 31)).alloc (.cells #[i64 (q : Nat), i64 ((q : Int) + 2)] 36)) 31 #[i64 0, i64 0, i64 0, i64 0, i64 0, .slice none 0 0])
    simpa using this
  have hup : ∀ a b, Below W0.heap.size W0 a → Below a.heap.size a b → Below W0.heap.size W0 b := fun a b h k => below_trans' h k
  have a3 : W0.cell? ⟨w.heap.size, 3, none⟩ = some (i64 (n : Nat)) := BF.cell 3
  have f3 : ∀ s : WOf (Below W0.heap.size W0), s.w.cell? ⟨w.heap.size, 3, none⟩ = some (i64 (n : Nat)) := fun s => (BF.up' s.ok).cell 3
  have r0 : ∀ s : WOf (Below W0.heap.size W0), s.w.cell? ⟨w.heap.size + 1, 0, none⟩ = some (i64 (q : Nat)) := fun s => (BR.up' s.ok).cell 0
  have r1 : ∀ s : WOf (Below W0.heap.size W0), s.w.cell? ⟨w.heap.size + 1, 1, none⟩ = some (i64 ((q : Int) + 2)) := fun s => (BR.up' s.ok).cell 1
  have BF := Lib.hid BF
  have BR := Lib.hid BR
  have BO := Lib.hid BO
  go_enter Try.func5, Try.ntmps5
  go_wp2_with fail
  refine (NK.out _).mono ?_
  rintro e w1 ⟨rfl, rfl⟩
  go_wp2_with fail
  refine wp_region_ext (Below W0.heap.size W0) (Below.refl _ _) hup (by kernel_rfl) (by kernel_rfl) (fun hne => ?_)
  repeat (go_big_quiet_step (first | with_reducible exact calls_ext_same (NA.out _) | with_reducible exact calls_ext hup (NC.out _)))
  refine wpQuiet_nil ?_
  clear hne
  intro wx hx'
  obtain ⟨⟨_, hx⟩, hx''⟩ := hx'
  subst hx''
  have hB1 := hB0.trans (hx.mono hB0.size)
  have F1 := Lib.hid (BF.out.up' hx)
  have O1 := Lib.hid (BO.out.up' hx)
  clear BF BR BO a3 f3 r0 r1 hup
  have a0 := F1.out.cell 0
  have a1 := F1.out.cell 1
  have a2 := F1.out.cell 2
  have a3 := F1.out.cell 3
  have a5 := F1.out.cell 5
  have g4 := F1.out.cell 4
  have z4 := F1.out.frozen 4
  have b0 := O1.out.cell 0
  have b1 := O1.out.cell 1
  have b2 := O1.out.cell 2
  have b3 := O1.out.cell 3
  have b4 := O1.out.cell 4
  have b5 := O1.out.cell 5
  have y0 := O1.out.frozen 0
  have y1 := O1.out.frozen 1
  have y2 := O1.out.frozen 2
  have y3 := O1.out.frozen 3
  have y4 := O1.out.frozen 4
  have y5 := O1.out.frozen 5
  go_wp2_with fail
  have M := ((((((O1.out.far (p := ⟨w.heap.size, 4, none⟩) (by simp; omega) (i64 ((q : Int) + 1))).set_ 0 (i64 kd)).set_ 1 (i64 fr)).set_ 2 (i64 to)).set_ 3 (i64 (n : Nat))).set_ 4 (i64 ((q : Int) + 1))).set_ 5 (.slice A m c)
  have hB3 := ((((((hB1.setCell (p := ⟨w.heap.size, 4, none⟩) (by simp) (i64 ((q : Int) + 1))).setCell (p := ⟨w.heap.size + 1 + 1, 0, none⟩) (by simp; omega) (i64 kd)).setCell (p := ⟨w.heap.size + 1 + 1, 1, none⟩) (by simp; omega) (i64 fr)).setCell (p := ⟨w.heap.size + 1 + 1, 2, none⟩) (by simp; omega) (i64 to)).setCell (p := ⟨w.heap.size + 1 + 1, 3, none⟩) (by simp; omega) (i64 (n : Nat))).setCell (p := ⟨w.heap.size + 1 + 1, 4, none⟩) (by simp; omega) (i64 ((q : Int) + 1))).setCell (p := ⟨w.heap.size + 1 + 1, 5, none⟩) (by simp; omega) (.slice A m c)
  obtain ⟨wf, hwf⟩ : ∃ wf, (((((((wx.setCell ⟨w.heap.size, 4, none⟩ (i64 ((q : Int) + 1))).setCell ⟨w.heap.size + 1 + 1, 0, none⟩ (i64 kd)).setCell ⟨w.heap.size + 1 + 1, 1, none⟩ (i64 fr)).setCell ⟨w.heap.size + 1 + 1, 2, none⟩ (i64 to)).setCell ⟨w.heap.size + 1 + 1, 3, none⟩ (i64 (n : Nat))).setCell ⟨w.heap.size + 1 + 1, 4, none⟩ (i64 ((q : Int) + 1))).setCell ⟨w.heap.size + 1 + 1, 5, none⟩ (.slice A m c)) = wf := ⟨_, rfl⟩
  rw [hwf] at M hB3
  have m0 : wf.cell? ⟨w.heap.size + 1 + 1, 0, none⟩ = some (i64 kd) := (M.cell 0).trans (by simp)
  have m1 : wf.cell? ⟨w.heap.size + 1 + 1, 1, none⟩ = some (i64 fr) := (M.cell 1).trans (by simp)
  have m2 : wf.cell? ⟨w.heap.size + 1 + 1, 2, none⟩ = some (i64 to) := (M.cell 2).trans (by simp)
  have m3 : wf.cell? ⟨w.heap.size + 1 + 1, 3, none⟩ = some (i64 (n : Nat)) := (M.cell 3).trans (by simp)
  have m4 : wf.cell? ⟨w.heap.size + 1 + 1, 4, none⟩ = some (i64 ((q : Int) + 1)) := (M.cell 4).trans (by simp)
  have m5 : wf.cell? ⟨w.heap.size + 1 + 1, 5, none⟩ = some (.slice A m c) := (M.cell 5).trans (by simp)
  rw [hwf]
  refine bodyPost_ret (v := .tuple #[.agg #[i64 kd, i64 fr, i64 to, i64 (n : Nat), i64 ((q : Int) + 1), .slice A m c], i64 0]) ?_ rfl ⟨rfl, hB3⟩
  simp [results, go_sem, m0, m1, m2, m3, m4, m5]
end Go.Proofs.Ytineokopmdjapaa.Oa
