/- w17Once. -/
import Derived.Test.YtineokopmdjapaaOaAcc
namespace Go.Proofs.Ytineokopmdjapaa.Oa
open Go.RowKit
set_option linter.unusedVariables false

def rv0 : Value := .agg #[i64 0, i64 2]
def f70 (key : Int) : Value := .agg #[i64 2, i64 1, i64 0, i64 70, i64 key, .slice none 0 0]
theorem root70 (w : World) : Calls Try.prog 6 #[i64 70] w fun e w' => e = .returned rv0 ∧ Below w.heap.size w w' := root_val 70 (by decide) w
theorem seal70 (w : World) : Calls Try.prog 5 #[f70 0, rv0] w fun e w' => e = .returned (.tuple #[f70 1, i64 0]) ∧ Below w.heap.size w w' := seal_val 2 1 0 0 70 none 0 0 (by decide) w
theorem acc_first (A : Option Addr) (w : World) (hL : Win w A 2 2 [(0, 0), (0, 0)]) :
    Calls Try.prog 7 #[.slice A 2 2, f70 1, rv0, i64 70] w fun e w' => (∃ A' c', e = .returned (.tuple #[.slice A' 2 c', .bool true]) ∧ Win w' A' 2 c' [(0, 0), (71, nb 0 0 71)]) ∧ Below w.heap.size w w' :=
  (acc_know A 2 2 [(0, 0), (0, 0)] 2 0 1 70 none 0 0 (by decide) (by decide) (by decide) 71 (nb 0 0 71) 0 (by decide) (fun w => note_new 0 0 71 vw_zero (by decide) (by decide) (by decide) w) w hL).mono fun e w' h => ⟨h.2.1 rfl, h.1⟩
theorem acc_second (A : Option Addr) (c : Nat) (w : World) (hL : Win w A 2 c [(0, 0), (71, nb 0 0 71)]) :
    Calls Try.prog 7 #[.slice A 2 c, f70 1, rv0, i64 70] w fun e w' => e = .returned (.tuple #[.slice A 2 c, .bool false]) ∧ Below w.heap.size w w' :=
  (acc_know A 2 c [(0, 0), (71, nb 0 0 71)] 2 0 1 70 none 0 0 (by decide) (by decide) (by decide) 0 0 14 (by decide) (fun w => note_same 71 (nb 0 0 71) (vw_nb vw_zero (by decide) (by decide)) (nb_lt _ _ _ (by decide)) (nb_odd _ _ _ (by decide)) (by decide) (by decide) w) w hL).mono fun e w' h => ⟨h.2.2 (by decide), h.1⟩
theorem acc_late (A : Option Addr) (w : World) :
    Calls Try.prog 7 #[.slice A 2 2, f70 1, rv0, i64 71] w fun e w' => e = .returned (.tuple #[.slice A 2 2, .bool false]) ∧ Below w.heap.size w w' :=
  acc_old A 2 2 2 1 0 1 70 71 none 0 0 (by decide) (by decide) w
set_option maxRecDepth 100000 in
set_option maxHeartbeats 1000000 in
theorem once_val (w : World) : Calls Try.prog 4 #[] w fun e w' => e = .returned (.bool true) ∧ Below w.heap.size w w' := by
  have HR := root70
  have HS := seal70
  have H1 := acc_first
  have H2 := acc_second
  have H3 := acc_late
  unfold f70 at *
  have HR := Lib.hid HR
  have HS := Lib.hid HS
  have H1 := Lib.hid H1
  have H2 := Lib.hid H2
  have H3 := Lib.hid H3
  have hmk : ∀ W : World, (Instr.makeSlice 25 (.int .i64 2) (.int .i64 2)).run Try.prog W = .ok (.slice (some ⟨W.heap.size, 0, none⟩) 2 2) (W.alloc (.cells #[.int .i64 0, .int .u64 0, .int .i64 0, .int .u64 0] 49)) := fun _ => by kernel_rfl
  go_enter Try.func4, Try.ntmps4
  go_wp2_with fail
  refine (HR.out _).mono ?_
  rintro e w1 ⟨rfl, hb1⟩
  go_wp2_with fail
  refine (HS.out _).mono ?_
  rintro e w2 ⟨rfl, hb2⟩
  have hB2 := below_trans' hb1 hb2
  go_wp2_with fail
  obtain ⟨W3, hW3⟩ : ∃ W3, (w2.alloc (.cells #[.int .i64 2, .int .i64 1, .int .i64 0, .int .i64 70, .int .i64 1, .slice none 0 0] 31)).alloc (.cells #[.int .i64 0, .int .u64 0, .int .i64 0, .int .u64 0] 49) = W3 := ⟨_, rfl⟩
  rw [hW3]
  have hB3 : Below w.heap.size w W3 := by
    rw [← hW3]; exact (hB2.alloc hB2.size _).alloc (by have := hB2.size; simp; omega) _
  have BF : Blk W3 w2.heap.size 31 #[i64 2, i64 1, i64 0, i64 70, i64 1, .slice none 0 0] := by
    rw [← hW3]; exact (Blk.new w2 _ _).alloc _
  have BF := Lib.hid BF
  have LW : Win W3 (some ⟨w2.heap.size + 1, 0, none⟩) 2 2 [(0, 0), (0, 0)] := by
    rw [← hW3]
    have := World.ownsRow_lit (base := 0) (e := 49) (size := 2) (w2.alloc (.cells #[.int .i64 2, .int .i64 1, .int .i64 0, .int .i64 70, .int .i64 1, .slice none 0 0] 31)) #[.int .i64 0, .int .u64 0, .int .i64 0, .int .u64 0] 2 (Nat.zero_le _) (by decide) rfl
    rw [World.size_alloc] at this
    exact ⟨this, rfl⟩
  have LW := Lib.hid LW
  clear hb1 hb2 hB2 hW3 hmk
  have a0 : W3.cell? ⟨w2.heap.size, 0, none⟩ = some (i64 2) := BF.out.cell 0
  have a1 : W3.cell? ⟨w2.heap.size, 1, none⟩ = some (i64 1) := BF.out.cell 1
  have a2 : W3.cell? ⟨w2.heap.size, 2, none⟩ = some (i64 0) := BF.out.cell 2
  have a3 : W3.cell? ⟨w2.heap.size, 3, none⟩ = some (i64 70) := BF.out.cell 3
  have a4 : W3.cell? ⟨w2.heap.size, 4, none⟩ = some (i64 1) := BF.out.cell 4
  have a5 : W3.cell? ⟨w2.heap.size, 5, none⟩ = some (.slice none 0 0) := BF.out.cell 5
  go_upto_region 3 with fail
  go_cut [4, 5] (fun s4 s5 wx => s5 = .bool true ∧ ∃ A' c', s4 = .slice A' 2 c' ∧ Hid (Win wx A' 2 c' [(0, 0), (71, nb 0 0 71)]) ∧ Below W3.heap.size W3 wx)
  case first =>
    go_region_held3 (fun W => W.cell? ⟨w2.heap.size, 0, none⟩ = some (i64 2) ∧ W.cell? ⟨w2.heap.size, 1, none⟩ = some (i64 1) ∧ W.cell? ⟨w2.heap.size, 2, none⟩ = some (i64 0) ∧ W.cell? ⟨w2.heap.size, 3, none⟩ = some (i64 70) ∧ W.cell? ⟨w2.heap.size, 4, none⟩ = some (i64 1) ∧ W.cell? ⟨w2.heap.size, 5, none⟩ = some (.slice none 0 0)) (first | go_keep | (go_split_ands <;> assumption)) (first
      | (go_at_call 6; refine (HR.out _).mono ?_; rintro e w5 ⟨rfl, hb5⟩; have hD5 : Below W3.heap.size W3 w5 := ((Below.refl _ W3).drew).trans (hb5.mono (Nat.le_refl _)); have X5 := Lib.hid (BF.out.up' hD5); have b0 := X5.out.cell 0; have b1 := X5.out.cell 1; have b2 := X5.out.cell 2; have b3 := X5.out.cell 3; have b4 := X5.out.cell 4; have b5 := X5.out.cell 5; simp at b0 b1 b2 b3 b4 b5; clear hb5)
      | (go_at_call 7; refine (H1.out _ _ (LW.out.up hD5)).mono ?_; rintro e w6 ⟨⟨A6, c6, rfl, hw6⟩, hb6⟩; have hD6 := below_trans' hD5 hb6; have X6 := Lib.hid (BF.out.up' hD6); have d0 := X6.out.cell 0; have d1 := X6.out.cell 1; have d2 := X6.out.cell 2; have d3 := X6.out.cell 3; have d4 := X6.out.cell 4; have d5 := X6.out.cell 5; simp at d0 d1 d2 d3 d4 d5; have HW6 := Lib.hid hw6; clear hw6 hb6)
      | fail)
    all_goals
      go_wp2_with fail
      go_meet
      exact ⟨rfl, _, _, rfl, HW6, hD6⟩
  case rest =>
    obtain ⟨rfl, A', c', rfl, HWb, hbc⟩ := hcut
    have hup : ∀ a b, Below wc.heap.size wc a → Below a.heap.size a b → Below wc.heap.size wc b := fun a b h k => below_trans' h k
    have BFc := Lib.hid (BF.out.up' hbc)
    have HWs : Hid (∀ s : WOf (Below wc.heap.size wc), Win s.w A' 2 c' [(0, 0), (71, nb 0 0 71)]) := Lib.hid (fun s => HWb.out.up s.ok)
    have hB4 := Lib.hid (hB3.trans (hbc.mono hB3.size))
    clear hbc hB3 a0 a1 a2 a3 a4 a5
    have f0 : ∀ s : WOf (Below wc.heap.size wc), s.w.cell? ⟨w2.heap.size, 0, none⟩ = some (i64 2) := fun s => (BFc.out.up' s.ok).cell 0
    have f1 : ∀ s : WOf (Below wc.heap.size wc), s.w.cell? ⟨w2.heap.size, 1, none⟩ = some (i64 1) := fun s => (BFc.out.up' s.ok).cell 1
    have f2 : ∀ s : WOf (Below wc.heap.size wc), s.w.cell? ⟨w2.heap.size, 2, none⟩ = some (i64 0) := fun s => (BFc.out.up' s.ok).cell 2
    have f3 : ∀ s : WOf (Below wc.heap.size wc), s.w.cell? ⟨w2.heap.size, 3, none⟩ = some (i64 70) := fun s => (BFc.out.up' s.ok).cell 3
    have f4 : ∀ s : WOf (Below wc.heap.size wc), s.w.cell? ⟨w2.heap.size, 4, none⟩ = some (i64 1) := fun s => (BFc.out.up' s.ok).cell 4
    have f5 : ∀ s : WOf (Below wc.heap.size wc), s.w.cell? ⟨w2.heap.size, 5, none⟩ = some (.slice none 0 0) := fun s => (BFc.out.up' s.ok).cell 5
    go_wp2_with fail
    refine wp_region_ext (Below wc.heap.size wc) (Below.refl _ _) hup (by kernel_rfl) (by kernel_rfl) (fun hne => ?_)
    repeat (go_big_quiet_step (first | with_reducible exact calls_ext hup (HR.out _) | with_reducible exact calls_ext hup (H2.out _ _ _ (HWs.out _))))
    refine wpQuiet_nil ?_
    clear hne
    intro wd hx'
    obtain ⟨⟨w7, hx⟩, hx''⟩ := hx'
    replace hx'' : wd = w7 := hx''
    subst hx''
    replace hx : Below wc.heap.size wc wd := hx
    have BFd := Lib.hid (BFc.out.up' hx)
    have hB5 := Lib.hid (hB4.out.trans (hx.mono hB4.out.size))
    have hup2 : ∀ a b, Below wd.heap.size wd a → Below a.heap.size a b → Below wd.heap.size wd b := fun a b h k => below_trans' h k
    clear hx f0 f1 f2 f3 f4 f5 HWs
    have f0 : ∀ s : WOf (Below wd.heap.size wd), s.w.cell? ⟨w2.heap.size, 0, none⟩ = some (i64 2) := fun s => (BFd.out.up' s.ok).cell 0
    have f1 : ∀ s : WOf (Below wd.heap.size wd), s.w.cell? ⟨w2.heap.size, 1, none⟩ = some (i64 1) := fun s => (BFd.out.up' s.ok).cell 1
    have f2 : ∀ s : WOf (Below wd.heap.size wd), s.w.cell? ⟨w2.heap.size, 2, none⟩ = some (i64 0) := fun s => (BFd.out.up' s.ok).cell 2
    have f3 : ∀ s : WOf (Below wd.heap.size wd), s.w.cell? ⟨w2.heap.size, 3, none⟩ = some (i64 70) := fun s => (BFd.out.up' s.ok).cell 3
    have f4 : ∀ s : WOf (Below wd.heap.size wd), s.w.cell? ⟨w2.heap.size, 4, none⟩ = some (i64 1) := fun s => (BFd.out.up' s.ok).cell 4
    have f5 : ∀ s : WOf (Below wd.heap.size wd), s.w.cell? ⟨w2.heap.size, 5, none⟩ = some (.slice none 0 0) := fun s => (BFd.out.up' s.ok).cell 5
    go_wp2_with fail
    refine wp_region_ext (Below wd.heap.size wd) (Below.refl _ _) hup2 (by kernel_rfl) (by kernel_rfl) (fun hne => ?_)
    repeat (go_big_quiet_step (first | with_reducible exact calls_ext hup2 (HR.out _) | with_reducible exact calls_ext hup2 (H3.out _ _)))
    refine wpQuiet_nil ?_
    clear hne
    intro wx hx'
    obtain ⟨⟨_, hx⟩, hx''⟩ := hx'
    subst hx''
    have hB6 := hB5.out.trans (hx.mono hB5.out.size)
    go_wp2_with fail
    go_ret
    exact ⟨rfl, hB6⟩
end Go.Proofs.Ytineokopmdjapaa.Oa
