/- What ends a command: the deferred closure; the moves' closure. -/
import Derived.Recover
import Derived.Test.YtmdogklgbifacaaDoorPsTabs
namespace Go.Proofs.YtmdogklgbifacaaDoor.Ps
open Go.RowKit Go.Proofs.YtmdogklgbifacaaDoor.Lx Go.Proofs.YtmdogklgbifacaaDoor.Pr
set_option linter.unusedVariables false

theorem end_panic (c0 c1 : Nat) (x : Value) (y : Value) (p : Nat) (older : List PanicEntry) (w : World) (h0 : w.cell? ⟨c0, 0, none⟩ = some x) (z0 : w.frozen? ⟨c0, 0, none⟩ = false) (h1 : w.cell? ⟨c1, 0, none⟩ = some y) (z1 : w.frozen? ⟨c1, 0, none⟩ = false) (hne : c1 ≠ c0) :
    CallsD Tryd.prog 52 #[.pointer (some ⟨c0, 0, none⟩), .pointer (some ⟨c1, 0, none⟩)] (.panicking ({ v := FV p, recovered := false } :: older)) w fun e u' w' =>
      e = .returned (.tuple #[]) ∧ u' = .panicking ({ v := FV p, recovered := true } :: older) ∧ w' = (w.setCell ⟨c0, 0, none⟩ (.int .i64 (p : Nat))).setCell ⟨c1, 0, none⟩ (.bool false) := by
  have h1' : (w.setCell ⟨c0, 0, none⟩ (.int .i64 (p : Nat))).cell? ⟨c1, 0, none⟩ = some y := by
    rw [World.cell?_setCell_far _ _ _ _ (show c0 ≠ c1 from fun q => hne q.symm)]; exact h1
  have hfd : ∀ w : World, (Instr.field 91 (.agg #[.int .i64 (p : Nat)]) 0).run Tryd.prog w = .ok (.int .i64 (p : Nat)) w := fun w => by kernel_rfl
  have hta : ∀ (v : Value) (w : World), (Instr.typeAssert (.iface 91 v) 20 91 false).run Tryd.prog w = .ok v w := fun v w => by kernel_rfl
  unfold FV
  refine callsD_of_wpS Tryd.func52 rfl fun c₀ cs hu => ?_
  apply wpS_seq
  apply wpS_region
  simp [wpOpsS, go_sem, recoverD, hu, Tryd.ntmps52, Exit.thenS]
  apply wpS_seq
  apply wpS_region
  simp [wpOpsS, go_sem, Exit.thenS, Array.replicate, List.replicate]
  refine wpS_cond (t := true) (by simp [Act.eval]) ?_
  simp only [if_true]
  apply wpS_region
  simp [wpOpsS, go_sem, h0, z0, h1', z1, hfd, hta, bodyPostS, results, Tryd.results52]
theorem end_idle (c0 c1 : Nat) (w : World) :
    CallsD Tryd.prog 52 #[.pointer (some ⟨c0, 0, none⟩), .pointer (some ⟨c1, 0, none⟩)] .returning w fun e u' w' => e = .returned (.tuple #[]) ∧ u' = .returning ∧ w' = w := by
  refine callsD_of_wpS Tryd.func52 rfl fun c₀ cs hu => ?_
  apply wpS_seq
  apply wpS_region
  simp [wpOpsS, go_sem, recoverD, hu, Tryd.ntmps52, Exit.thenS]
  apply wpS_seq
  apply wpS_region
  simp [wpOpsS, go_sem, Exit.thenS, Array.replicate, List.replicate]
  refine wpS_cond (t := false) (by simp [Act.eval]) ?_
  simp only [Bool.false_eq_true, if_false]
  refine wpS_of_wp (wp_skip ?_)
  cases c₀
  simp_all [bodyPostS, results, Tryd.results52]
set_option maxRecDepth 100000 in
set_option maxHeartbeats 2000000 in
theorem e1_val {wP W : World} {rb e n c kb : Nat} {A : Option Addr} {ts : List Tok} {K : Int} {nm : ByteArray} {NV : Value} {ns : List Int} {at_ : Int} (many : Nat) (hmany : many ≤ 2) (hnl : ns.length ≤ 2) (hw : Wf ts) (hkb : Blk W kb 3 #[.int .i64 (many : Nat)]) (hkn : NV.ownBlock ≠ some kb) (h : RS wP rb e A n c ts K nm NV ns at_ W) :
    Calls Tryd.prog 82 #[.pointer (some ⟨rb, 0, none⟩), .pointer (some ⟨kb, 0, none⟩)] W (Post wP rb e ([[110]] ++ rep many) ts K nm NV ns at_ W) := by
  have HQ0 := Lib.hid (name_val hw h)
  have HNE := Lib.hid (blk_ne hkb h.blk (by decide))
  have HKB := Lib.hid hkb
  clear h hkb
  go_enter Tryd.func82, Tryd.ntmps82
  go_wp2_with fail
  refine HQ0.out.mono ?_
  intro e1 w1 hp
  rcases hp.cases (by decide) with ⟨rfl, hm1, A1, n1, c1, nm1, NV1, ns1, hr1, hn1, hg1, hc1⟩ | ⟨p, rfl, hf⟩
  · have hnl1 : ns1.length ≤ 3 := by
      rw [hn1, List.length_append]
      have := nsB_len false ts [[110]]
      simp only [List.length_cons, List.length_nil] at this
      omega
    have c1 := (hg1.blk HKB.out HNE.out (fun q => hkn q.symm)).cell 0
    rw [show (#[Value.int .i64 (many : Nat)] : Array Value)[0]? = some (.int .i64 (many : Nat)) from rfl] at c1
    have HQ1 := Lib.hid (nums_val many (by omega) (by omega) (hw.drop 1) hr1)
    have HC1 := Lib.hid hc1
    clear hm1 hr1 hn1 hg1 hc1 hp
    go_wp2_with fail
    refine HQ1.out.mono ?_
    intro e2 w2 hq
    have HZ := Lib.hid (HC1.out _ _ _ hq)
    rcases hq.cases (rep_last many) with ⟨rfl, _, _⟩ | ⟨p, rfl, hf⟩
    · clear hq
      go_wp2_with fail
      go_end0
      exact HZ.out
    · exact ⟨rfl, HZ.out⟩
  · exact ⟨rfl, hf _⟩
end Go.Proofs.YtmdogklgbifacaaDoor.Ps
