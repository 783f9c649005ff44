/- slices.Chunk(l, 2): an iterator over the pairs (or the rest) of a slice. -/
import Derived.RangeFuncNested
import Derived.RangeFuncBound
import Derived.RangeFuncCalls
import Derived.RangeFuncLeaves
import Derived.Shelf.Abstract
import Derived.Shelf.RegionOpen
import Derived.OwnWalkIn
import Derived.TacticsInMore
import Derived.LoopNIn
import Derived.LoopIn
import Derived.Test.YthaibmkieflafaaQt
import Derived.Test.YthaibmkieflafaaTrWalk
namespace Go.Proofs.Ythaibmkieflafaa.Tr
open Go.RowKit Go.Shelf Go.Proofs.Ythaibmkieflafaa.Dig
set_option linter.unusedVariables false
attribute [local go_sem] Oper.semAt_some

/-- What a round keeps: all below n₀, and two blocks. -/
def Kp (n₀ Bw Bi : Nat) (W W' : World) : Prop := Below n₀ W W' ∧ W'.heap[Bw]? = W.heap[Bw]? ∧ W'.heap[Bi]? = W.heap[Bi]?
theorem Kp.trans {n₀ Bw Bi : Nat} {A B C : World} (h : Kp n₀ Bw Bi A B) (k : Kp n₀ Bw Bi B C) : Kp n₀ Bw Bi A C := ⟨h.1.trans k.1, k.2.1.trans h.2.1, k.2.2.trans h.2.2⟩
theorem Kp.refl (n₀ Bw Bi : Nat) (W : World) : Kp n₀ Bw Bi W W := ⟨Below.refl _ _, rfl, rfl⟩
theorem Kp.of_below {n₀ Bw Bi : Nat} {W W' : World} (hb : Below W.heap.size W W') (h0 : n₀ ≤ W.heap.size) (h1 : Bw < W.heap.size) (h2 : Bi < W.heap.size) : Kp n₀ Bw Bi W W' := ⟨hb.mono h0, hb.block _ h1, hb.block _ h2⟩

/-- How many elements lie in pair x of n elements. -/
def cnt (n x : Nat) : Nat := if 2 * x + 1 < n then 2 else 1
def chv (b off n x : Nat) : Value := .slice (some ⟨b, off + 2 * x, none⟩) (cnt n x) (cnt n x)

theorem chv2 (b off n k : Nat) (h : 2 * k + 1 < n) : chv b off n k = .slice (some ⟨b, off + 2 * k, none⟩) 2 2 := by
  unfold chv cnt
  rw [if_pos h]
theorem chv1 (b off n k : Nat) (h0 : 2 * k < n) (h : ¬ 2 * k + 1 < n) : chv b off n k = .slice (some ⟨b, off + 2 * k, none⟩) (n - 2 * k) (n - 2 * k) := by
  unfold chv cnt
  rw [if_neg h, show n - 2 * k = 1 by omega]

set_option maxRecDepth 100000 in
set_option maxHeartbeats 2000000 in
theorem chunk1_in (l₀ Bs Bn n₀ b off n c : Nat) (hn : n ≤ 16) (hc : n ≤ c) (J Jx : List (Fin (prs n)) → World → Prop)
    (hY : ∀ pre x W, J pre W → pre.length < prs n → YieldAt Fence.wide 3 Try.prog l₀ #[chv b off n x.1] W fun e W' =>
      (e = .returned (.bool true) ∧ J (pre ++ [x]) W' ∧ Kp n₀ Bs Bn W W') ∨ (e = .returned (.bool false) ∧ Jx (pre ++ [x]) W'))
    (hJ : ∀ pre W W', J pre W → Below W.heap.size W W' → J pre W')
    (W : World) (hw1 : Blk W Bs 39 #[.slice (some ⟨b, off, none⟩) n c]) (hw2 : Blk W Bn 3 #[i64 2]) (hn₀ : n₀ ≤ W.heap.size) (h0 : J [] W) :
    CallsIn Fence.wide 4 Try.prog 56 #[.func (.yield l₀) #[] #[], .pointer (some ⟨Bs, 0, none⟩), .pointer (some ⟨Bn, 0, none⟩)] W fun e W' => (∃ v, e = .returned v) ∧
      ((∃ ys, ys = List.finRange (prs n) ∧ J ys W') ∨ (∃ pre, pre <+: List.finRange (prs n) ∧ Jx pre W')) := by
  have H0 := Lib.hid h0; clear h0
  have HW1 := Lib.hid hw1; clear hw1
  have HW2 := Lib.hid hw2; clear hw2
  refine callsIn_of_wp Try.func56 rfl trivial ?_ rfl
  simp only [Try.ntmps56, List.size_toArray, List.length_cons, List.length_nil, Nat.reduceAdd, Nat.reduceSub, Array.replicate_succ, Array.replicate_zero, List.push_toArray, List.append_toArray, List.nil_append, List.cons_append]
  gi_wp2
  gi_loopw [4] (fun j wr => ∃ k : Nat, k ≤ prs n ∧ j = .int .i64 (2 * k : Nat) ∧ Hid (J ((List.finRange (prs n)).take k) wr) ∧ Kp n₀ Bs Bn W wr)
    (fun j _ => 2 * prs n - (intOf j).toNat)
  case atStart => exact ⟨0, Nat.zero_le _, rfl, H0, Kp.refl _ _ _ _⟩
  case round =>
    obtain ⟨k, hkn, rfl, HJ, hnx⟩ := hrel
    have gw1 : Blk wr Bs 39 #[.slice (some ⟨b, off, none⟩) n c] := hnx.2.1.trans HW1.out
    have gw2 : Blk wr Bn 3 #[i64 2] := hnx.2.2.trans HW2.out
    have k1 : wr.cell? ⟨Bs, 0, none⟩ = some (.slice (some ⟨b, off, none⟩) n c) := gw1.cell 0
    by_cases hlt : 2 * k < n
    · have hkp : k < prs n := by unfold prs; omega
      have hlt' : ((2 * k : Nat) : Int) < n := by omega
      obtain ⟨q, hq, hq2⟩ : ∃ q : Nat, q = cnt n k ∧ (q : Int) = min 2 ((n : Int) - (2 * k : Nat)) := ⟨_, rfl, by unfold cnt; split <;> omega⟩
      have f1 : ∀ s : WOf (Below wr.heap.size wr), s.w.cell? ⟨Bs, 0, none⟩ = some (.slice (some ⟨b, off, none⟩) n c) := fun s => (gw1.up' s.ok).cell 0
      have f2 : ∀ s : WOf (Below wr.heap.size wr), s.w.cell? ⟨Bn, 0, none⟩ = some (i64 2) := fun s => (gw2.up' s.ok).cell 0
      have hup : ∀ a b, Below wr.heap.size wr a → Below a.heap.size a b → Below wr.heap.size wr b := fun a b h k => below_trans' h k
      gi_wp2_with fail
      refine wpIn_region_ext' WideF.plain (Below wr.heap.size wr) (Below.refl _ _) hup (by kernel_rfl) (by kernel_rfl) (by kernel_rfl) (fun hne => ?_)
      try simp only [List.append_eq, List.cons_append, List.nil_append]
      repeat (go_big_quiet_step (fail))
      refine wpQuiet_nil ?_
      clear hne
      intro wx hx'
      obtain ⟨⟨_, hx⟩, hx''⟩ := hx'
      subst hx''
      have hbx := (Below.refl wr.heap.size wr).trans hx
      have hJn := hJ _ _ _ HJ.out hx
      have hKn := hnx.trans (Kp.of_below hx (Nat.le_trans hn₀ hnx.1.size) gw1.lt gw2.lt)
      have k1 : wx.cell? ⟨Bs, 0, none⟩ = some (.slice (some ⟨b, off, none⟩) n c) := (gw1.up' hx).cell 0
      have k2 : wx.cell? ⟨Bn, 0, none⟩ = some (i64 2) := (gw2.up' hx).cell 0
      clear f1 f2
      have hlen : ((List.finRange (prs n)).take k).length < prs n := by simp; omega
      obtain ⟨fn, tmps, assign, body, hy, hRd⟩ := hY _ ⟨k, hkp⟩ wx hJn hlen
      have HE : Hid ((List.finRange (prs n)).take (k + 1) = (List.finRange (prs n)).take k ++ [⟨k, hkp⟩]) := by
        show _ = _
        rw [List.take_succ_eq_append_getElem (by simpa using hkp)]
        simp
      have HP : Hid ((List.finRange (prs n)).take (k + 1) <+: List.finRange (prs n)) := List.take_prefix _ _
      clear hJn hlen
      by_cases h2 : 2 * k + 1 < n
      · rw [chv2 b off n k h2] at hy
        gi_wp2_with fail
        refine hRd.mono ?_
        rintro e W3 (⟨rfl, hJ3, hk3⟩ | ⟨rfl, hJx3⟩)
        · have HJ3 := Lib.hid hJ3; clear hJ3
          have hK3 := hKn.trans hk3
          have k2 : W3.cell? ⟨Bn, 0, none⟩ = some (i64 2) := (show Blk W3 Bn 3 #[i64 2] from hK3.2.2.trans HW2.out).cell 0
          gi_wp2_with fail
          go_roundw
          case rel => exact ⟨k + 1, by omega, by go_num, by rw [HE.out]; exact HJ3, hK3⟩
          case measure => simp [intOf]; omega
        · have HJx3 := Lib.hid hJx3; clear hJx3
          gi_wp2_with fail
          refine bodyPost_ret (results_none rfl _ _ _) rfl ?_
          exact ⟨⟨_, rfl⟩, .inr ⟨_, by rw [← HE.out]; exact HP.out, HJx3⟩⟩
      · rw [chv1 b off n k hlt h2] at hy
        gi_wp2_with fail
        refine hRd.mono ?_
        rintro e W3 (⟨rfl, hJ3, hk3⟩ | ⟨rfl, hJx3⟩)
        · have HJ3 := Lib.hid hJ3; clear hJ3
          have hK3 := hKn.trans hk3
          have k2 : W3.cell? ⟨Bn, 0, none⟩ = some (i64 2) := (show Blk W3 Bn 3 #[i64 2] from hK3.2.2.trans HW2.out).cell 0
          gi_wp2_with fail
          go_roundw
          case rel => exact ⟨k + 1, by omega, by go_num, by rw [HE.out]; exact HJ3, hK3⟩
          case measure => simp [intOf]; omega
        · have HJx3 := Lib.hid hJx3; clear hJx3
          gi_wp2_with fail
          refine bodyPost_ret (results_none rfl _ _ _) rfl ?_
          exact ⟨⟨_, rfl⟩, .inr ⟨_, by rw [← HE.out]; exact HP.out, HJx3⟩⟩
    · have hkp : k = prs n := by unfold prs at *; omega
      have hlt' : (n : Int) ≤ ((2 * k : Nat) : Int) := by omega
      have HJ2 : Hid (J (List.finRange (prs n)) wr) := by rw [hkp] at HJ; rwa [show (List.finRange (prs n)).take (prs n) = List.finRange (prs n) from List.take_of_length_le (by simp)] at HJ
      clear HJ hkp hkn
      gi_wp2_with fail
      go_end0
      exact ⟨⟨_, rfl⟩, .inl ⟨_, rfl, HJ2.out⟩⟩

theorem chunk_in (v : Value) (w : World) (A : Option Addr) (n c : Nat) (hv : v = .slice A n c) :
    CallsIn Fence.wide 4 Try.prog 53 #[v, i64 2] w fun e w' => e = .returned (.func (.func 56) #[] #[.pointer (some ⟨w.heap.size, 0, none⟩), .pointer (some ⟨w.heap.size + 1, 0, none⟩)]) ∧
      (w.alloc (.cells #[v] 39)).alloc (.cells #[i64 2] 3) = w' := by
  subst hv
  refine callsIn_of_wp Try.func53 rfl trivial ?_ rfl
  simp only [Try.ntmps53, List.size_toArray, List.length_cons, List.length_nil, Nat.reduceAdd, Nat.reduceSub, Array.replicate_succ, Array.replicate_zero, List.push_toArray, List.append_toArray, List.nil_append, List.cons_append]
  gi_wp2
  go_ret
  exact ⟨rfl, rfl⟩

theorem chunk_stops (Bs Bn n₀ b off n c : Nat) (hn : n ≤ 16) (hc : n ≤ c) (w : World)
    (hw1 : Blk w Bs 39 #[.slice (some ⟨b, off, none⟩) n c]) (hw2 : Blk w Bn 3 #[i64 2]) (hn₀ : n₀ ≤ w.heap.size) :
    SeqStopsK Fence.wide 4 Try.prog 56 #[.pointer (some ⟨Bs, 0, none⟩), .pointer (some ⟨Bn, 0, none⟩)] (fun x : Fin (prs n) => #[chv b off n x.1]) (Kp n₀ Bs Bn) (fun ys => ys = List.finRange (prs n)) (fun pre => pre <+: List.finRange (prs n)) (prs n) w :=
  fun l J Jx W hW hJ _ hY h0 =>
    chunk1_in l Bs Bn n₀ b off n c hn hc J Jx hY (fun pre W1 W2 h hb => hJ pre W1 W2 none h ⟨hb.os, hb.tape, hb.output, hb.size, fun i hi _ => hb.block i hi⟩ (fun r e => by cases e)) W (hw1.up' hW) (hw2.up' hW) (Nat.le_trans hn₀ hW.size) h0
end Go.Proofs.Ythaibmkieflafaa.Tr
