/- keyring.Root. -/
import Derived.Deep.QuietTactic
import Derived.BigQuiet
import Derived.Test.YtineokopmdjapaaOaSeal
namespace Go.Proofs.Ytineokopmdjapaa.Oa
open Go.RowKit
set_option linter.unusedVariables false

theorem rd_int {w : World} {B n : Nat} {A : Option Addr} {l : List Int} (hR : Rd w B 1 A n (l.map i64)) {k : Nat} (hk : k < n) : ∃ b off, A = some ⟨b, off, none⟩ ∧ b < B ∧ ∃ hl : k < l.length, w.cell? ⟨b, off + k, none⟩ = some (i64 l[k]) := by
  have hl : k < l.length := by have := hR.1; simp at this; omega
  obtain ⟨b, off, u, e, hb, hx, hc⟩ := hR.at_ hk
  refine ⟨b, off, e, hb, hl, ?_⟩
  rw [List.getElem?_map, List.getElem?_eq_getElem hl] at hx
  rw [hc, ← hx]; rfl

theorem within_val (A : Option Addr) (n c : Nat) (l : List Int) (hs : ∀ k, (h : k + 1 < l.length) → l[k] ≤ l[k + 1]) (w : World) (hR : Rd w w.heap.size 1 A n (l.map i64)) (hn : n ≤ maxLen) :
    Calls Try.prog 16 #[.slice A n c] w fun e w' => e = .returned (.bool true) ∧ Below w.heap.size w w' := by
  unfold maxLen at hn
  have HR := Lib.hid hR; clear hR
  go_enter Try.func16, Try.ntmps16
  go_wp2_with fail
  go_loopw [3] (fun i wr => ∃ k : Nat, i = i64 ((k + 1 : Nat) : Int) ∧ (k ≤ n) ∧ Below w.heap.size w wr) (fun i _ => n + 1 - (intOf i).toNat)
  case atStart => exact ⟨0, rfl, Nat.zero_le _, Below.refl _ _⟩
  case round =>
    obtain ⟨k, rfl, hk, hB⟩ := hrel
    by_cases hlt : k + 1 < n
    · obtain ⟨b, off, rfl, hb, hl1, hc1⟩ := rd_int (HR.out.below hB) hlt
      obtain ⟨b', off', e', hb', hl0, hc0⟩ := rd_int (HR.out.below hB) (show k < n by omega)
      obtain ⟨rfl, rfl⟩ : b' = b ∧ off' = off := by cases e'; exact ⟨rfl, rfl⟩
      have hle := hs k hl1
      have hw1 : IntKind.i64.wrap ((k : Int) + 1 - 1) = (k : Int) := by rw [Go.IntWalk.i64_in _ (by omega)]; omega
      have hk0 : (k : Int) + 1 - 1 = (k : Int) := by omega
      have hlt' : ((k : Int) + 1) < (n : Int) := by omega
      go_wp2_with fail
      go_quiet (fail)
      go_wp2_with fail
      go_roundw
      case rel => exact ⟨k + 1, by go_num, by omega, below_drewN' hB _⟩
      case measure => simp [intOf]; omega
    · have hlt' : ¬ ((k : Int) + 1) < (n : Int) := by omega
      go_wp2_with fail
      go_ret
      exact ⟨rfl, hB⟩

theorem epoch_val (n : Nat) (hn : n ≤ 1000000000) (w : World) :
    Calls Try.prog 11 #[i64 (n : Nat)] w fun e w' => e = .returned (.tuple #[i64 ((n / 2000 : Nat) : Int), i64 0]) ∧ Below w.heap.size w w' := by
  have h0 : (0 : Int) ≤ (n : Int) := by omega
  have h1 : (n : Int) ≤ 1000000000 := by omega
  have hR := Rd.new w 3 #[i64 0, i64 (n : Nat), i64 1000000000] (0, 0) 1 3 rfl
  have hW := Lib.hid (within_val _ 3 3 [0, (n : Int), 1000000000] (by
    intro k h
    match k, h with
    | 0, _ => exact h0
    | 1, _ => exact h1) _ hR (by decide))
  have hq : IntKind.i64.wrap ((n : Int).tdiv 2000) = ((n / 2000 : Nat) : Int) := by
    rw [Int.tdiv_eq_ediv_of_nonneg h0, Go.IntWalk.i64_in _ (by omega)]; omega
  have hb0 : Below w.heap.size w (w.alloc (.cells #[i64 0, i64 (n : Nat), i64 1000000000] 3)) := (Below.refl _ w).alloc (Nat.le_refl _) _
  go_enter Try.func11, Try.ntmps11
  go_wp2_with fail
  refine hW.out.mono ?_
  rintro e w1 ⟨rfl, hb1⟩
  have hB := below_trans' hb0 hb1
  go_wp2_with fail
  go_ret2
  exact ⟨rfl, hB⟩

def rv (n : Nat) : Value := .agg #[i64 ((n / 2000 : Nat) : Int), i64 ((n / 2000 + 2 : Nat) : Int)]
theorem root_val (n : Nat) (hn : n ≤ 1000000000) (w : World) :
    Calls Try.prog 6 #[i64 (n : Nat)] w fun e w' => e = .returned (rv n) ∧ Below w.heap.size w w' := by
  unfold rv
  have hE := epoch_val n hn
  obtain ⟨q, hq⟩ : ∃ q, n / 2000 = q := ⟨_, rfl⟩
  have hq1 : q ≤ 500000 := by omega
  simp only [hq] at hE ⊢
  clear hq
  have hE := Lib.hid hE
  have hb0 : Below w.heap.size w (w.alloc (.cells #[i64 0, i64 0] 36)) := (Below.refl _ w).alloc (Nat.le_refl _) _
  go_enter Try.func6, Try.ntmps6
  go_wp2_with fail
  refine (hE.out _).mono ?_
  rintro e w1 ⟨rfl, hb1⟩
  have hB := below_trans' hb0 hb1
  have K := Lib.hid ((Blk.new w 36 #[i64 0, i64 0]).up' hb1)
  have b0 := K.out.cell 0
  have b1 := K.out.cell 1
  have f0 := K.out.frozen 0
  have f1 := K.out.frozen 1
  go_wp2_with fail
  have M := (K.out.set_ 0 (i64 (q : Nat))).set_ 1 (i64 ((q : Int) + 2))
  have hB3 := (hB.setCell (p := ⟨w.heap.size, 0, none⟩) (Nat.le_refl _) (i64 (q : Nat))).setCell (p := ⟨w.heap.size, 1, none⟩) (Nat.le_refl _) (i64 ((q : Int) + 2))
  obtain ⟨wf, hwf⟩ : ∃ wf, ((w1.setCell ⟨w.heap.size, 0, none⟩ (i64 (q : Nat))).setCell ⟨w.heap.size, 1, none⟩ (i64 ((q : Int) + 2))) = wf := ⟨_, rfl⟩
  rw [hwf] at M hB3
  have m0 : wf.cell? ⟨w.heap.size, 0, none⟩ = some (i64 (q : Nat)) := M.cell 0
  have m1 : wf.cell? ⟨w.heap.size, 1, none⟩ = some (i64 ((q : Int) + 2)) := M.cell 1
  rw [hwf]
  refine bodyPost_ret (v := .agg #[i64 (q : Nat), i64 ((q : Int) + 2)]) ?_ rfl ⟨rfl, hB3⟩
  simp [results, go_sem, m0, m1]
end Go.Proofs.Ytineokopmdjapaa.Oa
