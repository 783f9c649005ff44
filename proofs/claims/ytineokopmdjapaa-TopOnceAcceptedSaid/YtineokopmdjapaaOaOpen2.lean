/- seal.Open. -/
import Derived.Test.YtineokopmdjapaaOaOpen
namespace Go.Proofs.Ytineokopmdjapaa.Oa
open Go.RowKit
set_option linter.unusedVariables false

theorem run_store_func {P : Program} {w : World} {a : Addr} {m : Mode} (f : Fn) (b c : Array Value) : (store a (.func f b c) m).run P w = stored P w a (.func f b c) m := run_store P w a _ m rfl
attribute [local go_sem] run_store_func Instr.index

def fv (kd fr to asn key : Int) (body : Value) : Value := .agg #[i64 kd, i64 fr, i64 to, i64 asn, i64 key, body]

theorem open_old (kd fr to key : Int) (a n : Nat) (A : Option Addr) (m c : Nat) (h : a ≠ n) (hn : n ≤ 1000000000) (w : World) :
    Calls Try.prog 12 #[fv kd fr to (a : Nat) key (.slice A m c), rv n, i64 (n : Nat)] w fun e w' => e = .returned (i64 14) ∧ Below w.heap.size w w' := by
  unfold fv rv
  obtain ⟨q, hq⟩ : ∃ q, n / 2000 = q := ⟨_, rfl⟩
  have e2 : ((q + 2 : Nat) : Int) = (q : Int) + 2 := by omega
  simp only [hq, e2]
  clear hq e2
  obtain ⟨W4, hW4⟩ : ∃ W4, ((((w.alloc (.cells #[i64 kd, i64 fr, i64 to, i64 (a : Nat), i64 key, .slice A m c] 31)).alloc (.cells #[i64 (q : Nat), i64 ((q : Int) + 2)] 36)).alloc (.cells #[i64 (n : Nat)] 3)).alloc (.cells #[Value.nilFunc, Value.nilFunc, Value.nilFunc] 58)) = W4 := ⟨_, rfl⟩
  have BK : Blk W4 (w.heap.size + 1 + 1 + 1) 58 #[Value.nilFunc, Value.nilFunc, Value.nilFunc] := by
    have := Blk.new (((w.alloc (.cells #[i64 kd, i64 fr, i64 to, i64 (a : Nat), i64 key, .slice A m c] 31)).alloc (.cells #[i64 (q : Nat), i64 ((q : Int) + 2)] 36)).alloc (.cells #[i64 (n : Nat)] 3)) 58 #[Value.nilFunc, Value.nilFunc, Value.nilFunc]
    rw [hW4] at this
    simpa using this
  have b0 : W4.cell? ⟨w.heap.size + 1 + 1 + 1, 0, none⟩ = some Value.nilFunc := BK.cell 0
  have b1 : W4.cell? ⟨w.heap.size + 1 + 1 + 1, 1, none⟩ = some Value.nilFunc := BK.cell 1
  have b2 : W4.cell? ⟨w.heap.size + 1 + 1 + 1, 2, none⟩ = some Value.nilFunc := BK.cell 2
  have g0 := BK.frozen 0
  have g1 := BK.frozen 1
  have g2 := BK.frozen 2
  have hB4 : Below w.heap.size w W4 := by
    rw [← hW4]
    exact ((((Below.refl _ w).alloc (Nat.le_refl _) _).alloc (by simp) _).alloc (by simp; omega) _).alloc (by simp; omega) _
  have BF : Blk W4 w.heap.size 31 #[i64 kd, i64 fr, i64 to, i64 (a : Nat), i64 key, .slice A m c] := by
    rw [← hW4]
    exact (((Blk.new w _ _).alloc _).alloc _).alloc _
  have BN : Blk W4 (w.heap.size + 1 + 1) 3 #[i64 (n : Nat)] := by
    rw [← hW4]
    have := (Blk.new ((w.alloc (.cells #[i64 kd, i64 fr, i64 to, i64 (a : Nat), i64 key, .slice A m c] 31)).alloc (.cells #[i64 (q : Nat), i64 ((q : Int) + 2)] 36)) 3 #[i64 (n : Nat)]).alloc (.cells #[Value.nilFunc, Value.nilFunc, Value.nilFunc] 58)
    simpa using this
  obtain ⟨W5, hW5⟩ : ∃ W5, (((W4.setCell ⟨w.heap.size + 1 + 1 + 1, 0, none⟩ (Value.func (Fn.func 17) #[] #[Value.pointer (some ⟨w.heap.size + 1 + 1, 0, none⟩)])).setCell ⟨w.heap.size + 1 + 1 + 1, 1, none⟩ (Value.func (Fn.func 18) #[] #[Value.pointer (some ⟨w.heap.size, 0, none⟩), Value.pointer (some ⟨w.heap.size + 1 + 1, 0, none⟩)])).setCell ⟨w.heap.size + 1 + 1 + 1, 2, none⟩ (Value.func (Fn.func 20) #[] #[Value.pointer (some ⟨w.heap.size, 0, none⟩), Value.pointer (some ⟨w.heap.size + 1 + 1, 0, none⟩), Value.pointer (some ⟨w.heap.size + 1, 0, none⟩)])) = W5 := ⟨_, rfl⟩
  have hB5 : Below w.heap.size w W5 := by
    rw [← hW5]
    exact ((hB4.setCell (p := ⟨w.heap.size + 1 + 1 + 1, 0, none⟩) (by simp; omega) _).setCell (p := ⟨w.heap.size + 1 + 1 + 1, 1, none⟩) (by simp; omega) _).setCell (p := ⟨w.heap.size + 1 + 1 + 1, 2, none⟩) (by simp; omega) _
  have c3 : W5.cell? ⟨w.heap.size, 3, none⟩ = some (i64 (a : Nat)) := by
    rw [← hW5]
    exact (((BF.far (p := ⟨w.heap.size + 1 + 1 + 1, 0, none⟩) (by simp; omega) _).far (p := ⟨w.heap.size + 1 + 1 + 1, 1, none⟩) (by simp; omega) _).far (p := ⟨w.heap.size + 1 + 1 + 1, 2, none⟩) (by simp; omega) _).cell 3
  have c0 : W5.cell? ⟨w.heap.size + 1 + 1, 0, none⟩ = some (i64 (n : Nat)) := by
    rw [← hW5]
    exact (((BN.far (p := ⟨w.heap.size + 1 + 1 + 1, 0, none⟩) (by simp) _).far (p := ⟨w.heap.size + 1 + 1 + 1, 1, none⟩) (by simp) _).far (p := ⟨w.heap.size + 1 + 1 + 1, 2, none⟩) (by simp) _).cell 0
  have MK := ((BK.set_ 0 (Value.func (Fn.func 17) #[] #[Value.pointer (some ⟨w.heap.size + 1 + 1, 0, none⟩)])).set_ 1 (Value.func (Fn.func 18) #[] #[Value.pointer (some ⟨w.heap.size, 0, none⟩), Value.pointer (some ⟨w.heap.size + 1 + 1, 0, none⟩)])).set_ 2 (Value.func (Fn.func 20) #[] #[Value.pointer (some ⟨w.heap.size, 0, none⟩), Value.pointer (some ⟨w.heap.size + 1 + 1, 0, none⟩), Value.pointer (some ⟨w.heap.size + 1, 0, none⟩)])
  rw [hW5] at MK
  have d0 : W5.cell? ⟨w.heap.size + 1 + 1 + 1, 0, none⟩ = some (Value.func (Fn.func 17) #[] #[Value.pointer (some ⟨w.heap.size + 1 + 1, 0, none⟩)]) := MK.cell 0
  have d1 : W5.cell? ⟨w.heap.size + 1 + 1 + 1, 1, none⟩ = some (Value.func (Fn.func 18) #[] #[Value.pointer (some ⟨w.heap.size, 0, none⟩), Value.pointer (some ⟨w.heap.size + 1 + 1, 0, none⟩)]) := MK.cell 1
  have d2 : W5.cell? ⟨w.heap.size + 1 + 1 + 1, 2, none⟩ = some (Value.func (Fn.func 20) #[] #[Value.pointer (some ⟨w.heap.size, 0, none⟩), Value.pointer (some ⟨w.heap.size + 1 + 1, 0, none⟩), Value.pointer (some ⟨w.heap.size + 1, 0, none⟩)]) := MK.cell 2
  clear BF BN BK hB4 MK
  go_enter Try.func12, Try.ntmps12
  go_wp2_with fail
  go_loop [9, 10, 16] (fun p r i => ∃ k : Nat, k ≤ 1 ∧ i = i64 (k : Nat)) (fun p r i => 3 - (intOf i).toNat)
  case atStart => exact ⟨0, by omega, rfl⟩
  case round =>
    obtain ⟨k, hk, rfl⟩ := hrel
    by_cases hk0 : k = 0
    · subst hk0
      go_wp2_with fail
      refine (open1_val n _ hn W5 c0).mono ?_
      rintro e w6 ⟨rfl, rfl⟩
      go_wp2_with fail
      go_round
      case rel => exact ⟨1, by omega, rfl⟩
      case measure => simp [intOf]
    · obtain rfl : k = 1 := by omega
      go_wp2_with fail
      refine (open2_other a n _ _ h W5 c3 c0).mono ?_
      rintro e w6 ⟨rfl, rfl⟩
      go_wp2_with fail
      go_ret
      exact ⟨rfl, hB5⟩
end Go.Proofs.Ytineokopmdjapaa.Oa
