/- seal.Open, of a frame that is sealed for the slot. -/
import Derived.Test.YtineokopmdjapaaOaOpen2
namespace Go.Proofs.Ytineokopmdjapaa.Oa
open Go.RowKit
set_option linter.unusedVariables false
attribute [local go_sem] run_store_func Instr.index

theorem open_ok (kd fr to : Int) (n : Nat) (A : Option Addr) (m c : Nat) (hn : n ≤ 1000000000) (w : World) :
    Calls Try.prog 12 #[fv kd fr to (n : Nat) ((n / 2000 + 1 : Nat) : Int) (.slice A m c), rv n, i64 (n : Nat)] w fun e w' => e = .returned (i64 0) ∧ Below w.heap.size w w' := by
  unfold fv rv
  obtain ⟨q, hq⟩ : ∃ q, n / 2000 = q := ⟨_, rfl⟩
  have e2 : ((q + 2 : Nat) : Int) = (q : Int) + 2 := by omega
  have e1 : ((q + 1 : Nat) : Int) = (q : Int) + 1 := by omega
  have NO := fun F B R => open3_ok n F B R hn
  simp only [hq, e2, e1] at NO ⊢
  have NO := Lib.hid NO
  clear hq e2 e1
  obtain ⟨W4, hW4⟩ : ∃ W4, ((((w.alloc (.cells #[i64 kd, i64 fr, i64 to, i64 (n : Nat), i64 ((q : Int) + 1), .slice A m c] 31)).alloc (.cells #[i64 (q : Nat), i64 ((q : Int) + 2)] 36)).alloc (.cells #[i64 (n : Nat)] 3)).alloc (.cells #[Value.nilFunc, Value.nilFunc, Value.nilFunc] 58)) = W4 := ⟨_, rfl⟩
  have BK : Blk W4 (w.heap.size + 1 + 1 + 1) 58 #[Value.nilFunc, Value.nilFunc, Value.nilFunc] := by
    have := Blk.new (((w.alloc (.cells #[i64 kd, i64 fr, i64 to, i64 (n : Nat), i64 ((q : Int) + 1), .slice A m c] 31)).alloc (.cells #[i64 (q : Nat), i64 ((q : Int) + 2)] 36)).alloc (.cells #[i64 (n : Nat)] 3)) 58 #[Value.nilFunc, Value.nilFunc, Value.nilFunc]
    rw [hW4] at this
    simpa using this
  have b0 : W4.cell? ⟨w.heap.size + 1 + 1 + 1, 0, none⟩ = some Value.nilFunc := BK.cell 0
  have b1 : W4.cell? ⟨w.heap.size + 1 + 1 + 1, 1, none⟩ = some Value.nilFunc := BK.cell 1
  have b2 : W4.cell? ⟨w.heap.size + 1 + 1 + 1, 2, none⟩ = some Value.nilFunc := BK.cell 2
  have g0 := BK.frozen 0
  have g1 := BK.frozen 1
  have g2 := BK.frozen 2
  have hB4 : Below w.heap.size w W4 := by
    rw [← hW4]
    exact ((((Below.refl _ w).alloc (Nat.le_refl _) _).alloc (by simp) _).alloc (by simp; omega) _).alloc (by simp; omega) _
  have BF : Blk W4 w.heap.size 31 #[i64 kd, i64 fr, i64 to, i64 (n : Nat), i64 ((q : Int) + 1), .slice A m c] := by
    rw [← hW4]
    exact (((Blk.new w _ _).alloc _).alloc _).alloc _
  have BN : Blk W4 (w.heap.size + 1 + 1) 3 #[i64 (n : Nat)] := by
    rw [← hW4]
    have := (Blk.new ((w.alloc (.cells #[i64 kd, i64 fr, i64 to, i64 (n : Nat), i64 ((q : Int) + 1), .slice A m c] 31)).alloc (.cells #[i64 (q : Nat), i64 ((q : Int) + 2)] 36)) 3 #[i64 (n : Nat)]).alloc (.cells #[Value.nilFunc, Value.nilFunc, Value.nilFunc] 58)
    simpa using this
  obtain ⟨W5, hW5⟩ : ∃ W5, (((W4.setCell ⟨w.heap.size + 1 + 1 + 1, 0, none⟩ (Value.func (Fn.func 17) #[] #[Value.pointer (some ⟨w.heap.size + 1 + 1, 0, none⟩)])).setCell ⟨w.heap.size + 1 + 1 + 1, 1, none⟩ (Value.func (Fn.func 18) #[] #[Value.pointer (some ⟨w.heap.size, 0, none⟩), Value.pointer (some ⟨w.heap.size + 1 + 1, 0, none⟩)])).setCell ⟨w.heap.size + 1 + 1 + 1, 2, none⟩ (Value.func (Fn.func 20) #[] #[Value.pointer (some ⟨w.heap.size, 0, none⟩), Value.pointer (some ⟨w.heap.size + 1 + 1, 0, none⟩), Value.pointer (some ⟨w.heap.size + 1, 0, none⟩)])) = W5 := ⟨_, rfl⟩
  have hB5 : Below w.heap.size w W5 := by
    rw [← hW5]
    exact ((hB4.setCell (p := ⟨w.heap.size + 1 + 1 + 1, 0, none⟩) (by simp; omega) _).setCell (p := ⟨w.heap.size + 1 + 1 + 1, 1, none⟩) (by simp; omega) _).setCell (p := ⟨w.heap.size + 1 + 1 + 1, 2, none⟩) (by simp; omega) _
  have c3 : W5.cell? ⟨w.heap.size, 3, none⟩ = some (i64 (n : Nat)) := by
    rw [← hW5]
    exact (((BF.far (p := ⟨w.heap.size + 1 + 1 + 1, 0, none⟩) (by simp; omega) _).far (p := ⟨w.heap.size + 1 + 1 + 1, 1, none⟩) (by simp; omega) _).far (p := ⟨w.heap.size + 1 + 1 + 1, 2, none⟩) (by simp; omega) _).cell 3
  have c0 : W5.cell? ⟨w.heap.size + 1 + 1, 0, none⟩ = some (i64 (n : Nat)) := by
    rw [← hW5]
    exact (((BN.far (p := ⟨w.heap.size + 1 + 1 + 1, 0, none⟩) (by simp) _).far (p := ⟨w.heap.size + 1 + 1 + 1, 1, none⟩) (by simp) _).far (p := ⟨w.heap.size + 1 + 1 + 1, 2, none⟩) (by simp) _).cell 0
  have MK := ((BK.set_ 0 (Value.func (Fn.func 17) #[] #[Value.pointer (some ⟨w.heap.size + 1 + 1, 0, none⟩)])).set_ 1 (Value.func (Fn.func 18) #[] #[Value.pointer (some ⟨w.heap.size, 0, none⟩), Value.pointer (some ⟨w.heap.size + 1 + 1, 0, none⟩)])).set_ 2 (Value.func (Fn.func 20) #[] #[Value.pointer (some ⟨w.heap.size, 0, none⟩), Value.pointer (some ⟨w.heap.size + 1 + 1, 0, none⟩), Value.pointer (some ⟨w.heap.size + 1, 0, none⟩)])
  rw [hW5] at MK
  have d0 : W5.cell? ⟨w.heap.size + 1 + 1 + 1, 0, none⟩ = some (Value.func (Fn.func 17) #[] #[Value.pointer (some ⟨w.heap.size + 1 + 1, 0, none⟩)]) := MK.cell 0
  have d1 : W5.cell? ⟨w.heap.size + 1 + 1 + 1, 1, none⟩ = some (Value.func (Fn.func 18) #[] #[Value.pointer (some ⟨w.heap.size, 0, none⟩), Value.pointer (some ⟨w.heap.size + 1 + 1, 0, none⟩)]) := MK.cell 1
  have d2 : W5.cell? ⟨w.heap.size + 1 + 1 + 1, 2, none⟩ = some (Value.func (Fn.func 20) #[] #[Value.pointer (some ⟨w.heap.size, 0, none⟩), Value.pointer (some ⟨w.heap.size + 1 + 1, 0, none⟩), Value.pointer (some ⟨w.heap.size + 1, 0, none⟩)]) := MK.cell 2
  have c4 : W5.cell? ⟨w.heap.size, 4, none⟩ = some (i64 ((q : Int) + 1)) := by
    rw [← hW5]
    exact (((BF.far (p := ⟨w.heap.size + 1 + 1 + 1, 0, none⟩) (by simp; omega) _).far (p := ⟨w.heap.size + 1 + 1 + 1, 1, none⟩) (by simp; omega) _).far (p := ⟨w.heap.size + 1 + 1 + 1, 2, none⟩) (by simp; omega) _).cell 4
  have BR : Blk W4 (w.heap.size + 1) 36 #[i64 (q : Nat), i64 ((q : Int) + 2)] := by
    rw [← hW4]
    have := ((Blk.new (w.alloc (.cells #[i64 kd, i64 fr, i64 to, i64 (n : Nat), i64 ((q : Int) + 1), .slice A m c] 31)) 36 #[i64 (q : Nat), i64 ((q : Int) + 2)]).alloc (.cells #[i64 (n : Nat)] 3)).alloc (.cells #[Value.nilFunc, Value.nilFunc, Value.nilFunc] 58)
    simpa using this
  have r0 : W5.cell? ⟨w.heap.size + 1, 0, none⟩ = some (i64 (q : Nat)) := by
    rw [← hW5]
    exact (((BR.far (p := ⟨w.heap.size + 1 + 1 + 1, 0, none⟩) (by simp) _).far (p := ⟨w.heap.size + 1 + 1 + 1, 1, none⟩) (by simp) _).far (p := ⟨w.heap.size + 1 + 1 + 1, 2, none⟩) (by simp) _).cell 0
  have r1 : W5.cell? ⟨w.heap.size + 1, 1, none⟩ = some (i64 ((q : Int) + 2)) := by
    rw [← hW5]
    exact (((BR.far (p := ⟨w.heap.size + 1 + 1 + 1, 0, none⟩) (by simp) _).far (p := ⟨w.heap.size + 1 + 1 + 1, 1, none⟩) (by simp) _).far (p := ⟨w.heap.size + 1 + 1 + 1, 2, none⟩) (by simp) _).cell 1
  have hsz : w.heap.size + 4 ≤ W5.heap.size := by
    have := MK.lt
    omega
  clear BF BN BK BR hB4 MK
  go_enter Try.func12, Try.ntmps12
  go_wp2_with fail
  go_loopw [9, 10, 16] (fun p r i wr => ∃ k : Nat, k ≤ 3 ∧ i = i64 (k : Nat) ∧ (k ≤ 2 → wr = W5) ∧ Below w.heap.size w wr) (fun p r i _ => 4 - (intOf i).toNat)
  case atStart => exact ⟨0, by omega, rfl, fun _ => rfl, hB5⟩
  case round =>
    obtain ⟨k, hk, rfl, hw, hB⟩ := hrel
    by_cases hk0 : k = 0
    · subst hk0
      obtain rfl := hw (by omega)
      go_wp2_with fail
      refine (open1_val n _ hn _ c0).mono ?_
      rintro e w6 ⟨rfl, rfl⟩
      go_wp2_with fail
      go_roundw
      case rel => exact ⟨1, by omega, rfl, fun _ => trivial, hB⟩
      case measure => simp [intOf]
    · by_cases hk1 : k = 1
      · subst hk1
        obtain rfl := hw (by omega)
        go_wp2_with fail
        refine (open2_same n _ _ _ c3 c0).mono ?_
        rintro e w6 ⟨rfl, rfl⟩
        go_wp2_with fail
        go_roundw
        case rel => exact ⟨2, by omega, rfl, fun _ => trivial, hB⟩
        case measure => simp [intOf]
      · by_cases hk2 : k = 2
        · subst hk2
          obtain rfl := hw (by omega)
          go_wp2_with fail
          refine (NO.out _ _ _ _ (by omega) (by omega) (by omega) c4 c0 r0 r1).mono ?_
          rintro e w6 ⟨rfl, hb6⟩
          have hB6 := hB.trans (hb6.mono (by omega))
          go_wp2_with fail
          go_roundw
          case rel => exact ⟨3, by omega, rfl, fun h => absurd h (by omega), hB6⟩
          case measure => simp [intOf]
        · obtain rfl : k = 3 := by omega
          go_wp2_with fail
          go_ret
          exact ⟨rfl, hB⟩
end Go.Proofs.Ytineokopmdjapaa.Oa
