/- The small walks of package replay. -/
import Derived.Test.YtineokopmdjapaaProg
import Derived.Test.YtineokopmdjapaaOaPlain
namespace Go.Proofs.Ytineokopmdjapaa.Oa
open Go.RowKit
set_option linter.unusedVariables false

abbrev i64 (x : Int) : Value := .int .i64 x
abbrev un (x : Nat) : Value := .int .u64 (x : Int)
def wv (t b : Nat) : Value := .agg #[i64 (t : Nat), un b]

theorem isCounter_val (n : Int) (v : Bool) (hv : (decide (1 ≤ n) && decide (n ≤ 1000000000)) = v) (w : World) :
    Calls Try.prog 23 #[i64 n] w fun e w' => e = .returned (.bool v) ∧ w = w' := by
  subst hv
  by_cases h1 : 1 ≤ n
  · by_cases h2 : n ≤ 1000000000
    · go_enter Try.func23, Try.ntmps23
      go_wp2_with fail
      go_ret
      exact ⟨rb (by simp [h1, h2]), rfl⟩
    · go_enter Try.func23, Try.ntmps23
      go_wp2_with fail
      go_ret
      exact ⟨rb (by simp [h2]), rfl⟩
  · go_enter Try.func23, Try.ntmps23
    go_wp2_with fail
    go_ret
    exact ⟨rb (by rw [decide_eq_false (show ¬ 1 ≤ n by omega)]; rfl), rfl⟩

theorem and_odd (b : Nat) (hb : b < 2 ^ 64) (ho : b % 2 = 1) : bits .and .u64 (b : Int) 1 = 1 := by
  have := u64_and_nat b 1 (by simpa using hb) (by decide)
  rw [Nat.and_one_is_mod, ho] at this
  exact this
theorem has_zero (b : Nat) (hb : b < 2 ^ 64) (ho : b % 2 = 1) (w : World) :
    Calls Try.prog 28 #[un b, i64 0] w fun e w' => e = .returned (.bool true) ∧ w = w' := by
  have ha := and_odd b hb ho
  go_enter Try.func28, Try.ntmps28
  go_wp2_with fail
  go_ret
  exact ⟨rfl, rfl⟩
theorem has_neg (b : Nat) (i : Int) (hi : i < 0) (w : World) :
    Calls Try.prog 28 #[un b, i64 i] w fun e w' => e = .returned (.bool false) ∧ w = w' := by
  go_enter Try.func28, Try.ntmps28
  go_wp2_with fail
  go_ret
  exact ⟨rfl, rfl⟩
theorem wrap_nat (b d : Nat) : IntKind.u64.wrap ((b : Int) * 2 ^ d) = ((b * 2 ^ d % 2 ^ 64 : Nat) : Int) := by
  rw [IntKind.wrap_u64]
  have : ((b : Int) * 2 ^ d) = ((b * 2 ^ d : Nat) : Int) := by push_cast; rfl
  rw [this]
  omega
theorem up_val (b d : Nat) (hb : b < 2 ^ 64) (w : World) :
    Calls Try.prog 26 #[un b, i64 (d : Nat)] w fun e w' => e = .returned (un (upb b d)) ∧ w = w' := by
  by_cases h : 64 ≤ d
  · have h' : (64 : Int) ≤ (d : Int) := by omega
    unfold upb
    rw [if_pos h]
    go_enter Try.func26, Try.ntmps26
    go_wp2_with fail
    go_ret
    exact ⟨rfl, rfl⟩
  · have h' : (d : Int) < 64 := by omega
    unfold upb
    rw [if_neg h]
    go_enter Try.func26, Try.ntmps26
    go_wp2_with fail
    go_ret
    exact ⟨congrArg (fun x => Ending.returned (Value.int .u64 x)) (wrap_nat b d), rfl⟩
theorem with_zero (x : Nat) (hx : x < 2 ^ 64) (w : World) :
    Calls Try.prog 27 #[un x, i64 0] w fun e w' => e = .returned (un (x ||| 1)) ∧ w = w' := by
  have ho : bits .or .u64 (x : Int) 1 = ((x ||| 1 : Nat) : Int) := u64_or_nat x 1 (by simpa using hx) (by decide)
  go_enter Try.func27, Try.ntmps27
  go_wp2_with fail
  go_ret
  exact ⟨rfl, rfl⟩

/-- A valid window is found valid. -/
theorem valid_val (t b : Nat) (hv : vw t b) (hb : b < 2 ^ 64) (w : World) :
    Calls Try.prog 22 #[wv t b] w fun e w' => e = .returned (.bool true) ∧ Below w.heap.size w w' := by
  unfold wv
  rcases hv with ⟨rfl, rfl⟩ | ⟨h1, h2, h3, h4⟩
  · go_enter Try.func22, Try.ntmps22
    go_wp2_with fail
    go_ret
    exact ⟨rfl, (Below.refl _ w).alloc (Nat.le_refl _) _⟩
  · have ht0 : ((t : Int) == 0) = false := by rw [beq_eq_false_iff_ne]; omega
    have hc : (decide ((1 : Int) ≤ (t : Int)) && decide ((t : Int) ≤ 1000000000)) = true := by simp; omega
    go_enter Try.func22, Try.ntmps22
    go_wp2_with fail
    refine (isCounter_val _ true hc _).mono ?_
    rintro e w1 ⟨rfl, rfl⟩
    go_wp2_with fail
    refine (has_zero b hb h3 _).mono ?_
    rintro e w1 ⟨rfl, rfl⟩
    by_cases h64 : t < 64
    · have h64' : (t : Int) < 64 := by omega
      have hz : (b : Int) / 2 ^ t = 0 := by
        have := Nat.div_eq_of_lt (h4 h64)
        have h5 : (b : Int) / 2 ^ t = ((b / 2 ^ t : Nat) : Int) := by push_cast; rfl
        rw [h5, this]; rfl
      go_wp2_with fail
      go_ret
      exact ⟨rfl, (Below.refl _ w).alloc (Nat.le_refl _) _⟩
    · have h64' : ¬ (t : Int) < 64 := by omega
      go_wp2_with fail
      go_ret
      exact ⟨rfl, (Below.refl _ w).alloc (Nat.le_refl _) _⟩

theorem fresh_new (t b n : Nat) (hv : vw t b) (hb : b < 2 ^ 64) (hn : t < n) (hm : n ≤ 1000000000) (w : World) :
    Calls Try.prog 24 #[wv t b, i64 (n : Nat)] w fun e w' => e = .returned (.bool true) ∧ Below w.heap.size w w' := by
  have hV := Lib.hid (valid_val t b hv hb)
  have hc : (decide ((1 : Int) ≤ (n : Int)) && decide ((n : Int) ≤ 1000000000)) = true := by simp; omega
  clear hv
  unfold wv at *
  go_enter Try.func24, Try.ntmps24
  go_wp2_with fail
  refine (hV.out _).mono ?_
  rintro e w1 ⟨rfl, hb1⟩
  have hB1 : Below w.heap.size w w1 := ((Below.refl _ w).alloc (Nat.le_refl _) (.cells #[i64 (t : Nat), un b] 49)).trans (hb1.mono (by simp))
  have c0 : w1.cell? ⟨w.heap.size, 0, none⟩ = some (i64 (t : Nat)) := (hb1.cell (p := ⟨w.heap.size, 0, none⟩) (by simp)).trans (by simp [go_sem])
  go_wp2_with fail
  refine (isCounter_val _ true hc _).mono ?_
  rintro e w2 ⟨rfl, rfl⟩
  go_wp2_with fail
  refine (has_neg b _ (by omega) _).mono ?_
  rintro e w2 ⟨rfl, rfl⟩
  go_wp2_with fail
  go_ret
  exact ⟨rfl, hB1⟩

theorem fresh_same (t b : Nat) (hv : vw t b) (hb : b < 2 ^ 64) (ho : b % 2 = 1) (h1 : 1 ≤ t) (hm : t ≤ 1000000000) (w : World) :
    Calls Try.prog 24 #[wv t b, i64 (t : Nat)] w fun e w' => e = .returned (.bool false) ∧ Below w.heap.size w w' := by
  have hV := Lib.hid (valid_val t b hv hb)
  have hc : (decide ((1 : Int) ≤ (t : Int)) && decide ((t : Int) ≤ 1000000000)) = true := by simp; omega
  clear hv
  unfold wv at *
  go_enter Try.func24, Try.ntmps24
  go_wp2_with fail
  refine (hV.out _).mono ?_
  rintro e w1 ⟨rfl, hb1⟩
  have hB1 : Below w.heap.size w w1 := ((Below.refl _ w).alloc (Nat.le_refl _) (.cells #[i64 (t : Nat), un b] 49)).trans (hb1.mono (by simp))
  have c0 : w1.cell? ⟨w.heap.size, 0, none⟩ = some (i64 (t : Nat)) := (hb1.cell (p := ⟨w.heap.size, 0, none⟩) (by simp)).trans (by simp [go_sem])
  go_wp2_with fail
  refine (isCounter_val _ true hc _).mono ?_
  rintro e w2 ⟨rfl, rfl⟩
  go_wp2_with fail
  refine (has_zero b hb ho _).mono ?_
  rintro e w2 ⟨rfl, rfl⟩
  go_wp2_with fail
  go_ret
  exact ⟨rfl, hB1⟩

theorem note1_val (t b n B : Nat) (hb : b < 2 ^ 64) (hn : t ≤ n) (hm : n ≤ 1000000000) (w : World) (c0 : w.cell? ⟨B, 0, none⟩ = some (i64 (t : Nat))) (c1 : w.cell? ⟨B, 1, none⟩ = some (un b)) :
    Calls Try.prog 25 #[i64 (n : Nat), .pointer (some ⟨B, 0, none⟩)] w fun e w' => e = .returned (un (upb b (n - t))) ∧ w = w' := by
  have hd : ((n : Int) - (t : Int)) = ((n - t : Nat) : Int) := by omega
  have hw : IntKind.i64.wrap ((n : Int) - (t : Int)) = ((n - t : Nat) : Int) := by rw [Go.IntWalk.i64_in _ (by omega), hd]
  go_enter Try.func25, Try.ntmps25
  go_wp2_with fail
  refine (up_val b (n - t) hb _).mono ?_
  rintro e w1 ⟨rfl, rfl⟩
  go_wp2_with fail
  go_ret
  exact ⟨rfl, rfl⟩

theorem note_new (t b n : Nat) (hv : vw t b) (hb : b < 2 ^ 64) (hn : t < n) (hm : n ≤ 1000000000) (w : World) :
    Calls Try.prog 13 #[wv t b, i64 (n : Nat)] w fun e w' => e = .returned (.tuple #[wv n (nb t b n), i64 0]) ∧ Below w.heap.size w w' := by
  have hV := Lib.hid (valid_val t b hv hb)
  have hF := Lib.hid (fresh_new t b n hv hb hn hm)
  have hN := Lib.hid (fun B w c0 c1 => note1_val t b n B hb (Nat.le_of_lt hn) hm w c0 c1)
  have hU := upb_lt b (n - t)
  have hc : (decide ((1 : Int) ≤ (n : Int)) && decide ((n : Int) ≤ 1000000000)) = true := by simp; omega
  clear hv
  unfold nb
  unfold wv at *
  go_enter Try.func13, Try.ntmps13
  go_wp2_with fail
  refine (hV.out _).mono ?_
  rintro e w1 ⟨rfl, hb1⟩
  have hB1 : Below w.heap.size w w1 := (((Below.refl _ w).alloc (Nat.le_refl _) (.cells #[i64 (t : Nat), un b] 49)).alloc (by simp) (.cells #[i64 0, un 0] 49)).trans (hb1.mono (by simp; omega))
  have hs1 : w.heap.size + 2 ≤ w1.heap.size := by have := hb1.size; simpa using this
  have K1 := Lib.hid (((Blk.new w 49 #[i64 (t : Nat), un b]).alloc (.cells #[i64 0, un 0] 49)).up' hb1)
  have K2 : Hid (Blk w1 (w.heap.size + 1) 49 #[i64 0, un 0]) := by
    have := Blk.new (w.alloc (.cells #[i64 (t : Nat), un b] 49)) 49 #[i64 0, un 0]
    rw [World.size_alloc] at this
    exact this.up' hb1
  have a0 := K1.out.cell 0
  have a1 := K1.out.cell 1
  clear hb1 hV
  go_wp2_with fail
  refine (isCounter_val _ true hc _).mono ?_
  rintro e w2 ⟨rfl, rfl⟩
  go_wp2_with fail
  refine (hF.out _).mono ?_
  rintro e w2 ⟨rfl, hb2⟩
  have hB2 := hB1.trans (hb2.mono hB1.size)
  have L1 := Lib.hid (K1.out.up' hb2)
  have L2 := Lib.hid (K2.out.up' hb2)
  clear a0 a1 K1 K2
  have a0 := L1.out.cell 0
  have a1 := L1.out.cell 1
  have hmx : max (t : Int) (n : Int) = (n : Int) := by omega
  go_wp2_with fail
  refine (hN.out w.heap.size _ a0 a1).mono ?_
  rintro e w3 ⟨rfl, rfl⟩
  go_wp2_with fail
  refine (with_zero _ hU _).mono ?_
  rintro e w3 ⟨rfl, rfl⟩
  have b0 := L2.out.cell 0
  have b1 := L2.out.cell 1
  have f0 := L2.out.frozen 0
  have f1 := L2.out.frozen 1
  go_wp2_with fail
  have M := (L2.out.set_ 0 (.int .i64 (n : Int))).set_ 1 (.int .u64 ((upb b (n - t) ||| 1 : Nat) : Int))
  have m0 := M.cell 0
  have m1 := M.cell 1
  simp at m0 m1
  have hB3 : Below w.heap.size w ((w2.setCell ⟨w.heap.size + 1, 0, none⟩ (.int .i64 (n : Int))).setCell ⟨w.heap.size + 1, 1, none⟩ (.int .u64 ((upb b (n - t) ||| 1 : Nat) : Int))) :=
    (hB2.setCell (p := ⟨w.heap.size + 1, 0, none⟩) (by simp) _).setCell (p := ⟨w.heap.size + 1, 1, none⟩) (by simp) _
  refine bodyPost_ret (v := .tuple #[.agg #[i64 (n : Nat), un (upb b (n - t) ||| 1)], i64 0]) ?_ rfl ⟨rfl, hB3⟩
  simp [results, go_sem, m0, m1]

theorem note_same (t b : Nat) (hv : vw t b) (hb : b < 2 ^ 64) (ho : b % 2 = 1) (h1 : 1 ≤ t) (hm : t ≤ 1000000000) (w : World) :
    Calls Try.prog 13 #[wv t b, i64 (t : Nat)] w fun e w' => e = .returned (.tuple #[wv 0 0, i64 14]) ∧ Below w.heap.size w w' := by
  have hV := Lib.hid (valid_val t b hv hb)
  have hF := Lib.hid (fresh_same t b hv hb ho h1 hm)
  have hc : (decide ((1 : Int) ≤ (t : Int)) && decide ((t : Int) ≤ 1000000000)) = true := by simp; omega
  clear hv
  unfold wv at *
  go_enter Try.func13, Try.ntmps13
  go_wp2_with fail
  refine (hV.out _).mono ?_
  rintro e w1 ⟨rfl, hb1⟩
  have hB1 : Below w.heap.size w w1 := (((Below.refl _ w).alloc (Nat.le_refl _) (.cells #[i64 (t : Nat), un b] 49)).alloc (by simp) (.cells #[i64 0, un 0] 49)).trans (hb1.mono (by simp; omega))
  have hs1 : w.heap.size + 2 ≤ w1.heap.size := by have := hb1.size; simpa using this
  have K1 := Lib.hid (((Blk.new w 49 #[i64 (t : Nat), un b]).alloc (.cells #[i64 0, un 0] 49)).up' hb1)
  have K2 : Hid (Blk w1 (w.heap.size + 1) 49 #[i64 0, un 0]) := by
    have := Blk.new (w.alloc (.cells #[i64 (t : Nat), un b] 49)) 49 #[i64 0, un 0]
    rw [World.size_alloc] at this
    exact this.up' hb1
  have a0 := K1.out.cell 0
  have a1 := K1.out.cell 1
  clear hb1 hV
  go_wp2_with fail
  refine (isCounter_val _ true hc _).mono ?_
  rintro e w2 ⟨rfl, rfl⟩
  go_wp2_with fail
  refine (hF.out _).mono ?_
  rintro e w2 ⟨rfl, hb2⟩
  have hB2 := hB1.trans (hb2.mono hB1.size)
  have L2 := Lib.hid (K2.out.up' hb2)
  clear a0 a1 K1 K2
  have b0 := L2.out.cell 0
  have b1 := L2.out.cell 1
  have f0 := L2.out.frozen 0
  have f1 := L2.out.frozen 1
  go_wp2_with fail
  have M := (L2.out.set_ 0 (i64 0)).set_ 1 (un 0)
  have hB3 : Below w.heap.size w ((w2.setCell ⟨w.heap.size + 1, 0, none⟩ (i64 0)).setCell ⟨w.heap.size + 1, 1, none⟩ (un 0)) :=
    (hB2.setCell (p := ⟨w.heap.size + 1, 0, none⟩) (by simp) _).setCell (p := ⟨w.heap.size + 1, 1, none⟩) (by simp) _
  have e0 : ((w2.setCell ⟨w.heap.size + 1, 0, none⟩ (.int .i64 0)).setCell ⟨w.heap.size + 1, 1, none⟩ (.int .u64 0)) = ((w2.setCell ⟨w.heap.size + 1, 0, none⟩ (i64 0)).setCell ⟨w.heap.size + 1, 1, none⟩ (un 0)) := rfl
  rw [e0]
  obtain ⟨wf, hwf⟩ : ∃ wf, ((w2.setCell ⟨w.heap.size + 1, 0, none⟩ (i64 0)).setCell ⟨w.heap.size + 1, 1, none⟩ (un 0)) = wf := ⟨_, rfl⟩
  rw [hwf] at M hB3 ⊢
  clear hwf e0
  have m0 : wf.cell? ⟨w.heap.size + 1, 0, none⟩ = some (i64 0) := M.cell 0
  have m1 : wf.cell? ⟨w.heap.size + 1, 1, none⟩ = some (un 0) := M.cell 1
  refine bodyPost_ret (v := .tuple #[.agg #[i64 0, un 0], i64 14]) ?_ rfl ⟨rfl, hB3⟩
  simp [results, go_sem, m0, m1]
end Go.Proofs.Ytineokopmdjapaa.Oa
