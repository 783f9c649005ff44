/- The walks of the small functions of package medium, of guard.Catches and of the reference's. -/
import Derived.Deep.RegionHeld3
import Derived.Deep.DeepCutAuto
import Derived.Test.YteeloebhjmmpdaaExt
import Derived.Test.YteeloebhjmmpdaaPlJam
import Derived.Test.YteeloebhjmmpdaaMdOpen
namespace Go.Proofs.Yteeloebhjmmpdaa.Md
open Go.RowKit Go.Proofs.Yteeloebhjmmpdaa.Pl
set_option linter.unusedVariables false

theorem cup {w w' : World} {p : Addr} {v : Value} (h : w.cell? p = some v) (hb : Below w.heap.size w w') : w'.cell? p = some v := (hb.cell (cell_lt h)).trans h
def win (s lo hi : Int) : Bool := decide (lo ≤ s) && decide (s ≤ hi)
theorem opn_win (s l : Ac) : opn s l = win s.st l.lo l.hi := rfl

theorem catches_val (s lo hi : Int) (v : Bool) (hv : win s lo hi = v) (w : World) :
    Calls Try.prog 52 #[i64 s, .agg #[i64 lo, i64 hi]] w fun e w' => e = .returned (.bool v) ∧ Below w.heap.size w w' := by
  have hB := (Below.refl w.heap.size w).alloc (Nat.le_refl _) (.cells #[i64 lo, i64 hi] 53)
  by_cases h0 : lo ≤ s
  · have e : v = decide (s ≤ hi) := by rw [← hv]; unfold win; simp [h0]
    have E := Lib.hid e; clear e hv
    go_enter Try.func52, Try.ntmps52
    go_wp2_with fail
    go_ret
    exact ⟨by rw [E.out]; rfl, hB⟩
  · have e : v = false := by rw [← hv]; unfold win; simp; omega
    subst e; clear hv
    go_enter Try.func52, Try.ntmps52
    go_wp2_with fail
    go_ret
    exact ⟨rfl, hB⟩
theorem refCatches_val (s lo hi : Int) (v : Bool) (hv : win s lo hi = v) (w : World) :
    Calls Try.prog 54 #[i64 s, .agg #[i64 lo, i64 hi]] w fun e w' => e = .returned (.bool v) ∧ Below w.heap.size w w' := by
  have hB := (Below.refl w.heap.size w).alloc (Nat.le_refl _) (.cells #[i64 lo, i64 hi] 53)
  by_cases h0 : lo ≤ s
  · have e : v = decide (s ≤ hi) := by rw [← hv]; unfold win; simp [h0]
    have E := Lib.hid e; clear e hv
    go_enter Try.func54, Try.ntmps54
    go_wp2_with fail
    go_ret
    exact ⟨by rw [E.out]; rfl, hB⟩
  · have e : v = false := by rw [← hv]; unfold win; simp; omega
    subst e; clear hv
    go_enter Try.func54, Try.ntmps54
    go_wp2_with fail
    go_ret
    exact ⟨rfl, hB⟩

theorem near0 (p : Pt) : near p p 0 = vp p := by
  unfold near inr
  rw [d2_self]
  simp
theorem isRadio_val (a : Ac) (p : Pt) (v : Bool) (hv : (okA a && vp p) = v) (w : World) :
    Calls Try.prog 44 #[.agg #[i64 a.act, i64 a.ch, i64 a.st, i64 a.lo, i64 a.hi], .agg #[i64 p.1, i64 p.2]] w fun e w' => e = .returned (.bool v) ∧ Below w.heap.size w w' := by
  obtain ⟨act, ch, st, lo, hi⟩ := a
  obtain ⟨x, y⟩ := p
  dsimp only
  have hB := ((Below.refl w.heap.size w).alloc (Nat.le_refl _) (.cells #[i64 act, i64 ch, i64 st, i64 lo, i64 hi] 55)).alloc (by simp) (.cells #[i64 x, i64 y] 25)
  cases ha : okA ⟨act, ch, st, lo, hi⟩
  · obtain rfl : v = false := by rw [← hv, ha]; rfl
    clear hv
    unfold okA at ha
    simp only [Bool.or_eq_false_iff, decide_eq_false_iff_not, Bool.and_eq_false_iff] at ha
    obtain ⟨h0, h1⟩ := ha
    have k0 : (act == 0) = false := by rw [beq_eq_false_iff_ne]; exact h0
    by_cases h2 : act = 1
    · subst h2
      have h3 : ch < 0 ∨ 16 ≤ ch := by omega
      clear h1
      rcases h3 with h3 | h3
      · go_enter Try.func44, Try.ntmps44
        go_wp2_with fail
        go_ret
        exact ⟨rfl, hB⟩
      · have h4 : ¬ ch < 0 := by omega
        go_enter Try.func44, Try.ntmps44
        go_wp2_with fail
        go_ret
        exact ⟨rfl, hB⟩
    · have k1 : (act == 1) = false := by rw [beq_eq_false_iff_ne]; exact h2
      by_cases h5 : act = 2
      · subst h5
        have h3 : ch < 0 ∨ 16 ≤ ch := by omega
        clear h1
        rcases h3 with h3 | h3
        · go_enter Try.func44, Try.ntmps44
          go_wp2_with fail
          go_ret
          exact ⟨rfl, hB⟩
        · have h4 : ¬ ch < 0 := by omega
          go_enter Try.func44, Try.ntmps44
          go_wp2_with fail
          go_ret
          exact ⟨rfl, hB⟩
      · have k2 : (act == 2) = false := by rw [beq_eq_false_iff_ne]; exact h5
        clear h0 h1 h2 h5
        go_enter Try.func44, Try.ntmps44
        go_wp2_with fail
        go_ret
        exact ⟨rfl, hB⟩
  · have hN := Lib.hid (fun W => near_val x y x y 0 v (by rw [near0, ← hv, ha]; rfl) W)
    clear hv
    unfold okA at ha
    simp only [Bool.or_eq_true, decide_eq_true_eq, Bool.and_eq_true] at ha
    rcases ha with rfl | ⟨rfl | rfl, h3, h4⟩
    all_goals
      go_enter Try.func44, Try.ntmps44
      go_wp2_with fail
      refine (hN.out _).mono ?_
      rintro e w1 ⟨rfl, hb1⟩
      go_wp2_with fail
      go_ret
      exact ⟨rfl, hB.trans (hb1.mono (by simp; omega))⟩
end Go.Proofs.Yteeloebhjmmpdaa.Md
