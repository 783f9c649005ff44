/- The walks of package plane's small functions and of the reference's. -/
import Derived.Deep.QuietTactic
import Derived.BigQuiet
import Derived.Test.YteeloebhjmmpdaaPlOpen
namespace Go.Proofs.Yteeloebhjmmpdaa.Pl
open Go.RowKit

def betw (n h : Int) : Bool := decide (0 ≤ n ∧ n ≤ h)
theorem betw_inr (r : Int) : betw r 20000 = inr r := rfl
theorem vp_betw (p : Pt) : vp p = (betw p.1 10000 && betw p.2 10000) := by
  rw [Bool.eq_iff_iff, Bool.and_eq_true, vp_iff]; unfold betw; simp [and_assoc]

theorem in_val (n h : Int) (v : Bool) (hv : betw n h = v) (w : World) :
    Calls Try.prog 35 #[i64 n, i64 h] w fun e w' => e = .returned (.bool v) ∧ w = w' := by
  subst hv
  by_cases h0 : 0 ≤ n
  · have e : betw n h = decide (n ≤ h) := by unfold betw; simp [h0]
    have E := Lib.hid e; clear e
    go_enter Try.func35, Try.ntmps35
    go_wp2_with fail
    go_ret
    exact ⟨by rw [E.out]; rfl, rfl⟩
  · have e : betw n h = false := by unfold betw; simp; omega
    have E := Lib.hid e; clear e
    go_enter Try.func35, Try.ntmps35
    go_wp2_with fail
    go_ret
    exact ⟨by rw [E.out]; rfl, rfl⟩

theorem isPlace_val (x y : Int) (v : Bool) (hv : vp (x, y) = v) (w : World) :
    Calls Try.prog 38 #[.agg #[i64 x, i64 y]] w fun e w' => e = .returned (.bool v) ∧ Below w.heap.size w w' := by
  subst hv
  have hB := (Below.refl w.heap.size w).alloc (Nat.le_refl _) (.cells #[i64 x, i64 y] 25)
  have hq := vp_betw (x, y)
  cases h1 : betw x 10000
  · have e : vp (x, y) = false := by rw [hq]; simp [h1]
    clear hq
    have H1 := Lib.hid h1; clear h1
    go_enter Try.func38, Try.ntmps38
    go_wp2_with fail
    refine (in_val _ _ _ H1.out _).mono ?_
    rintro e w' ⟨rfl, rfl⟩
    go_wp2_with fail
    go_ret
    exact ⟨by rw [e]; rfl, hB⟩
  · have e : vp (x, y) = betw y 10000 := by rw [hq]; simp [h1]
    clear hq
    have H1 := Lib.hid h1; clear h1
    go_enter Try.func38, Try.ntmps38
    go_wp2_with fail
    refine (in_val _ _ _ H1.out _).mono ?_
    rintro e w' ⟨rfl, rfl⟩
    go_wp2_with fail
    refine (in_val _ _ _ rfl _).mono ?_
    rintro e w' ⟨rfl, rfl⟩
    go_wp2_with fail
    go_ret
    exact ⟨by rw [e]; rfl, hB⟩

theorem refValid_val (x y : Int) (v : Bool) (hv : vp (x, y) = v) (w : World) :
    Calls Try.prog 26 #[.agg #[i64 x, i64 y]] w fun e w' => e = .returned (.bool v) ∧ Below w.heap.size w w' := by
  have hB := (Below.refl w.heap.size w).alloc (Nat.le_refl _) (.cells #[i64 x, i64 y] 25)
  have hq : vp (x, y) = decide (0 ≤ x ∧ x ≤ 10000 ∧ 0 ≤ y ∧ y ≤ 10000) := rfl
  rw [hv] at hq
  by_cases h1 : 0 ≤ x
  · by_cases h2 : x ≤ 10000
    · by_cases h3 : 0 ≤ y
      · have e : v = decide (y ≤ 10000) := by rw [hq]; simp [h1, h2, h3]
        have E := Lib.hid e; clear hq e hv
        go_enter Try.func26, Try.ntmps26
        go_wp2_with fail
        go_ret
        exact ⟨by rw [E.out]; rfl, hB⟩
      · have e : v = false := by rw [hq]; simp; omega
        subst e; clear hq hv
        go_enter Try.func26, Try.ntmps26
        go_wp2_with fail
        go_ret
        exact ⟨rfl, hB⟩
    · have e : v = false := by rw [hq]; simp; omega
      subst e; clear hq hv
      go_enter Try.func26, Try.ntmps26
      go_wp2_with fail
      go_ret
      exact ⟨rfl, hB⟩
  · have e : v = false := by rw [hq]; simp; omega
    subst e; clear hq hv
    go_enter Try.func26, Try.ntmps26
    go_wp2_with fail
    go_ret
    exact ⟨rfl, hB⟩

/-- Two struct boxes at the heap's end, in a later world. -/
theorem boxes2 {w w1 : World} {a0 a1 b0 b1 : Value} {s t : TypeId} (hb : Below ((w.alloc (.cells #[a0, a1] s)).alloc (.cells #[b0, b1] t)).heap.size ((w.alloc (.cells #[a0, a1] s)).alloc (.cells #[b0, b1] t)) w1) :
    w1.cell? ⟨w.heap.size, 0, none⟩ = some a0 ∧ w1.cell? ⟨w.heap.size, 1, none⟩ = some a1 ∧ w1.cell? ⟨w.heap.size + 1, 0, none⟩ = some b0 ∧ w1.cell? ⟨w.heap.size + 1, 1, none⟩ = some b1 := by
  have hA := ((Blk.new w s #[a0, a1]).alloc (.cells #[b0, b1] t)).up' hb
  have hC := Blk.new (w.alloc (.cells #[a0, a1] s)) t #[b0, b1]
  rw [World.size_alloc] at hC
  have hC := hC.up' hb
  exact ⟨hA.cell 0, hA.cell 1, hC.cell 0, hC.cell 1⟩

theorem near_val (ax ay bx by_ r : Int) (v : Bool) (hv : near (ax, ay) (bx, by_) r = v) (w : World) :
    Calls Try.prog 21 #[.agg #[i64 ax, i64 ay], .agg #[i64 bx, i64 by_], i64 r] w fun e w' => e = .returned (.bool v) ∧ Below w.heap.size w w' := by
  have hB := ((Below.refl w.heap.size w).alloc (Nat.le_refl _) (.cells #[i64 ax, i64 ay] 25)).alloc (by simp) (.cells #[i64 bx, i64 by_] 25)
  have HV := Lib.hid hv; clear hv
  cases h1 : vp (ax, ay)
  · have e : v = false := by rw [← HV.out]; unfold near; simp [h1]
    subst e
    go_enter Try.func21, Try.ntmps21
    go_wp2_with fail
    refine (isPlace_val _ _ _ h1 _).mono ?_
    rintro e w1 ⟨rfl, hb1⟩
    go_wp2_with fail
    go_ret
    exact ⟨rfl, hB.trans (hb1.mono (by simp <;> omega))⟩
  · cases h2 : vp (bx, by_)
    · have e : v = false := by rw [← HV.out]; unfold near; simp [h2]
      subst e
      have H1 := Lib.hid h1; clear h1
      have H2 := Lib.hid h2; clear h2
      go_enter Try.func21, Try.ntmps21
      go_wp2_with fail
      refine (isPlace_val _ _ _ H1.out _).mono ?_
      rintro e w1 ⟨rfl, hb1⟩
      have hB1 := hB.trans (hb1.mono (by simp <;> omega))
      obtain ⟨c0, c1, c2, c3⟩ := boxes2 hb1
      go_wp2_with fail
      refine (isPlace_val _ _ _ H2.out _).mono ?_
      rintro e w2 ⟨rfl, hb2⟩
      have hB2 := below_trans' hB1 hb2
      go_wp2_with fail
      go_ret
      exact ⟨rfl, hB2⟩
    · cases h3 : inr r
      · have e : v = false := by rw [← HV.out]; unfold near; simp [h3]
        subst e
        have H1 := Lib.hid h1; clear h1
        have H2 := Lib.hid h2; clear h2
        have H3 := Lib.hid h3; clear h3
        go_enter Try.func21, Try.ntmps21
        go_wp2_with fail
        refine (isPlace_val _ _ _ H1.out _).mono ?_
        rintro e w1 ⟨rfl, hb1⟩
        have hB1 := hB.trans (hb1.mono (by simp <;> omega))
        obtain ⟨c0, c1, c2, c3⟩ := boxes2 hb1
        go_wp2_with fail
        refine (isPlace_val _ _ _ H2.out _).mono ?_
        rintro e w2 ⟨rfl, hb2⟩
        have hB2 := below_trans' hB1 hb2
        go_wp2_with fail
        refine (in_val _ _ _ H3.out _).mono ?_
        rintro e w' ⟨rfl, rfl⟩
        go_wp2_with fail
        go_ret
        exact ⟨rfl, hB2⟩
      · have e : v = decide (d2 (ax, ay) (bx, by_) ≤ r * r) := by rw [← HV.out]; unfold near; simp [h1, h2, h3]
        have E := Lib.hid e; clear e HV
        obtain ⟨m1, m2, m3, m4⟩ := vp_iff.1 h1
        obtain ⟨m5, m6, m7, m8⟩ := vp_iff.1 h2
        obtain ⟨m9, m10⟩ := inr_iff.1 h3
        dsimp only at m1 m2 m3 m4 m5 m6 m7 m8
        have q1 := sq_nonneg (ax - bx)
        have q2 := sq_nonneg (ay - by_)
        have q3 := sq_nonneg r
        have q4 := sq_le (x := ax - bx) (b := 10000) (by omega) (by omega)
        have q5 := sq_le (x := ay - by_) (b := 10000) (by omega) (by omega)
        have q6 := sq_le (x := r) (b := 20000) (by omega) (by omega)
        have H1 := Lib.hid h1; clear h1
        have H2 := Lib.hid h2; clear h2
        have H3 := Lib.hid h3; clear h3
        go_enter Try.func21, Try.ntmps21
        go_wp2_with fail
        refine (isPlace_val _ _ _ H1.out _).mono ?_
        rintro e w1 ⟨rfl, hb1⟩
        have hB1 := hB.trans (hb1.mono (by simp <;> omega))
        obtain ⟨c0, c1, c2, c3⟩ := boxes2 hb1
        go_wp2_with fail
        refine (isPlace_val _ _ _ H2.out _).mono ?_
        rintro e w2 ⟨rfl, hb2⟩
        have hB2 := below_trans' hB1 hb2
        clear c0 c1 c2 c3
        obtain ⟨c0, c1, c2, c3⟩ := boxes2 (below_trans' hb1 hb2)
        go_wp2_with fail
        refine (in_val _ _ _ H3.out _).mono ?_
        rintro e w' ⟨rfl, rfl⟩
        go_wp2_with fail
        go_quiet (fail)
        go_wp2_with fail
        all_goals
          go_ret
          refine ⟨congrArg (fun b => Ending.returned (.bool b)) ?_, below_drewN' hB2 _⟩
          rw [E.out]
          unfold d2
          first
          | rfl
          | (dsimp only; rw [show ax - bx = 0 by omega, show ay - by_ = 0 by omega]; simp; exact q3)
          | (dsimp only; simp_all)

theorem refNear_val (ax ay bx by_ r : Int) (v : Bool) (hv : near (ax, ay) (bx, by_) r = v) (w : World) :
    Calls Try.prog 22 #[.agg #[i64 ax, i64 ay], .agg #[i64 bx, i64 by_], i64 r] w fun e w' => e = .returned (.bool v) ∧ Below w.heap.size w w' := by
  have hB := ((Below.refl w.heap.size w).alloc (Nat.le_refl _) (.cells #[i64 ax, i64 ay] 25)).alloc (by simp) (.cells #[i64 bx, i64 by_] 25)
  have HV := Lib.hid hv; clear hv
  by_cases hall : vp (ax, ay) = true ∧ vp (bx, by_) = true ∧ 0 ≤ r ∧ r ≤ 20000
  · obtain ⟨h1, h2, m9, m10⟩ := hall
    have e : v = decide (d2 (ax, ay) (bx, by_) ≤ r * r) := by rw [← HV.out]; unfold near; simp [h1, h2, inr, m9, m10]
    have E := Lib.hid e; clear e HV
    obtain ⟨m1, m2, m3, m4⟩ := vp_iff.1 h1
    obtain ⟨m5, m6, m7, m8⟩ := vp_iff.1 h2
    dsimp only at m1 m2 m3 m4 m5 m6 m7 m8
    have q1 := sq_nonneg (ax - bx)
    have q2 := sq_nonneg (ay - by_)
    have q3 := sq_nonneg r
    have q4 := sq_le (x := ax - bx) (b := 10000) (by omega) (by omega)
    have q5 := sq_le (x := ay - by_) (b := 10000) (by omega) (by omega)
    have q6 := sq_le (x := r) (b := 20000) (by omega) (by omega)
    have H1 := Lib.hid h1; clear h1
    have H2 := Lib.hid h2; clear h2
    go_enter Try.func22, Try.ntmps22
    go_wp2_with fail
    refine (refValid_val _ _ _ H1.out _).mono ?_
    rintro e w1 ⟨rfl, hb1⟩
    have hB1 := hB.trans (hb1.mono (by simp <;> omega))
    obtain ⟨c0, c1, c2, c3⟩ := boxes2 hb1
    go_wp2_with fail
    refine (refValid_val _ _ _ H2.out _).mono ?_
    rintro e w2 ⟨rfl, hb2⟩
    have hB2 := below_trans' hB1 hb2
    clear c0 c1 c2 c3
    obtain ⟨c0, c1, c2, c3⟩ := boxes2 (below_trans' hb1 hb2)
    go_wp2_with fail
    go_ret
    exact ⟨congrArg (fun b => Ending.returned (.bool b)) E.out.symm, hB2⟩
  · have e : v = false := by
      rw [← HV.out]
      cases h1 : vp (ax, ay) <;> cases h2 : vp (bx, by_) <;> simp [near, h1, h2]
      intro h3
      have := inr_iff.1 h3
      exact absurd ⟨h1, h2, this.1, this.2⟩ hall
    subst e
    clear HV
    cases h1 : vp (ax, ay)
    · have H1 := Lib.hid h1; clear h1 hall
      go_enter Try.func22, Try.ntmps22
      go_wp2_with fail
      refine (refValid_val _ _ _ H1.out _).mono ?_
      rintro e w1 ⟨rfl, hb1⟩
      have hB1 := hB.trans (hb1.mono (by simp <;> omega))
      obtain ⟨c0, c1, c2, c3⟩ := boxes2 hb1
      go_wp2_with fail
      refine (refValid_val _ _ _ rfl _).mono ?_
      rintro e w2 ⟨rfl, hb2⟩
      go_wp2_with fail
      go_ret
      exact ⟨rfl, below_trans' hB1 hb2⟩
    · cases h2 : vp (bx, by_)
      · have H1 := Lib.hid h1; clear h1 hall
        have H2 := Lib.hid h2; clear h2
        go_enter Try.func22, Try.ntmps22
        go_wp2_with fail
        refine (refValid_val _ _ _ H1.out _).mono ?_
        rintro e w1 ⟨rfl, hb1⟩
        have hB1 := hB.trans (hb1.mono (by simp <;> omega))
        obtain ⟨c0, c1, c2, c3⟩ := boxes2 hb1
        go_wp2_with fail
        refine (refValid_val _ _ _ H2.out _).mono ?_
        rintro e w2 ⟨rfl, hb2⟩
        go_wp2_with fail
        go_ret
        exact ⟨rfl, below_trans' hB1 hb2⟩
      · have H1 := Lib.hid h1; clear h1
        have H2 := Lib.hid h2; clear h2
        have hr : r < 0 ∨ 20000 < r := by
          have : ¬ (0 ≤ r ∧ r ≤ 20000) := fun h => hall ⟨H1.out, H2.out, h⟩
          omega
        clear hall
        rcases hr with hr | hr
        all_goals
          go_enter Try.func22, Try.ntmps22
          go_wp2_with fail
          refine (refValid_val _ _ _ H1.out _).mono ?_
          rintro e w1 ⟨rfl, hb1⟩
          have hB1 := hB.trans (hb1.mono (by simp <;> omega))
          obtain ⟨c0, c1, c2, c3⟩ := boxes2 hb1
          go_wp2_with fail
          refine (refValid_val _ _ _ H2.out _).mono ?_
          rintro e w2 ⟨rfl, hb2⟩
          go_wp2_with fail
          go_ret
          exact ⟨rfl, below_trans' hB1 hb2⟩
end Go.Proofs.Yteeloebhjmmpdaa.Pl
