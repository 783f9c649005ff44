/- The walks of the laws of chapter 16 on two and three places. -/
import Derived.Test.YteeloebhjmmpdaaPlLaws
namespace Go.Proofs.Yteeloebhjmmpdaa.Pl
open Go.RowKit
set_option linter.unusedVariables false

set_option maxRecDepth 100000 in
set_option maxHeartbeats 1000000 in
theorem planeTriangle_walk (a b c : Pt) (r s : Int) (w : World) (g0 : wfP a) (g1 : wfP b) (g2 : wfP c) (g3 : (Lit.int .i64 r).wf = true) (g4 : (Lit.int .i64 s).wf = true) :
    Calls Try.prog 6 #[.agg #[i64 a.1, i64 a.2], .agg #[i64 b.1, i64 b.2], .agg #[i64 c.1, i64 c.2], i64 r, i64 s] w fun e w' => e = .returned (.bool true) ∧ Below w.heap.size w w' := by
  obtain ⟨hr1, hr2⟩ := bounds_i64 g3
  obtain ⟨hs1, hs2⟩ := bounds_i64 g4
  clear g0 g1 g2 g3 g4
  have hB0 := (((Below.refl w.heap.size w).alloc (Nat.le_refl _) (.cells #[i64 a.1, i64 a.2] 25)).alloc (by simp) (.cells #[i64 b.1, i64 b.2] 25)).alloc (by simp; omega) (.cells #[i64 c.1, i64 c.2] 25)
  by_cases h1 : 0 ≤ r
  · by_cases h2 : 0 ≤ s
    · by_cases h3 : r ≤ 20000
      · by_cases h4 : s ≤ 20000 - r
        · have p1 := ((Blk.new w 25 #[i64 a.1, i64 a.2]).alloc (.cells #[i64 b.1, i64 b.2] 25)).alloc (.cells #[i64 c.1, i64 c.2] 25)
          have p2 := (Blk.new (w.alloc (.cells #[i64 a.1, i64 a.2] 25)) 25 #[i64 b.1, i64 b.2]).alloc (.cells #[i64 c.1, i64 c.2] 25)
          have p3 := (Blk.new ((w.alloc (.cells #[i64 a.1, i64 a.2] 25)).alloc (.cells #[i64 b.1, i64 b.2] 25)) 25 #[i64 c.1, i64 c.2])
          simp only [World.size_alloc] at p2 p3
          go_enter Try.func6, Try.ntmps6
          go_wp2_with fail
          refine (head_val _).mono ?_
          rintro e w1 ⟨rfl, hb1⟩
          have hB1 := hB0.trans (hb1.mono (by simp; omega))
          have P1 := Lib.hid (p1.up' hb1); clear p1
          have P2 := Lib.hid (p2.up' hb1); clear p2
          have P3 := Lib.hid (p3.up' hb1); clear p3
          clear hb1 hB0
          have f0 : w1.cell? ⟨w.heap.size, 0, none⟩ = some (i64 a.1) := P1.out.cell 0
          have f1 : w1.cell? ⟨w.heap.size, 1, none⟩ = some (i64 a.2) := P1.out.cell 1
          have f2 : w1.cell? ⟨w.heap.size + 1, 0, none⟩ = some (i64 b.1) := P2.out.cell 0
          have f3 : w1.cell? ⟨w.heap.size + 1, 1, none⟩ = some (i64 b.2) := P2.out.cell 1
          obtain ⟨v1, hv1⟩ : ∃ v, near a b r = v := ⟨_, rfl⟩
          obtain ⟨v2, hv2⟩ : ∃ v, near b c s = v := ⟨_, rfl⟩
          have H1 := Lib.hid hv1; clear hv1
          have H2 := Lib.hid hv2; clear hv2
          go_wp2_with fail
          refine (near_val _ _ _ _ _ v1 H1.out _).mono ?_
          rintro e w2 ⟨rfl, hb2⟩
          have hB2 := below_trans' hB1 hb2
          have P1 := Lib.hid (P1.out.up' hb2)
          have P2 := Lib.hid (P2.out.up' hb2)
          have P3 := Lib.hid (P3.out.up' hb2)
          clear f0 f1 f2 f3 hb2 hB1
          cases v1
          · go_wp2_with fail
            go_ret
            exact ⟨rfl, hB2⟩
          · have f2 : w2.cell? ⟨w.heap.size + 1, 0, none⟩ = some (i64 b.1) := P2.out.cell 0
            have f3 : w2.cell? ⟨w.heap.size + 1, 1, none⟩ = some (i64 b.2) := P2.out.cell 1
            have f4 : w2.cell? ⟨w.heap.size + 1 + 1, 0, none⟩ = some (i64 c.1) := P3.out.cell 0
            have f5 : w2.cell? ⟨w.heap.size + 1 + 1, 1, none⟩ = some (i64 c.2) := P3.out.cell 1
            go_wp2_with fail
            refine (near_val _ _ _ _ _ v2 H2.out _).mono ?_
            rintro e w3 ⟨rfl, hb3⟩
            have hB3 := below_trans' hB2 hb3
            have P1 := Lib.hid (P1.out.up' hb3)
            have P3 := Lib.hid (P3.out.up' hb3)
            clear f2 f3 f4 f5 hb3 hB2
            cases v2
            · go_wp2_with fail
              go_ret
              exact ⟨rfl, hB3⟩
            · have HV := Lib.hid (near_triangle H1.out H2.out (by omega))
              have f0 : w3.cell? ⟨w.heap.size, 0, none⟩ = some (i64 a.1) := P1.out.cell 0
              have f1 : w3.cell? ⟨w.heap.size, 1, none⟩ = some (i64 a.2) := P1.out.cell 1
              have f4 : w3.cell? ⟨w.heap.size + 1 + 1, 0, none⟩ = some (i64 c.1) := P3.out.cell 0
              have f5 : w3.cell? ⟨w.heap.size + 1 + 1, 1, none⟩ = some (i64 c.2) := P3.out.cell 1
              go_wp2_with fail
              refine (near_val _ _ _ _ _ true HV.out _).mono ?_
              rintro e w4 ⟨rfl, hb4⟩
              go_wp2_with fail
              go_ret
              exact ⟨rfl, below_trans' hB3 hb4⟩
        · go_enter Try.func6, Try.ntmps6
          go_wp2_with fail
          refine (head_val _).mono ?_
          rintro e w1 ⟨rfl, hb1⟩
          have hB1 := hB0.trans (hb1.mono (by simp; omega))
          go_wp2_with fail
          go_ret
          exact ⟨rfl, hB1⟩
      · go_enter Try.func6, Try.ntmps6
        go_wp2_with fail
        refine (head_val _).mono ?_
        rintro e w1 ⟨rfl, hb1⟩
        have hB1 := hB0.trans (hb1.mono (by simp; omega))
        go_wp2_with fail
        go_ret
        exact ⟨rfl, hB1⟩
    · go_enter Try.func6, Try.ntmps6
      go_wp2_with fail
      refine (head_val _).mono ?_
      rintro e w1 ⟨rfl, hb1⟩
      have hB1 := hB0.trans (hb1.mono (by simp; omega))
      go_wp2_with fail
      go_ret
      exact ⟨rfl, hB1⟩
  · go_enter Try.func6, Try.ntmps6
    go_wp2_with fail
    refine (head_val _).mono ?_
    rintro e w1 ⟨rfl, hb1⟩
    have hB1 := hB0.trans (hb1.mono (by simp; omega))
    go_wp2_with fail
    go_ret
    exact ⟨rfl, hB1⟩

theorem pt_eq (a b : Pt) : (a.1 == b.1 && a.2 == b.2) = decide (a = b) := by
  rw [Bool.eq_iff_iff, decide_eq_true_iff, Bool.and_eq_true, beq_iff_eq, beq_iff_eq]
  exact Prod.ext_iff.symm

set_option maxRecDepth 100000 in
set_option maxHeartbeats 1000000 in
theorem planeRadius_walk (a b : Pt) (r s : Int) (w : World) (g0 : wfP a) (g1 : wfP b) (g3 : (Lit.int .i64 r).wf = true) (g4 : (Lit.int .i64 s).wf = true) :
    Calls Try.prog 5 #[.agg #[i64 a.1, i64 a.2], .agg #[i64 b.1, i64 b.2], i64 r, i64 s] w fun e w' => e = .returned (.bool true) ∧ Below w.heap.size w w' := by
  obtain ⟨hr1, hr2⟩ := bounds_i64 g3
  obtain ⟨hs1, hs2⟩ := bounds_i64 g4
  clear g0 g1 g3 g4
  obtain ⟨ax, ay⟩ := a
  obtain ⟨bx, by_⟩ := b
  dsimp only
  have hB0 := ((Below.refl w.heap.size w).alloc (Nat.le_refl _) (.cells #[i64 ax, i64 ay] 25)).alloc (by simp) (.cells #[i64 bx, i64 by_] 25)
  have p1 := ((Blk.new w 25 #[i64 ax, i64 ay]).alloc (.cells #[i64 bx, i64 by_] 25))
  have p2 := (Blk.new (w.alloc (.cells #[i64 ax, i64 ay] 25)) 25 #[i64 bx, i64 by_])
  simp only [World.size_alloc] at p2
  obtain ⟨va, hva⟩ : ∃ v, vp (ax, ay) = v := ⟨_, rfl⟩
  obtain ⟨vb, hvb⟩ : ∃ v, vp (bx, by_) = v := ⟨_, rfl⟩
  have VA := Lib.hid hva; clear hva
  have VB := Lib.hid hvb; clear hvb
  go_enter Try.func5, Try.ntmps5
  go_wp2_with fail
  refine (head_val _).mono ?_
  rintro e w1 ⟨rfl, hb1⟩
  have hB1 := hB0.trans (hb1.mono (by simp; omega))
  have P1 := Lib.hid (p1.up' hb1); clear p1
  have P2 := Lib.hid (p2.up' hb1); clear p2
  clear hb1 hB0
  have f0 : w1.cell? ⟨w.heap.size, 0, none⟩ = some (i64 ax) := P1.out.cell 0
  have f1 : w1.cell? ⟨w.heap.size, 1, none⟩ = some (i64 ay) := P1.out.cell 1
  go_wp2_with fail
  refine (refValid_val _ _ va VA.out _).mono ?_
  rintro e w2 ⟨rfl, hb2⟩
  have hB2 := below_trans' hB1 hb2
  have P1 := Lib.hid (P1.out.up' hb2)
  have P2 := Lib.hid (P2.out.up' hb2)
  clear f0 f1 hb2 hB1
  have f2 : w2.cell? ⟨w.heap.size + 1, 0, none⟩ = some (i64 bx) := P2.out.cell 0
  have f3 : w2.cell? ⟨w.heap.size + 1, 1, none⟩ = some (i64 by_) := P2.out.cell 1
  go_wp2_with fail
  refine (refValid_val _ _ vb VB.out _).mono ?_
  rintro e w3 ⟨rfl, hb3⟩
  have hB3 := below_trans' hB2 hb3
  have P1 := Lib.hid (P1.out.up' hb3)
  have P2 := Lib.hid (P2.out.up' hb3)
  clear f2 f3 hb3 hB2
  cases va
  · go_wp2_with fail
    go_ret
    exact ⟨rfl, hB3⟩
  cases vb
  · go_wp2_with fail
    go_ret
    exact ⟨rfl, hB3⟩
  by_cases h1 : 0 ≤ r
  · by_cases h2 : 0 ≤ s
    · by_cases h3 : r ≤ 20000
      · by_cases h4 : s ≤ 20000 - r
        · have f0 : w3.cell? ⟨w.heap.size, 0, none⟩ = some (i64 ax) := P1.out.cell 0
          have f1 : w3.cell? ⟨w.heap.size, 1, none⟩ = some (i64 ay) := P1.out.cell 1
          have f2 : w3.cell? ⟨w.heap.size + 1, 0, none⟩ = some (i64 bx) := P2.out.cell 0
          have f3 : w3.cell? ⟨w.heap.size + 1, 1, none⟩ = some (i64 by_) := P2.out.cell 1
          obtain ⟨v1, hv1⟩ : ∃ v, near (ax, ay) (bx, by_) r = v := ⟨_, rfl⟩
          have H1 := Lib.hid hv1; clear hv1
          go_wp2_with fail
          refine (near_val _ _ _ _ _ v1 H1.out _).mono ?_
          rintro e w4 ⟨rfl, hb4⟩
          have hB4 := below_trans' hB3 hb4
          have P1 := Lib.hid (P1.out.up' hb4)
          have P2 := Lib.hid (P2.out.up' hb4)
          clear f0 f1 f2 f3 hb4 hB3
          have hup : ∀ a b, Below w4.heap.size w4 a → Below a.heap.size a b → Below w4.heap.size w4 b := fun a b h k => below_trans' h k
          have f0 : ∀ s : WOf (Below w4.heap.size w4), s.w.cell? ⟨w.heap.size, 0, none⟩ = some (i64 ax) := fun s => ((P1.out.up' s.ok).cell 0)
          have f1 : ∀ s : WOf (Below w4.heap.size w4), s.w.cell? ⟨w.heap.size, 1, none⟩ = some (i64 ay) := fun s => ((P1.out.up' s.ok).cell 1)
          have f2 : ∀ s : WOf (Below w4.heap.size w4), s.w.cell? ⟨w.heap.size + 1, 0, none⟩ = some (i64 bx) := fun s => ((P2.out.up' s.ok).cell 0)
          have f3 : ∀ s : WOf (Below w4.heap.size w4), s.w.cell? ⟨w.heap.size + 1, 1, none⟩ = some (i64 by_) := fun s => ((P2.out.up' s.ok).cell 1)
          have hn0 := near_zero VA.out VB.out
          have HNF := Lib.hid (near_far VA.out VB.out)
          have hz : ∃ z, decide ((ax, ay) = (bx, by_)) = z ∧ ((z = true ∧ ax = bx ∧ ay = by_) ∨ (z = false ∧ ax = bx ∧ ay ≠ by_) ∨ (z = false ∧ ax ≠ bx)) := by
            refine ⟨_, rfl, ?_⟩
            by_cases e1 : ax = bx
            · by_cases e2 : ay = by_
              · exact .inl ⟨by simp [e1, e2], e1, e2⟩
              · exact .inr (.inl ⟨by simp [e2], e1, e2⟩)
            · exact .inr (.inr ⟨by simp [e1], e1⟩)
          obtain ⟨z, hz, hcase⟩ := hz
          rw [hz] at hn0
          have HN0 := Lib.hid hn0; clear hn0 hz
          have N0 := Lib.hid (fun W => near_val ax ay bx by_ 0 z HN0.out W)
          have NF := Lib.hid (fun W => near_val ax ay bx by_ 15000 true HNF.out W)
          have HV : Hid (v1 = true → near (ax, ay) (bx, by_) (r + s) = true) := fun e => near_mono (s := s) (by rw [H1.out, e]) (by unfold inr; simp; omega) h2
          rcases hcase with ⟨rfl, rfl, rfl⟩ | ⟨rfl, rfl, hne2⟩ | ⟨rfl, hne1⟩
          all_goals
            cases v1
            · go_wp2_with fail
              refine wp_region_ext (Below w4.heap.size w4) (Below.refl _ _) hup (by kernel_rfl) (by kernel_rfl) (fun hne => ?_)
              try simp only [List.append_eq, List.cons_append, List.nil_append]
              repeat (go_big_quiet_step ((first
                | with_reducible exact calls_ext hup (N0.out _)
                | with_reducible exact calls_ext hup (NF.out _))))
              refine wpQuiet_nil ?_
              clear hne
              intro _ hx'
              obtain ⟨⟨wx, hx⟩, hx''⟩ := hx'
              subst hx''
              go_wp2_with fail
              go_ret
              exact ⟨rfl, below_trans' hB4 hx⟩
            · have NV := Lib.hid (fun W => near_val _ _ _ _ (r + s) true (HV.out rfl) W)
              go_wp2_with fail
              refine wp_region_ext (Below w4.heap.size w4) (Below.refl _ _) hup (by kernel_rfl) (by kernel_rfl) (fun hne => ?_)
              try simp only [List.append_eq, List.cons_append, List.nil_append]
              repeat (go_big_quiet_step ((first
                | with_reducible exact calls_ext hup (N0.out _)
                | with_reducible exact calls_ext hup (NF.out _)
                | with_reducible exact calls_ext hup (NV.out _))))
              refine wpQuiet_nil ?_
              clear hne
              intro _ hx'
              obtain ⟨⟨wx, hx⟩, hx''⟩ := hx'
              subst hx''
              go_wp2_with fail
              go_ret
              exact ⟨rfl, below_trans' hB4 hx⟩
        · go_wp2_with fail
          go_ret
          exact ⟨rfl, hB3⟩
      · go_wp2_with fail
        go_ret
        exact ⟨rfl, hB3⟩
    · go_wp2_with fail
      go_ret
      exact ⟨rfl, hB3⟩
  · go_wp2_with fail
    go_ret
    exact ⟨rfl, hB3⟩
end Go.Proofs.Yteeloebhjmmpdaa.Pl
