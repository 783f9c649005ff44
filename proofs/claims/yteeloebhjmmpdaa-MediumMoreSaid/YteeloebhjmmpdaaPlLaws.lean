/- The walks of the laws of chapter 16. -/
import Derived.Test.YteeloebhjmmpdaaExt
import Derived.Test.YteeloebhjmmpdaaPlRef
namespace Go.Proofs.Yteeloebhjmmpdaa.Pl
open Go.RowKit
set_option linter.unusedVariables false

theorem small_of {α : Type} {dec : α → List Value} {k : Nat} {G : α → Prop} {w : World} {A : Option Addr} {n c : Nat} {l : List α} (h : IsList dec k G w A n c l) : n ≤ maxLen := Nat.le_trans h.2.2.1 h.2.2.2.1

def tn (l : List Pt) (r : Int) : Nat := if okp l r then l.length else 0
def tc (l : List Pt) (r : Int) : Int := if okp l r then 0 else 1
def tt (l : List Pt) (r : Int) : List (List Bool) := if okp l r then table l r l.length else []
theorem tn_le (l : List Pt) (r : Int) : tn l r ≤ 60 := by
  unfold tn
  split
  · rename_i h
    rw [okp_parts] at h
    simp at h
    omega
  · omega
theorem hears_all (A : Option Addr) (n c B : Nat) (l : List Pt) (r : Int) (w : World) (hR : Rd w B 2 A n (l.flatMap decP)) (hB : B ≤ w.heap.size) (hl : l.length = n) (hn : n ≤ maxLen) :
    Calls Try.prog 18 #[.slice A n c, i64 r] w fun e w' => ∃ X q, e = .returned (.tuple #[.slice X (tn l r) q, i64 (tc l r)]) ∧ Tab w' w'.heap.size X (tn l r) (tt l r) ∧ Below w.heap.size w w' := by
  unfold tn tc tt
  cases hv : okp l r
  · refine (hears_bad A n c B l r hv w hR hB hl hn).mono ?_
    rintro e w' ⟨rfl, hb⟩
    exact ⟨none, 0, rfl, tab_nil _ _, hb⟩
  · refine (hears_good A n c B l r hv w hR hB hl).mono ?_
    rintro e w' ⟨G, rfl, hT, hb⟩
    subst hl
    exact ⟨_, _, rfl, hT, hb⟩
theorem refHears_all (A : Option Addr) (n c B : Nat) (l : List Pt) (r : Int) (w : World) (hR : Rd w B 2 A n (l.flatMap decP)) (hB : B ≤ w.heap.size) (hl : l.length = n) (hn : n ≤ maxLen) :
    Calls Try.prog 19 #[.slice A n c, i64 r] w fun e w' => ∃ X q, e = .returned (.tuple #[.slice X (tn l r) q, i64 (tc l r)]) ∧ Tab w' w'.heap.size X (tn l r) (tt l r) ∧ Below w.heap.size w w' := by
  unfold tn tc tt
  cases hv : okp l r
  · refine (refHears_bad A n c B l r hv w hR hB hl hn).mono ?_
    rintro e w' ⟨rfl, hb⟩
    exact ⟨none, 0, rfl, tab_nil _ _, hb⟩
  · refine (refHears_good A n c B l r hv w hR hB hl).mono ?_
    rintro e w' ⟨X, k, rfl, hT, hb⟩
    subst hl
    exact ⟨_, _, rfl, hT, hb⟩

set_option maxRecDepth 100000 in
set_option maxHeartbeats 1000000 in
theorem planeMatchesReference_walk (A0 : Option Addr) (n0 c0 : Nat) (l0 : List Pt) (x1 : Int) (A2 : Option Addr) (n2 c2 : Nat) (l2 : List Jm) (x3 x4 : Pt) (x5 x6 : Int) (w : World) (g0 : IsPlaces w A0 n0 c0 l0) (g1 : (Lit.int .i64 x1).wf = true) (g2 : IsJams w A2 n2 c2 l2)
    (g3 : wfP x3) (g4 : wfP x4) (g5 : (Lit.int .i64 x5).wf = true) (g6 : (Lit.int .i64 x6).wf = true) :
    Calls Try.prog 3 #[.slice A0 n0 c0, i64 x1, .slice A2 n2 c2, .agg #[i64 x3.1, i64 x3.2], .agg #[i64 x4.1, i64 x4.2], i64 x5, i64 x6] w fun e w' => e = .returned (.bool true) ∧ Below w.heap.size w w' := by
  have hm0 := small_of g0
  have hm2 := small_of g2
  obtain ⟨hl0, hR0, hc0, _, _⟩ := g0
  obtain ⟨hl2, hR2, hc2, _, _⟩ := g2
  clear g1 g3 g4 g5 g6 hc0 hc2
  have HL0 := Lib.hid hl0; clear hl0
  have HL2 := Lib.hid hl2; clear hl2
  have hB0 := ((Below.refl w.heap.size w).alloc (Nat.le_refl _) (.cells #[i64 x3.1, i64 x3.2] 25)).alloc (by simp) (.cells #[i64 x4.1, i64 x4.2] 25)
  by_cases hlen : n0 ≤ 100 ∧ n2 ≤ 100
  · obtain ⟨hlen0, hlen2⟩ := hlen
    have p1 := (Blk.new w 25 #[i64 x3.1, i64 x3.2]).alloc (.cells #[i64 x4.1, i64 x4.2] 25)
    have p2 := (Blk.new (w.alloc (.cells #[i64 x3.1, i64 x3.2] 25)) 25 #[i64 x4.1, i64 x4.2])
    rw [World.size_alloc] at p2
    go_enter Try.func3, Try.ntmps3
    go_wp2_with fail
    refine (head_val _).mono ?_
    rintro e w1 ⟨rfl, hb1⟩
    have hB1 := hB0.trans (hb1.mono (by simp; omega))
    have P1 := Lib.hid (p1.up' hb1); clear p1
    have P2 := Lib.hid (p2.up' hb1); clear p2
    clear hb1
    go_wp2_with fail
    refine (hears_all A0 n0 c0 w.heap.size l0 x1 _ (hR0.below hB1) hB1.size HL0.out hm0).mono ?_
    rintro e w2 ⟨X, q, rfl, T1, hb2⟩
    have hB2 := below_trans' hB1 hb2
    have P1 := Lib.hid (P1.out.up' hb2)
    have P2 := Lib.hid (P2.out.up' hb2)
    have HT1 := Lib.hid T1; clear T1 hb2 hB1
    go_wp2_with fail
    refine (refHears_all A0 n0 c0 w.heap.size l0 x1 _ (hR0.below hB2) hB2.size HL0.out hm0).mono ?_
    rintro e w3 ⟨Y, q', rfl, T2, hb3⟩
    have hB3 := below_trans' hB2 hb3
    have P1 := Lib.hid (P1.out.up' hb3)
    have P2 := Lib.hid (P2.out.up' hb3)
    have HT1 := Lib.hid (HT1.out.up hb3)
    have HT2 := Lib.hid T2; clear T2 hb3 hB2
    have htn := tn_le l0 x1
    generalize tn l0 x1 = N at *
    generalize tc l0 x1 = C at *
    generalize tt l0 x1 = L at *
    go_wp2_with fail
    obtain ⟨v1, hv1⟩ : ∃ v, near x3 x4 x1 = v := ⟨_, rfl⟩
    obtain ⟨v2, hv2⟩ : ∃ v, jammed l2 x3 x5 x6 = v := ⟨_, rfl⟩
    have hup : ∀ a b, Below w3.heap.size w3 a → Below a.heap.size a b → Below w3.heap.size w3 b := fun a b h k => below_trans' h k
    have f0 : ∀ s : WOf (Below w3.heap.size w3), s.w.cell? ⟨w.heap.size, 0, none⟩ = some (i64 x3.1) := fun s => ((P1.out.up' s.ok).cell 0)
    have f1 : ∀ s : WOf (Below w3.heap.size w3), s.w.cell? ⟨w.heap.size, 1, none⟩ = some (i64 x3.2) := fun s => ((P1.out.up' s.ok).cell 1)
    have f2 : ∀ s : WOf (Below w3.heap.size w3), s.w.cell? ⟨w.heap.size + 1, 0, none⟩ = some (i64 x4.1) := fun s => ((P2.out.up' s.ok).cell 0)
    have f3 : ∀ s : WOf (Below w3.heap.size w3), s.w.cell? ⟨w.heap.size + 1, 1, none⟩ = some (i64 x4.2) := fun s => ((P2.out.up' s.ok).cell 1)
    have hmN : N ≤ maxLen := by unfold maxLen; omega
    have hLL : decide (L = L) = true := by simp
    have hRs := Lib.hid (fun s : WOf (Below w3.heap.size w3) => (hR2.below (below_trans' hB3 s.ok)))
    have hSs := Lib.hid (fun s : WOf (Below w3.heap.size w3) => (below_trans' hB3 s.ok).size)
    refine wp_region_ext (Below w3.heap.size w3) (Below.refl _ _) hup (by kernel_rfl) (by kernel_rfl) (fun hne => ?_)
    try simp only [List.append_eq, List.cons_append, List.nil_append]
    repeat (go_big_quiet_step ((first
      | (refine calls_ext hup (refSame_val _ _ _ _ L _ _ _ _ L true hLL _ (HT1.out.up ?_) (HT2.out.up ?_) hmN hmN) <;> exact WOf.ok _)
      | exact calls_ext hup (near_val _ _ _ _ _ v1 hv1 _)
      | exact calls_ext hup (refNear_val _ _ _ _ _ v1 hv1 _)
      | exact calls_ext hup (jammed_val _ _ _ _ l2 _ _ _ _ v2 hv2 _ (hRs.out _) (hSs.out _) HL2.out hm2)
      | exact calls_ext hup (refJammed_val _ _ _ _ l2 _ _ _ _ v2 hv2 _ (hRs.out _) (hSs.out _) HL2.out hm2))))
    refine wpQuiet_nil ?_
    clear hne
    intro _ hx'
    obtain ⟨⟨wx, hx⟩, hx''⟩ := hx'
    subst hx''
    go_wp2_with fail
    go_ret
    exact ⟨rfl, below_trans' hB3 hx⟩
  · by_cases hlen0 : n0 ≤ 100
    · have hlen1 : 100 < n2 := by omega
      go_enter Try.func3, Try.ntmps3
      go_wp2_with fail
      refine (head_val _).mono ?_
      rintro e w1 ⟨rfl, hb1⟩
      go_wp2_with fail
      go_ret
      exact ⟨rfl, hB0.trans (hb1.mono (by simp; omega))⟩
    · go_enter Try.func3, Try.ntmps3
      go_wp2_with fail
      refine (head_val _).mono ?_
      rintro e w1 ⟨rfl, hb1⟩
      go_wp2_with fail
      go_ret
      exact ⟨rfl, hB0.trans (hb1.mono (by simp; omega))⟩
end Go.Proofs.Yteeloebhjmmpdaa.Pl
