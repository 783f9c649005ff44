/- seal.Open: its three checks. -/
import Derived.Test.YtineokopmdjapaaExt
import Derived.Test.YtineokopmdjapaaOaRing
namespace Go.Proofs.Ytineokopmdjapaa.Oa
open Go.RowKit
set_option linter.unusedVariables false

theorem known_val (n : Nat) (hn : n ≤ 1000000000) (w : World) :
    Calls Try.prog 10 #[i64 ((n / 2000 : Nat) : Int), rv n] w fun e w' => e = .returned (.bool true) ∧ Below w.heap.size w w' := by
  unfold rv
  obtain ⟨q, hq⟩ : ∃ q, n / 2000 = q := ⟨_, rfl⟩
  have hq1 : q ≤ 500000 := by omega
  simp only [hq]
  clear hq
  have hlt : (q : Int) < (q : Int) + 2 := by omega
  go_enter Try.func10, Try.ntmps10
  go_wp2_with fail
  go_ret
  exact ⟨rfl, (Below.refl _ w).alloc (Nat.le_refl _) _⟩
theorem open1_val (n B : Nat) (hn : n ≤ 1000000000) (w : World) (c0 : w.cell? ⟨B, 0, none⟩ = some (i64 (n : Nat))) :
    Calls Try.prog 17 #[.pointer (some ⟨B, 0, none⟩)] w fun e w' => e = .returned (i64 0) ∧ w = w' := by
  go_enter Try.func17, Try.ntmps17
  go_wp2_with fail
  refine (key_val n hn _).mono ?_
  rintro e w1 ⟨rfl, rfl⟩
  go_wp2_with fail
  go_ret
  exact ⟨rfl, rfl⟩
theorem open2_same (n F B : Nat) (w : World) (c0 : w.cell? ⟨F, 3, none⟩ = some (i64 (n : Nat))) (c1 : w.cell? ⟨B, 0, none⟩ = some (i64 (n : Nat))) :
    Calls Try.prog 18 #[.pointer (some ⟨F, 0, none⟩), .pointer (some ⟨B, 0, none⟩)] w fun e w' => e = .returned (i64 0) ∧ w = w' := by
  go_enter Try.func18, Try.ntmps18
  go_wp2_with fail
  refine (unless_val true 14 _).mono ?_
  rintro e w1 ⟨rfl, rfl⟩
  go_wp2_with fail
  go_ret
  exact ⟨rfl, rfl⟩
theorem open2_other (a n F B : Nat) (h : a ≠ n) (w : World) (c0 : w.cell? ⟨F, 3, none⟩ = some (i64 (a : Nat))) (c1 : w.cell? ⟨B, 0, none⟩ = some (i64 (n : Nat))) :
    Calls Try.prog 18 #[.pointer (some ⟨F, 0, none⟩), .pointer (some ⟨B, 0, none⟩)] w fun e w' => e = .returned (i64 14) ∧ w = w' := by
  have he : ((a : Int) == (n : Int)) = false := by rw [beq_eq_false_iff_ne]; omega
  clear h
  go_enter Try.func18, Try.ntmps18
  go_wp2_with fail
  refine (unless_val false 14 _).mono ?_
  rintro e w1 ⟨rfl, rfl⟩
  go_wp2_with fail
  go_ret
  exact ⟨rfl, rfl⟩

/-- The third check, of a frame that is sealed for the slot, with the root's ring. -/
theorem open3_ok (n F B R : Nat) (hn : n ≤ 1000000000) (w : World) (hF : F < w.heap.size) (hB : B < w.heap.size) (hR : R < w.heap.size) (c0 : w.cell? ⟨F, 4, none⟩ = some (i64 ((n / 2000 + 1 : Nat) : Int))) (c1 : w.cell? ⟨B, 0, none⟩ = some (i64 (n : Nat)))
    (c2 : w.cell? ⟨R, 0, none⟩ = some (i64 ((n / 2000 : Nat) : Int))) (c3 : w.cell? ⟨R, 1, none⟩ = some (i64 ((n / 2000 + 2 : Nat) : Int))) :
    Calls Try.prog 20 #[.pointer (some ⟨F, 0, none⟩), .pointer (some ⟨B, 0, none⟩), .pointer (some ⟨R, 0, none⟩)] w fun e w' => e = .returned (i64 0) ∧ Below w.heap.size w w' := by
  have hup : ∀ a b, Below w.heap.size w a → Below a.heap.size a b → Below w.heap.size w b := fun a b h k => below_trans' h k
  have NA := of_val n hn
  have NB := number_val (n / 2000) (by omega)
  have NC := known_val n hn
  unfold rv at NC
  obtain ⟨q, hq⟩ : ∃ q, n / 2000 = q := ⟨_, rfl⟩
  have hq1 : q ≤ 500000 := by omega
  have e2 : ((q + 2 : Nat) : Int) = (q : Int) + 2 := by omega
  simp only [hq, e2] at NA NB NC c0 c2 c3
  clear hq e2
  have NA := Lib.hid NA
  have NB := Lib.hid NB
  have NC := Lib.hid NC
  have ND := Lib.hid (unless_val true 13)
  have f0 : ∀ s : WOf (Below w.heap.size w), s.w.cell? ⟨F, 4, none⟩ = some (i64 ((q + 1 : Nat) : Int)) := fun s => (s.ok.cell (p := ⟨F, 4, none⟩) hF).trans c0
  have f1 : ∀ s : WOf (Below w.heap.size w), s.w.cell? ⟨B, 0, none⟩ = some (i64 (n : Nat)) := fun s => (s.ok.cell (p := ⟨B, 0, none⟩) hB).trans c1
  have f2 : ∀ s : WOf (Below w.heap.size w), s.w.cell? ⟨R, 0, none⟩ = some (i64 (q : Nat)) := fun s => (s.ok.cell (p := ⟨R, 0, none⟩) hR).trans c2
  have f3 : ∀ s : WOf (Below w.heap.size w), s.w.cell? ⟨R, 1, none⟩ = some (i64 ((q : Int) + 2)) := fun s => (s.ok.cell (p := ⟨R, 1, none⟩) hR).trans c3
  clear c0 c1 c2 c3
  go_enter Try.func20, Try.ntmps20
  go_wp2_with fail
  refine wp_region_ext (Below w.heap.size w) (Below.refl _ _) hup (by kernel_rfl) (by kernel_rfl) (fun hne => ?_)
  repeat (go_big_quiet_step (first | with_reducible exact calls_ext_same (NA.out _) | with_reducible exact calls_ext_same (NB.out _) | with_reducible exact calls_ext hup (NC.out _) | with_reducible exact calls_ext_same (ND.out _)))
  refine wpQuiet_nil ?_
  clear hne
  intro wx hx'
  obtain ⟨⟨_, hx⟩, hx''⟩ := hx'
  subst hx''
  go_wp2_with fail
  go_ret
  exact ⟨rfl, hx⟩
end Go.Proofs.Ytineokopmdjapaa.Oa
