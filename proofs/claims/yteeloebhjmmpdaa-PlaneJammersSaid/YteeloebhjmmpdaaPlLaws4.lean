/- The walk of the law of chapter 16 on the places without the last one. -/
import Derived.Test.YteeloebhjmmpdaaPlLaws3
namespace Go.Proofs.Yteeloebhjmmpdaa.Pl
open Go.RowKit
set_option linter.unusedVariables false

theorem okp_init {l : List Pt} {r : Int} (h : okp l r = true) (n : Nat) : okp (l.take n) r = true := by
  have h1 := okp_len h
  have h2 := okp_inr h
  unfold okp at h ⊢
  simp only [Bool.and_eq_true, decide_eq_true_eq] at h ⊢
  refine ⟨⟨by simp; omega, h2⟩, ?_⟩
  rw [List.all_eq_true]
  exact fun x hx => List.all_eq_true.1 h.2 x (List.mem_of_mem_take hx)
theorem hear_take {l : List Pt} {r : Int} {n i k : Nat} (hi : i < n) (hk : k < n) : hear (l.take n) r i k = hear l r i k := by
  unfold hear
  rw [List.getD_eq_getElem?_getD, List.getD_eq_getElem?_getD, List.getElem?_take, List.getElem?_take, if_pos hi, if_pos hk, List.getD_eq_getElem?_getD, List.getD_eq_getElem?_getD]
theorem flat_take {α β : Type} (f : α → List β) (s : Nat) (hf : ∀ a, (f a).length = s) : ∀ (l : List α) (n : Nat), (l.flatMap f).take (n * s) = (l.take n).flatMap f
  | [], n => by simp
  | a :: l, 0 => by simp
  | a :: l, n + 1 => by
    rw [List.flatMap_cons, List.take_succ_cons, List.flatMap_cons, Nat.add_mul, Nat.one_mul, List.take_append, hf]
    rw [List.take_of_length_le (by rw [hf]; omega), show n * s + s - s = n * s by omega, flat_take f s hf l n]

set_option maxRecDepth 100000 in
set_option maxHeartbeats 2000000 in
theorem planeOthers_walk (A : Option Addr) (n c : Nat) (l : List Pt) (r : Int) (w : World) (g0 : IsPlaces w A n c l) (g1 : (Lit.int .i64 r).wf = true) :
    Calls Try.prog 8 #[.slice A n c, i64 r] w fun e w' => e = .returned (.bool true) ∧ Below w.heap.size w w' := by
  have hm0 := small_of g0
  obtain ⟨hl, hR, hnc, _, _⟩ := g0
  clear g1
  by_cases hlen : n ≤ 60
  · by_cases h0 : n = 0
    · subst h0
      go_enter Try.func8, Try.ntmps8
      go_wp2_with fail
      refine (head_val _).mono ?_
      rintro e w1 ⟨rfl, hb1⟩
      go_wp2_with fail
      go_ret
      exact ⟨rfl, hb1⟩
    obtain ⟨N, rfl⟩ : ∃ N, n = N + 1 := ⟨n - 1, by omega⟩
    have hN0 : (((N : Int) + 1) == 0) = false := by rw [beq_eq_false_iff_ne]; omega
    cases hok : okp l r
    · go_enter Try.func8, Try.ntmps8
      go_wp2_with fail
      refine (head_val _).mono ?_
      rintro e w1 ⟨rfl, hb1⟩
      go_wp2_with fail
      refine (hears_bad A (N + 1) c w.heap.size l r hok _ (hR.below hb1) hb1.size hl hm0).mono ?_
      rintro e w2 ⟨rfl, hb2⟩
      go_wp2_with fail
      go_ret
      exact ⟨rfl, below_trans' hb1 hb2⟩
    · have HK := Lib.hid hok; clear hok
      have HL := Lib.hid hl; clear hl
      go_enter Try.func8, Try.ntmps8
      go_wp2_with fail
      refine (head_val _).mono ?_
      rintro e w1 ⟨rfl, hb1⟩
      go_wp2_with fail
      refine (hears_good A (N + 1) c w.heap.size l r HK.out _ (hR.below hb1) hb1.size HL.out).mono ?_
      rintro e w2 ⟨G, rfl, T, hb2⟩
      have hB2 := below_trans' hb1 hb2
      have HT := Lib.hid T; clear T hb1 hb2
      go_wp2_with fail
      have hRt := (hR.below hB2).take (k := N) (by omega)
      rw [flat_take decP 2 (fun _ => rfl)] at hRt
      have HKt := Lib.hid (okp_init HK.out N)
      have hlt : (l.take N).length = N := by have := HL.out; simp; omega
      refine (hears_good A N c w.heap.size (l.take N) r HKt.out _ hRt hB2.size hlt).mono ?_
      rintro e w3 ⟨G', rfl, T', hb3⟩
      have hB3 := below_trans' hB2 hb3
      have HT := Lib.hid (HT.out.up hb3)
      have HT' := Lib.hid T'; clear T' hb3 hB2
      go_wp2_with fail
      refine (square_val _ (N + 1) _ _ _ (N + 1) rfl (fun i hi => by rw [table_row l r hi]; simp) _ HT.out hm0).mono ?_
      rintro e w' ⟨rfl, rfl⟩
      go_wp2_with fail
      refine (square_val _ N _ _ _ N rfl (fun i hi => by rw [table_row _ r hi]; simp) _ HT'.out (by omega)).mono ?_
      rintro e w' ⟨rfl, rfl⟩
      go_wp2_with fail
      go_loopw [5, 11] (fun u i wr => ∃ m : Nat, m ≤ N ∧ u = .bool true ∧ i = .int .i64 m ∧ ∃ d, Hid (wr = w3.drewN d)) (fun _ i _ => N - (intOf i).toNat)
      case atStart => exact ⟨0, Nat.zero_le _, rfl, rfl, 0, rfl⟩
      case round =>
        obtain ⟨m, hm, rfl, rfl, d, HW⟩ := hrel
        obtain rfl := HW.out
        clear HW
        by_cases hlt1 : m < N
        · obtain ⟨b, off, S, O, C, e, hgrid⟩ := HT.out.grid (by omega)
          simp only [Option.some.injEq, Addr.mk.injEq, and_true] at e
          obtain ⟨rfl, rfl⟩ := e
          obtain ⟨b', off', S', O', C', e, hgrid'⟩ := HT'.out.grid (by omega)
          simp only [Option.some.injEq, Addr.mk.injEq, and_true] at e
          obtain ⟨rfl, rfl⟩ := e
          have HG := Lib.hid hgrid; clear hgrid
          have HG' := Lib.hid hgrid'; clear hgrid'
          go_wp2_with fail
          go_loopw [5, 12] (fun u i wr => ∃ k : Nat, k ≤ N ∧ u = .bool true ∧ i = .int .i64 k ∧ ∃ d, Hid (wr = w3.drewN d)) (fun _ i _ => N - (intOf i).toNat)
          case atStart => exact ⟨0, Nat.zero_le _, rfl, rfl, d, rfl⟩
          case round =>
            obtain ⟨k, hk, rfl, rfl, d2, HW⟩ := hrel
            obtain rfl := HW.out
            clear HW
            by_cases hk1 : k < N
            · have f0 : w3.cell? ⟨G, m, none⟩ = some (.slice (some ⟨S m, O m, none⟩) (N + 1) (C m)) := by have := (HG.out m (by omega)).1; rwa [Nat.zero_add] at this
              have f1 : w3.cell? ⟨S m, O m + k, none⟩ = some (.bool (hear l r m k)) := (HG.out m (by omega)).2 k (by omega)
              have f2 : w3.cell? ⟨G', m, none⟩ = some (.slice (some ⟨S' m, O' m, none⟩) N (C' m)) := by have := (HG'.out m hlt1).1; rwa [Nat.zero_add] at this
              have f3 : w3.cell? ⟨S' m, O' m + k, none⟩ = some (.bool (hear l r m k)) := by have := (HG'.out m hlt1).2 k hk1; rwa [hear_take hlt1 hk1] at this
              generalize hear l r m k = v at f1 f3
              go_wp2_with fail
              go_quiet (fail)
              go_wp2_with fail
              go_roundw
              case rel => exact ⟨k + 1, by omega, by simp, by go_num, _, rfl⟩
              case measure => simp [intOf]; omega
            · go_wp2_with fail
              go_roundw
              case rel => exact ⟨m + 1, by omega, rfl, by go_num, _, rfl⟩
              case measure => simp [intOf]; omega
        · go_wp2_with fail
          go_ret
          exact ⟨rfl, below_drewN' hB3 _⟩
  · go_enter Try.func8, Try.ntmps8
    go_wp2_with fail
    refine (head_val _).mono ?_
    rintro e w1 ⟨rfl, hb1⟩
    go_wp2_with fail
    go_ret
    exact ⟨rfl, hb1⟩
end Go.Proofs.Yteeloebhjmmpdaa.Pl
