/- The walks of the laws of chapter 16 on tables: symmetry; without the last place. -/
import Derived.Test.YteeloebhjmmpdaaPlLaws
namespace Go.Proofs.Yteeloebhjmmpdaa.Pl
open Go.RowKit
set_option linter.unusedVariables false

theorem cell_up {w w' : World} {p : Addr} {v : Value} (h : w.cell? p = some v) (hb : Below w.heap.size w w') : w'.cell? p = some v := (hb.cell (cell_lt h)).trans h

/-- All cells of a table. -/
theorem Tab.grid {w : World} {A : Option Addr} {n : Nat} {l : List Pt} {r : Int} (h : Tab w w.heap.size A n (table l r n)) (hn : 0 < n) : ∃ (b off : Nat) (S O C : Nat → Nat), A = some ⟨b, off, none⟩ ∧
    ∀ i, i < n → w.cell? ⟨b, off + i, none⟩ = some (.slice (some ⟨S i, O i, none⟩) n (C i)) ∧ ∀ k, k < n → w.cell? ⟨S i, O i + k, none⟩ = some (.bool (hear l r i k)) := by
  obtain ⟨h1, R, h2, h3⟩ := h
  obtain ⟨b, off, e, _, hc⟩ := h2.2 hn
  have hrow : ∀ i, i < n → ∃ (s o : Nat), (R i).1 = some ⟨s, o, none⟩ ∧ ∀ k, k < n → w.cell? ⟨s, o + k, none⟩ = some (.bool (hear l r i k)) := fun i hi => by
    have := (h3 i hi).2
    rw [table_row l r hi] at this
    obtain ⟨s, o, e', _, hc'⟩ := this.2 (by simpa using hn)
    exact ⟨s, o, e', fun k hk => hc' k _ (by simp [hk])⟩
  refine ⟨b, off, fun i => if hi : i < n then (hrow i hi).choose else 0, fun i => if hi : i < n then (hrow i hi).choose_spec.choose else 0, fun i => (R i).2, e, fun i hi => ?_⟩
  simp only [dif_pos hi]
  obtain ⟨e', hc'⟩ := (hrow i hi).choose_spec.choose_spec
  refine ⟨?_, hc'⟩
  exact (hc i (.slice (R i).1 n (R i).2) (by rw [List.getElem?_map, List.getElem?_range hi]; simp only [Option.map_some, table_row l r hi, List.length_map, List.length_range])).trans (congrArg (fun x => some (Value.slice x n (R i).2)) e')

theorem okp_vp {l : List Pt} {r : Int} (h : okp l r = true) {i : Nat} (hi : i < l.length) : vp l[i] = true := by
  unfold okp at h
  rw [Bool.and_eq_true, List.all_eq_true] at h
  exact h.2 _ (List.getElem_mem hi)
theorem okp_inr {l : List Pt} {r : Int} (h : okp l r = true) : inr r = true := by
  unfold okp at h
  simp only [Bool.and_eq_true] at h
  exact h.1.2
theorem okp_len {l : List Pt} {r : Int} (h : okp l r = true) : l.length ≤ 60 := by
  rw [okp_parts] at h
  simp at h
  exact h.1
theorem hear_ne {l : List Pt} {r : Int} {i k : Nat} (hi : i < l.length) (hk : k < l.length) (h : i ≠ k) : hear l r i k = near l[i] l[k] r := by
  unfold hear
  rw [List.getD_eq_getElem?_getD, List.getD_eq_getElem?_getD, List.getElem?_eq_getElem hi, List.getElem?_eq_getElem hk]
  simp [h]

set_option maxRecDepth 100000 in
set_option maxHeartbeats 2000000 in
theorem planeSymmetry_walk (A : Option Addr) (n c : Nat) (l : List Pt) (r : Int) (w : World) (g0 : IsPlaces w A n c l) (g1 : (Lit.int .i64 r).wf = true) :
    Calls Try.prog 4 #[.slice A n c, i64 r] w fun e w' => e = .returned (.bool true) ∧ Below w.heap.size w w' := by
  have hm0 := small_of g0
  obtain ⟨hl, hR, _, _, _⟩ := g0
  clear g1
  by_cases hlen : n ≤ 100
  · cases hok : okp l r
    · go_enter Try.func4, Try.ntmps4
      go_wp2_with fail
      refine (head_val _).mono ?_
      rintro e w1 ⟨rfl, hb1⟩
      go_wp2_with fail
      refine (hears_bad A n c w.heap.size l r hok _ (hR.below hb1) hb1.size hl hm0).mono ?_
      rintro e w2 ⟨rfl, hb2⟩
      go_wp2_with fail
      go_ret
      exact ⟨rfl, below_trans' hb1 hb2⟩
    · have HK := Lib.hid hok; clear hok
      have hn60 := okp_len HK.out
      rw [hl] at hn60
      have HL := Lib.hid hl; clear hl
      go_enter Try.func4, Try.ntmps4
      go_wp2_with fail
      refine (head_val _).mono ?_
      rintro e w1 ⟨rfl, hb1⟩
      go_wp2_with fail
      refine (hears_good A n c w.heap.size l r HK.out _ (hR.below hb1) hb1.size HL.out).mono ?_
      rintro e w2 ⟨G, rfl, T, hb2⟩
      have hB2 := below_trans' hb1 hb2
      have HT := Lib.hid T; clear T hb1 hb2
      go_wp2_with fail
      refine (square_val _ n _ _ _ n rfl (fun i hi => by rw [table_row l r hi]; simp) _ HT.out hm0).mono ?_
      rintro e w' ⟨rfl, rfl⟩
      have hR2 := hR.below hB2
      have hup : ∀ a b, Below w2.heap.size w2 a → Below a.heap.size a b → Below w2.heap.size w2 b := fun a b h k => below_trans' h k
      go_wp2_with fail
      go_loopw [5, 9] (fun u i wr => ∃ m : Nat, m ≤ n ∧ u = .bool true ∧ i = .int .i64 m ∧ Below w2.heap.size w2 wr) (fun _ i _ => n - (intOf i).toNat)
      case atStart => exact ⟨0, Nat.zero_le _, rfl, rfl, Below.refl _ _⟩
      case round =>
        obtain ⟨m, hm, rfl, rfl, hb3⟩ := hrel
        by_cases hlt : m < n
        · obtain ⟨b, off, S, O, C, e, hgrid⟩ := HT.out.grid (by omega)
          simp only [Option.some.injEq, Addr.mk.injEq, and_true] at e
          obtain ⟨rfl, rfl⟩ := e
          have HG := Lib.hid hgrid; clear hgrid
          have hml : m < l.length := by have := HL.out; omega
          obtain ⟨pb, po, rfl, hpb, hc1⟩ := rd_el (dec := decP) (fun _ => rfl) hR2 HL.out hml
          obtain ⟨⟨xi, yi⟩, hli⟩ : ∃ p, l[m] = p := ⟨_, rfl⟩
          rw [hli] at hc1
          have f0 : ∀ s : WOf (Below w2.heap.size w2), s.w.cell? ⟨pb, po + m * 2, none⟩ = some (i64 xi) := fun s => cell_up (hc1 0 _ rfl) s.ok
          have f1 : ∀ s : WOf (Below w2.heap.size w2), s.w.cell? ⟨pb, po + m * 2 + 1, none⟩ = some (i64 yi) := fun s => cell_up (hc1 1 _ rfl) s.ok
          have f2 : ∀ s : WOf (Below w2.heap.size w2), s.w.cell? ⟨G, m, none⟩ = some (.slice (some ⟨S m, O m, none⟩) n (C m)) := fun s => cell_up (by have := (HG.out m hlt).1; rwa [Nat.zero_add] at this) s.ok
          have f3 : ∀ s : WOf (Below w2.heap.size w2), s.w.cell? ⟨S m, O m + m, none⟩ = some (.bool false) := fun s => cell_up (by have := (HG.out m hlt).2 m hlt; rwa [hear_self] at this) s.ok
          have HV := Lib.hid (near_self (r := r) (okp_vp HK.out hml) (okp_inr HK.out))
          rw [hli] at HV
          have NV := Lib.hid (fun W => near_val xi yi xi yi r true HV.out W)
          have HLI := Lib.hid hli; clear hli hc1 HV
          go_wp2_with fail
          refine wp_region_ext (Below w2.heap.size w2) hb3 hup (by kernel_rfl) (by kernel_rfl) (fun hne => ?_)
          try simp only [List.append_eq, List.cons_append, List.nil_append]
          repeat (go_big_quiet_step ((first | with_reducible exact calls_ext hup (NV.out _))))
          refine wpQuiet_nil ?_
          clear hne
          intro _ hx'
          obtain ⟨⟨wx, hx⟩, hx''⟩ := hx'
          subst hx''
          clear f3 NV
          go_wp2_with fail
          go_loopw [5, 10] (fun u i wr => ∃ k : Nat, k ≤ n ∧ u = .bool true ∧ i = .int .i64 k ∧ Below w2.heap.size w2 wr) (fun _ i _ => n - (intOf i).toNat)
          case atStart => exact ⟨0, Nat.zero_le _, rfl, rfl, hx⟩
          case round =>
            clear hx
            obtain ⟨k, hk, rfl, rfl, hb4⟩ := hrel
            by_cases hk1 : k < n
            · have hkl : k < l.length := by have := HL.out; omega
              obtain ⟨pb', po', e', _, hc2⟩ := rd_el (dec := decP) (fun _ => rfl) hR2 HL.out hkl
              simp only [Option.some.injEq, Addr.mk.injEq, and_true] at e'
              obtain ⟨rfl, rfl⟩ := e'
              obtain ⟨⟨xk, yk⟩, hlk⟩ : ∃ p, l[k] = p := ⟨_, rfl⟩
              rw [hlk] at hc2
              obtain ⟨v, hv⟩ : ∃ v, near (xi, yi) (xk, yk) r = v := ⟨_, rfl⟩
              have hv' := (near_symm _ _ _).trans hv
              have N1 := Lib.hid (fun W => near_val xi yi xk yk r v hv W)
              have N2 := Lib.hid (fun W => near_val xk yk xi yi r v hv' W)
              have g0 : ∀ s : WOf (Below w2.heap.size w2), s.w.cell? ⟨pb, po + k * 2, none⟩ = some (i64 xk) := fun s => cell_up (hc2 0 _ rfl) s.ok
              have g1 : ∀ s : WOf (Below w2.heap.size w2), s.w.cell? ⟨pb, po + k * 2 + 1, none⟩ = some (i64 yk) := fun s => cell_up (hc2 1 _ rfl) s.ok
              have g2 : ∀ s : WOf (Below w2.heap.size w2), s.w.cell? ⟨G, k, none⟩ = some (.slice (some ⟨S k, O k, none⟩) n (C k)) := fun s => cell_up (by have := (HG.out k hk1).1; rwa [Nat.zero_add] at this) s.ok
              by_cases hmk : m = k
              · subst hmk
                have g3 : ∀ s : WOf (Below w2.heap.size w2), s.w.cell? ⟨S m, O m + m, none⟩ = some (.bool false) := fun s => cell_up (by have := (HG.out m hlt).2 m hlt; rwa [hear_self] at this) s.ok
                obtain ⟨rfl, rfl⟩ : xi = xk ∧ yi = yk := by
                  have := HLI.out.symm.trans hlk
                  simpa using this
                clear hv hv' hc2 hlk f0 f1 f2 hk
                go_wp2_with fail
                refine wp_region_ext (Below w2.heap.size w2) hb4 hup (by kernel_rfl) (by kernel_rfl) (fun hne => ?_)
                try simp only [List.append_eq, List.cons_append, List.nil_append]
                repeat (go_big_quiet_step ((first | with_reducible exact calls_ext hup (N1.out _))))
                refine wpQuiet_nil ?_
                clear hne
                intro _ hx'
                obtain ⟨⟨wx, hx⟩, hx''⟩ := hx'
                subst hx''
                go_wp2_with fail
                go_roundw
                case rel => exact ⟨m + 1, by omega, rfl, by go_num, hx⟩
                case measure => simp [intOf]; omega
              · have hh : hear l r m k = v := by rw [hear_ne hml hkl hmk, HLI.out, hlk, hv]
                have g3 : ∀ s : WOf (Below w2.heap.size w2), s.w.cell? ⟨S m, O m + k, none⟩ = some (.bool v) := fun s => cell_up (by have := (HG.out m hlt).2 k hk1; rwa [hh] at this) s.ok
                have g4 : ∀ s : WOf (Below w2.heap.size w2), s.w.cell? ⟨S k, O k + m, none⟩ = some (.bool v) := fun s => cell_up (by have := (HG.out k hk1).2 m hlt; rwa [hear_symm, hh] at this) s.ok
                have hne : ((m : Int) == (k : Int)) = false := by rw [beq_eq_false_iff_ne]; omega
                have hne2 : ¬ ((m : Int) = (k : Int)) := by omega
                clear hh hv hv' hc2 hlk
                go_wp2_with fail
                refine wp_region_ext (Below w2.heap.size w2) hb4 hup (by kernel_rfl) (by kernel_rfl) (fun hne => ?_)
                try simp only [List.append_eq, List.cons_append, List.nil_append]
                repeat (go_big_quiet_step ((first | with_reducible exact calls_ext hup (N1.out _) | with_reducible exact calls_ext hup (N2.out _))))
                refine wpQuiet_nil ?_
                clear hne
                intro _ hx'
                obtain ⟨⟨wx, hx⟩, hx''⟩ := hx'
                subst hx''
                go_wp2_with fail
                go_roundw
                case rel => exact ⟨k + 1, by omega, rfl, by go_num, hx⟩
                case measure => simp [intOf]; omega
            · go_wp2_with fail
              go_roundw
              case rel => exact ⟨m + 1, by omega, rfl, by go_num, hb4⟩
              case measure => simp [intOf]; omega
        · go_wp2_with fail
          go_ret
          exact ⟨rfl, below_trans' hB2 hb3⟩
  · go_enter Try.func4, Try.ntmps4
    go_wp2_with fail
    refine (head_val _).mono ?_
    rintro e w1 ⟨rfl, hb1⟩
    go_wp2_with fail
    go_ret
    exact ⟨rfl, hb1⟩
end Go.Proofs.Yteeloebhjmmpdaa.Pl
