/- The walk of the law of chapter 16 on jammers, one by one. -/
import Derived.Test.YteeloebhjmmpdaaPlLaws4
namespace Go.Proofs.Yteeloebhjmmpdaa.Pl
open Go.RowKit
set_option linter.unusedVariables false

theorem jams_iff {j : Jm} {p : Pt} {ch asn : Int} : jams j p ch asn = true ↔ j.ch = ch ∧ asn < j.til ∧ near j.p p j.r = true := by unfold jams; simp
theorem small_of5 {w : World} {A : Option Addr} {n c : Nat} {l : List Jm} (g : IsJams w A n c l) : n ≤ maxLen := Nat.le_trans g.2.2.1 g.2.2.2.1
/-- One element of a slice, as a slice. -/
theorem rd_one {α : Type} {dec : α → List Value} {s : Nat} (hd : ∀ a, (dec a).length = s) {w : World} {B : Nat} {b off n : Nat} {l : List α} (h : Rd w B s (some ⟨b, off, none⟩) n (l.flatMap dec)) (hl : l.length = n) {i : Nat} (hi : i < l.length) :
    Rd w B s (some ⟨b, off + i * s, none⟩) 1 ([l[i]].flatMap dec) := by
  obtain ⟨b', off', e, hb, hc⟩ := rd_el hd h hl hi
  simp only [Option.some.injEq, Addr.mk.injEq, and_true] at e
  obtain ⟨rfl, rfl⟩ := e
  exact ⟨by simp [hd], fun _ => ⟨b, off + i * s, rfl, hb, fun j u hu => hc j u (by simpa using hu)⟩⟩

set_option maxRecDepth 100000 in
set_option maxHeartbeats 2000000 in
theorem planeJammers_walk (A : Option Addr) (n c : Nat) (l : List Jm) (p : Pt) (ch asn : Int) (w : World) (g0 : IsJams w A n c l) (g1 : wfP p) (g2 : (Lit.int .i64 ch).wf = true) (g3 : (Lit.int .i64 asn).wf = true) :
    Calls Try.prog 9 #[.slice A n c, .agg #[i64 p.1, i64 p.2], i64 ch, i64 asn] w fun e w' => e = .returned (.bool true) ∧ Below w.heap.size w w' := by
  have hm0 := small_of5 g0
  obtain ⟨hl, hR, hnc, _, _⟩ := g0
  clear g1 g2 g3
  have hB0 := (Below.refl w.heap.size w).alloc (Nat.le_refl _) (.cells #[i64 p.1, i64 p.2] 25)
  have bP := Blk.new w 25 #[i64 p.1, i64 p.2]
  by_cases hlen : n ≤ 30
  · have HL := Lib.hid hl; clear hl
    go_enter Try.func9, Try.ntmps9
    go_wp2_with fail
    refine (head_val _).mono ?_
    rintro e w1 ⟨rfl, hb1⟩
    go_wp2_with fail
    have hR1 := hR.below (hB0.trans (hb1.mono (by simp)))
    have hB1 := hB0.trans (hb1.mono (by simp))
    have P1 := Lib.hid (bP.up' hb1)
    have hup : ∀ a b, Below w1.heap.size w1 a → Below a.heap.size a b → Below w1.heap.size w1 b := fun a b h k => below_trans' h k
    go_loopw [9, 10, 11] (fun u so i wr => ∃ k : Nat, k ≤ n ∧ u = .bool true ∧ so = .bool (jammed (l.take k) p ch asn) ∧ i = .int .i64 k ∧ Below w1.heap.size w1 wr) (fun _ _ i _ => n - (intOf i).toNat)
    case atStart => exact ⟨0, Nat.zero_le _, rfl, rfl, rfl, Below.refl _ _⟩
    case round =>
      obtain ⟨k, hk, rfl, rfl, rfl, hb2⟩ := hrel
      by_cases hlt : k < n
      · have hkl : k < l.length := by have := HL.out; omega
        obtain ⟨jb, jo, rfl, hjb, hc1⟩ := rd_el (dec := decJ) (fun _ => rfl) hR1 HL.out hkl
        have hR2 := Lib.hid (rd_one (dec := decJ) (fun _ => rfl) hR1 HL.out hkl)
        obtain ⟨⟨⟨jx, jy⟩, jr, jch, jtil⟩, hlj⟩ : ∃ j, l[k] = j := ⟨_, rfl⟩
        rw [hlj] at hc1 hR2
        obtain ⟨v, hv⟩ : ∃ v, jams ⟨(jx, jy), jr, jch, jtil⟩ p ch asn = v := ⟨_, rfl⟩
        have hjv : jammed [⟨(jx, jy), jr, jch, jtil⟩] (p.1, p.2) ch asn = v := by rw [← hv]; simp [jammed]
        have hnx : Hid (jammed (l.take (k + 1)) p ch asn = (jammed (l.take k) p ch asn || v)) := by show _ = _; rw [jammed_take hkl, hlj, hv]
        have NJ := Lib.hid (fun (s : WOf (Below w1.heap.size w1)) c' => jammed_val (some ⟨jb, jo + k * 5, none⟩) 1 c' w.heap.size [⟨(jx, jy), jr, jch, jtil⟩] p.1 p.2 ch asn v hjv s.w (hR2.out.below' s.ok hB1.size) (Nat.le_trans hB1.size s.ok.size) rfl (by decide))
        have f0 : ∀ s : WOf (Below w1.heap.size w1), s.w.cell? ⟨w.heap.size, 0, none⟩ = some (i64 p.1) := fun s => ((P1.out.up' s.ok).cell 0)
        have f1 : ∀ s : WOf (Below w1.heap.size w1), s.w.cell? ⟨w.heap.size, 1, none⟩ = some (i64 p.2) := fun s => ((P1.out.up' s.ok).cell 1)
        have hck : ¬ c = k := by omega
        clear hjv
        go_wp2_with fail
        have e1 : IntKind.i64.wrap ((k : Int) + 1) = (k : Int) + 1 := by rw [IntKind.wrap_i64]; omega
        have e2 : ((k : Int) + 1).toNat = k + 1 := by omega
        have e3 : (0 : Int) ≤ (k : Int) + 1 := by omega
        have e4 : (k : Int) + 1 ≤ (c : Int) := by omega
        refine wp_region_ext (Below w1.heap.size w1) hb2 hup (by kernel_rfl) (by kernel_rfl) (fun hne => ?_)
        try simp only [List.append_eq, List.cons_append, List.nil_append]
        repeat (go_big_quiet_step (with_reducible exact calls_ext hup (NJ.out _ _)))
        refine wpQuiet_nil ?_
        clear hne
        intro _ hx'
        obtain ⟨⟨wx, hx⟩, hx''⟩ := hx'
        subst hx''
        clear e1 e2 e3 e4 NJ
        have g0 : ∀ s : WOf (Below w1.heap.size w1), s.w.cell? ⟨jb, jo + k * 5, none⟩ = some (i64 jx) := fun s => cell_up (hc1 0 _ rfl) s.ok
        have g1 : ∀ s : WOf (Below w1.heap.size w1), s.w.cell? ⟨jb, jo + k * 5 + 1, none⟩ = some (i64 jy) := fun s => cell_up (hc1 1 _ rfl) s.ok
        have g2 : ∀ s : WOf (Below w1.heap.size w1), s.w.cell? ⟨jb, jo + k * 5 + 2, none⟩ = some (i64 jr) := fun s => cell_up (hc1 2 _ rfl) s.ok
        have g3 : ∀ s : WOf (Below w1.heap.size w1), s.w.cell? ⟨jb, jo + k * 5 + 3, none⟩ = some (i64 jch) := fun s => cell_up (hc1 3 _ rfl) s.ok
        have g4 : ∀ s : WOf (Below w1.heap.size w1), s.w.cell? ⟨jb, jo + k * 5 + 4, none⟩ = some (i64 jtil) := fun s => cell_up (hc1 4 _ rfl) s.ok
        have HC1 := Lib.hid hc1; clear hc1
        have HV := Lib.hid hv; clear hv
        obtain ⟨so, hso⟩ : ∃ so, jammed (l.take k) p ch asn = so := ⟨_, rfl⟩
        rw [hso] at hnx ⊢
        clear hso
        cases so
        all_goals
          cases v
          · go_wp2_with fail
            refine wp_region_ext (Below w1.heap.size w1) hx hup (by kernel_rfl) (by kernel_rfl) (fun hne => ?_)
            try simp only [List.append_eq, List.cons_append, List.nil_append]
            repeat (go_big_quiet_step (fail))
            refine wpQuiet_nil ?_
            clear hne hx
            intro _ hx'
            obtain ⟨⟨wx, hx⟩, hx''⟩ := hx'
            subst hx''
            go_wp2_with fail
            go_roundw
            case rel => exact ⟨k + 1, by omega, rfl, by rw [hnx.out]; rfl, by go_num, hx⟩
            case measure => simp [intOf]; omega
          · obtain ⟨hch, htil, hnr⟩ := jams_iff.1 HV.out
            dsimp only at hch htil hnr
            subst hch
            have NV := Lib.hid (fun W => near_val jx jy p.1 p.2 jr true hnr W)
            have ht : decide (asn < jtil) = true := by simpa using htil
            clear hnr
            go_wp2_with fail
            refine wp_region_ext (Below w1.heap.size w1) hx hup (by kernel_rfl) (by kernel_rfl) (fun hne => ?_)
            try simp only [List.append_eq, List.cons_append, List.nil_append]
            repeat (go_big_quiet_step (with_reducible exact calls_ext hup (NV.out _)))
            refine wpQuiet_nil ?_
            clear hne hx
            intro _ hx'
            obtain ⟨⟨wx, hx⟩, hx''⟩ := hx'
            subst hx''
            go_wp2_with fail
            go_roundw
            case rel => exact ⟨k + 1, by omega, rfl, by rw [hnx.out]; rfl, by go_num, hx⟩
            case measure => simp [intOf]; omega
      · obtain rfl : k = n := by omega
        have hln : l.take k = l := by rw [← HL.out, List.take_length]
        have NJ := Lib.hid (fun W h1 h2 => jammed_val A k c w.heap.size l p.1 p.2 ch asn _ rfl W h1 h2 HL.out hm0)
        have c0 : wr.cell? ⟨w.heap.size, 0, none⟩ = some (i64 p.1) := (P1.out.up' hb2).cell 0
        have c1 : wr.cell? ⟨w.heap.size, 1, none⟩ = some (i64 p.2) := (P1.out.up' hb2).cell 1
        have hB2 := below_trans' hB1 hb2
        have HR3 := Lib.hid (hR.below hB2)
        rw [hln]
        clear hln hR hR1
        generalize jammed l p ch asn = v at NJ ⊢
        go_wp2_with fail
        refine (NJ.out _ HR3.out hB2.size).mono ?_
        rintro e w3 ⟨rfl, hb3⟩
        go_wp2_with fail
        go_ret
        exact ⟨by simp, below_trans' hB2 hb3⟩
  · go_enter Try.func9, Try.ntmps9
    go_wp2_with fail
    refine (head_val _).mono ?_
    rintro e w1 ⟨rfl, hb1⟩
    go_wp2_with fail
    go_ret
    exact ⟨rfl, hB0.trans (hb1.mono (by simp))⟩
end Go.Proofs.Yteeloebhjmmpdaa.Pl
