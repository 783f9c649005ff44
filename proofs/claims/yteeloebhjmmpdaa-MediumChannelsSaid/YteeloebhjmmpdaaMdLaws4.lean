/- The walk of the law of chapter 17 on channels. -/
import Derived.Test.YteeloebhjmmpdaaMdLaws3
namespace Go.Proofs.Yteeloebhjmmpdaa.Md
open Go.RowKit Go.Proofs.Yteeloebhjmmpdaa.Pl
set_option linter.unusedVariables false

theorem fwm_el (ra : List Ac) (k m i : Nat) (h : i < (fwm ra k m).length) (h1 : i < ra.length) : (fwm ra k m)[i] = if i < m then fw1 (ra.getD k z0) k i ra[i] else ra[i] := by simp [fwm]
theorem fwm_succ (ra : List Ac) (k m : Nat) (hm : m < ra.length) : fwm ra k (m + 1) = (fwm ra k m).set m (fw1 (ra.getD k z0) k m ra[m]) := by
  apply List.ext_getElem
  · simp [fwm_len]
  · intro i h1 h2
    have h3 : i < ra.length := by rwa [fwm_len] at h1
    rw [List.getElem_set, fwm_el _ _ _ _ _ h3, fwm_el _ _ _ _ _ h3]
    by_cases e : m = i
    · subst e; rw [if_pos rfl, if_pos (by omega)]
    · rw [if_neg e]
      by_cases h : i < m
      · rw [if_pos h, if_pos (by omega)]
      · rw [if_neg h, if_neg (by omega)]
theorem fwm_at (ra : List Ac) (k m : Nat) (hm : m < ra.length) : (fwm ra k m)[m]'(by rw [fwm_len]; exact hm) = ra[m] := by
  rw [fwm_el _ _ _ _ _ hm, if_neg (by omega)]
theorem fwm_keep (ra : List Ac) (k m : Nat) (hm : m < ra.length) (h : ¬ (m ≠ k ∧ (ra[m].act = 1 ∨ ra[m].ch ≠ (ra.getD k z0).ch))) : fwm ra k (m + 1) = fwm ra k m := by
  rw [fwm_succ _ _ _ hm]
  unfold fw1
  rw [if_neg h]
  have := fwm_at ra k m hm
  conv => lhs; rw [← this]
  rw [List.set_getElem_self]
/-- Five cells that are cleared. -/
theorem flat_clear (l : List Ac) (i : Nat) (hi : i < l.length) :
    (((((l.flatMap decA).set (i * 5) (i64 0)).set (i * 5 + 1) (i64 0)).set (i * 5 + 2) (i64 0)).set (i * 5 + 3) (i64 0)).set (i * 5 + 4) (i64 0) = (l.set i z0).flatMap decA := by
  have h0 := flat_set (dec := decA) (s := 5) (fun _ => rfl) l i 0 (i64 0) { l[i] with act := 0 } hi (by decide) rfl
  rw [Nat.add_zero] at h0
  rw [h0]
  have h1 := flat_set (dec := decA) (s := 5) (fun _ => rfl) (l.set i { l[i] with act := 0 }) i 1 (i64 0) { l[i] with act := 0, ch := 0 } (by simpa using hi) (by decide) (by simp; rfl)
  rw [h1, List.set_set]
  have h2 := flat_set (dec := decA) (s := 5) (fun _ => rfl) (l.set i { l[i] with act := 0, ch := 0 }) i 2 (i64 0) { l[i] with act := 0, ch := 0, st := 0 } (by simpa using hi) (by decide) (by simp; rfl)
  rw [h2, List.set_set]
  have h3 := flat_set (dec := decA) (s := 5) (fun _ => rfl) (l.set i { l[i] with act := 0, ch := 0, st := 0 }) i 3 (i64 0) { l[i] with act := 0, ch := 0, st := 0, lo := 0 } (by simpa using hi) (by decide) (by simp; rfl)
  rw [h3, List.set_set]
  have h4 := flat_set (dec := decA) (s := 5) (fun _ => rfl) (l.set i { l[i] with act := 0, ch := 0, st := 0, lo := 0 }) i 4 (i64 0) z0 (by simpa using hi) (by decide) (by simp; rfl)
  rw [h4, List.set_set]

set_option maxRecDepth 100000 in
set_option maxHeartbeats 4000000 in
theorem mediumChannels_walk (A : Option Addr) (n c : Nat) (ra : List Ac) (P : Option Addr) (m d : Nat) (ps : List Pt) (r : Int) (J : Option Addr) (k e : Nat) (js : List Jm) (asn : Int) (pk : UInt8) (w : World)
    (g0 : IsActs w A n c ra) (g1 : IsPlaces w P m d ps) (g2 : (Lit.int .i64 r).wf = true) (g3 : IsJams w J k e js) (g4 : (Lit.int .i64 asn).wf = true) :
    Calls Try.prog 14 #[.slice A n c, .slice P m d, i64 r, .slice J k e, i64 asn, ub pk] w fun e w' => e = .returned (.bool true) ∧ Below w.heap.size w w' := by
  have hn := small_of g0
  have hm := small_of g1
  have hk := small_of g3
  obtain ⟨hl, hR, _, _, _⟩ := g0
  obtain ⟨hl1, hP, _, _, _⟩ := g1
  obtain ⟨hl3, hJ, _, _, _⟩ := g3
  have HJ := Lib.hid hl3; clear hl3
  clear g2 g4
  have HL := Lib.hid hl; clear hl
  have HM := Lib.hid hl1; clear hl1
  cases hf : (fewB n m k && okm ra ps r asn)
  · have HF := Lib.hid hf; clear hf
    go_enter Try.func14, Try.ntmps14
    go_wp2_with fail
    refine (head_val _).mono ?_
    rintro e w1 ⟨rfl, hb1⟩
    go_wp2_with fail
    refine (valid_val A n c P m d w.heap.size J k _ ra ps r asn false HF.out _ (hR.below hb1) (hP.below hb1) hb1.size HL.out HM.out hn hm hk).mono ?_
    rintro e w2 ⟨rfl, hb2⟩
    go_wp2_with fail
    go_ret
    exact ⟨rfl, below_trans' hb1 hb2⟩
  · have hf2 := hf
    rw [Bool.and_eq_true] at hf2
    obtain ⟨hfew, hok⟩ := hf2
    obtain ⟨rfl, hn2⟩ : n = m ∧ n ≤ 200 := by
      have := hok
      rw [okm_frame, HL.out, HM.out] at this
      simp only [Bool.and_eq_true] at this
      exact ⟨(frame_true this.1).1, (frame_true this.1).2.1⟩
    have HF := Lib.hid hf; clear hf hfew
    by_cases h0 : n = 0
    · subst h0
      go_enter Try.func14, Try.ntmps14
      go_wp2_with fail
      refine (head_val _).mono ?_
      rintro e w1 ⟨rfl, hb1⟩
      go_wp2_with fail
      refine (valid_val A 0 c P 0 d w.heap.size J k _ ra ps r asn true HF.out _ (hR.below hb1) (hP.below hb1) hb1.size HL.out HM.out hn hm hk).mono ?_
      rintro e w2 ⟨rfl, hb2⟩
      go_wp2_with fail
      go_ret
      exact ⟨rfl, below_trans' hb1 hb2⟩
    · have hn0 : ((n : Int) == 0) = false := by rw [beq_eq_false_iff_ne]; omega
      obtain ⟨kk, hkk⟩ : ∃ kk : Nat, (pk.toNat : Int) % (n : Int) = kk := ⟨((pk.toNat : Int) % (n : Int)).toNat, by have := Int.emod_nonneg (pk.toNat : Int) (b := (n : Int)) (by omega); omega⟩
      have hkn : kk < n := by have := Int.emod_lt_of_pos (pk.toNat : Int) (b := (n : Int)) (by omega); omega
      have hp : 0 < n := by omega
      have hn1 : (0 : Int) < (n : Int) := by omega
      have hpk : (pk.toNat : Int) < 256 := by have := UInt8.toNat_lt pk; omega
      have HO := Lib.hid hok; clear hok
      clear h0
      obtain ⟨ia, hia, hz0, hz1, hz2⟩ := info_parts info_action
      go_enter Try.func14, Try.ntmps14
      go_wp2_with fail
      refine (head_val _).mono ?_
      rintro e w1 ⟨rfl, hb1⟩
      go_wp2_with fail
      refine (valid_val A n c P n d w.heap.size J k _ ra ps r asn true HF.out _ (hR.below hb1) (hP.below hb1) hb1.size HL.out HM.out hn hm hk).mono ?_
      rintro e w2 ⟨rfl, hb2⟩
      have hB2 := below_trans' hb1 hb2
      clear hb1 hb2
      have hown0 := World.ownsRow_lit (base := w.heap.size) (e := 55) (size := 5) w2 #[] 0 hB2.size (by decide) rfl
      have hB3 : Below w.heap.size w (w2.alloc (.cells #[] 55)) := hB2.alloc hB2.size _
      have hR3 := hR.below hB3
      go_wp2_with (at_builtin; refine wpList_append_rd _ rfl (.tmp 40) (.tmp 41) _ rfl w.heap.size 55 ia _ 5 40 Try.underlying44 hia hz0 hz1 hz2 rfl (by omega) _ 0 [] rfl hown0 _ A n c _ rfl hR3 (one_flat one_decA ra) (by simp only [maxLen]; omega) (by omega) hB3.size ?_; intro Aa ca w4 hown1 hfm hg1; simp only [Nat.zero_add, List.nil_append] at hown1 hfm; have hB4 := own_below hown0 hg1 hB3 (Nat.le_refl _) hB3.size; clear hg1; obtain ⟨g, rfl⟩ := hfm hp; clear hfm; have HO1 := Lib.hid hown1; clear hown1)
      clear hR3 hown0 hB3
      go_loopw [16, 45] (fun ii i wr => ∃ j : Nat, j ≤ n ∧ i = .int .i64 j ∧ Hid (wr.ownsRow w.heap.size 55 5 (.slice (some ⟨g, 0, none⟩) n ca) n ((fwm ra kk j).flatMap decA)) ∧ Below w.heap.size w wr) (fun _ i _ => n - (intOf i).toNat)
      case atStart => exact ⟨0, Nat.zero_le _, rfl, by rw [fwm_zero]; exact HO1, hB4⟩
      case round =>
        clear HO1 hB4
        obtain ⟨j, hj, rfl, HO1, hB5⟩ := hrel
        by_cases hlt : j < n
        · have hjl : j < ra.length := by have := HL.out; omega
          have hkl : kk < ra.length := by have := HL.out; omega
          have hjm : j < (fwm ra kk j).length := by rw [fwm_len]; exact hjl
          have hcl : ∀ t u i, i < ra.length → t < 5 → (decA ((fwm ra kk j).getD i z0))[t]? = some u → wr.cell? ⟨g, i * 5 + t, none⟩ = some u := fun t u i hi ht hu => by
            rw [HO1.out.cellAt (i * 5 + t) (by have := HL.out; omega)]
            have him : i < (fwm ra kk j).length := by rw [fwm_len]; exact hi
            rw [flat_get (dec := decA) (k := 5) (fun _ => rfl) (fwm ra kk j) i t _ (List.getElem?_eq_getElem him) ht, ← hu, getD_of him]
          have hself := fwm_self ra kk j hkl
          have hat : (fwm ra kk j).getD j z0 = ra[j] := by rw [getD_of hjm, fwm_at _ _ _ hjl]
          have hkeep := fwm_keep ra kk j hjl
          have hclear := flat_clear (fwm ra kk j) j hjm
          have hsucc := fwm_succ ra kk j hjl
          unfold fw1 at hsucc
          have e0 := hcl 0 _ j hjl (by decide) rfl
          have e1 := hcl 1 _ j hjl (by decide) rfl
          have e2 := hcl 2 _ j hjl (by decide) rfl
          have e3 := hcl 3 _ j hjl (by decide) rfl
          have e4 := hcl 4 _ j hjl (by decide) rfl
          have e5 := hcl 1 _ kk hkl (by decide) rfl
          rw [hself] at e5
          rw [hat] at e0 e1 e2 e3 e4
          obtain ⟨⟨sa, sc, ss, sl, sh⟩, es⟩ : ∃ a, ra[j] = a := ⟨_, rfl⟩
          obtain ⟨⟨la, lc, ls, ll, lh⟩, el⟩ : ∃ a, ra.getD kk z0 = a := ⟨_, rfl⟩
          rw [es] at e0 e1 e2 e3 e4 hkeep hsucc
          rw [el] at e5 hkeep hsucc
          dsimp only at e0 e1 e2 e3 e4 e5 hkeep hsucc
          rw [Nat.add_zero] at e0
          have q0 := HO1.out.frozenAt (j * 5)
          have q1 := HO1.out.frozenAt (j * 5 + 1)
          have q2 := HO1.out.frozenAt (j * 5 + 2)
          have q3 := HO1.out.frozenAt (j * 5 + 3)
          have q4 := HO1.out.frozenAt (j * 5 + 4)
          have hgb := (own_block HO1.out g rfl).1
          clear hcl hself hat es el
          have hcase : (j = kk ∧ ¬ (j ≠ kk ∧ (sa = 1 ∨ sc ≠ lc))) ∨ (((j : Int) != (kk : Int)) = true ∧ sa = 1 ∧ (j ≠ kk ∧ (sa = 1 ∨ sc ≠ lc))) ∨ (((j : Int) != (kk : Int)) = true ∧ (sa == 1) = false ∧ (sc != lc) = true ∧ (j ≠ kk ∧ (sa = 1 ∨ sc ≠ lc))) ∨ (((j : Int) != (kk : Int)) = true ∧ (sa == 1) = false ∧ sc = lc ∧ ¬ (j ≠ kk ∧ (sa = 1 ∨ sc ≠ lc))) := by
            by_cases t1 : j = kk
            · exact .inl ⟨t1, fun h => h.1 t1⟩
            · have t2 : ((j : Int) != (kk : Int)) = true := by rw [bne_iff_ne]; omega
              by_cases t3 : sa = 1
              · exact .inr (.inl ⟨t2, t3, t1, .inl t3⟩)
              · have t4 : (sa == 1) = false := by rw [beq_eq_false_iff_ne]; exact t3
                by_cases t5 : sc = lc
                · exact .inr (.inr (.inr ⟨t2, t4, t5, fun h => by rcases h.2 with h | h; exact t3 h; exact h t5⟩))
                · exact .inr (.inr (.inl ⟨t2, t4, by rw [bne_iff_ne]; exact t5, t1, .inr t5⟩))
          rcases hcase with ⟨rfl, hc⟩ | ⟨t2, rfl, hc⟩ | ⟨t2, t3, t4, hc⟩ | ⟨t2, t3, rfl, hc⟩
          · have HO2 : Hid (wr.ownsRow w.heap.size 55 5 (.slice (some ⟨g, 0, none⟩) n ca) n ((fwm ra j (j + 1)).flatMap decA)) := by rw [hkeep hc]; exact HO1
            clear hkeep hclear hsucc hc
            go_wp2_with fail
            go_quiet (fail)
            go_wp2_with fail
            go_roundw
            case rel => exact ⟨j + 1, by omega, by go_num, HO2, below_drewN' hB5 _⟩
            case measure => simp [intOf]; omega
          · rw [if_pos hc] at hsucc
            have s0 := (HO1.out.stored (j * 5) (i64 0)).1
            have s1 := (s0.stored (j * 5 + 1) (i64 0)).1
            have s2 := (s1.stored (j * 5 + 2) (i64 0)).1
            have s3 := (s2.stored (j * 5 + 3) (i64 0)).1
            have s4 := (s3.stored (j * 5 + 4) (i64 0)).1
            rw [hclear, ← hsucc] at s4
            have HO2 := Lib.hid s4
            have hB6 := ((((hB5.setCell (p := ⟨g, j * 5, none⟩) hgb (i64 0)).setCell (p := ⟨g, j * 5 + 1, none⟩) hgb (i64 0)).setCell (p := ⟨g, j * 5 + 2, none⟩) hgb (i64 0)).setCell (p := ⟨g, j * 5 + 3, none⟩) hgb (i64 0)).setCell (p := ⟨g, j * 5 + 4, none⟩) hgb (i64 0)
            clear hkeep hclear hsucc hc s0 s1 s2 s3 s4
            go_wp2_with fail
            go_quiet (fail)
            go_wp2_with fail
            go_roundw
            case rel => exact ⟨j + 1, by omega, by go_num, HO2, below_drewN' hB6 _⟩
            case measure => simp [intOf]; omega
          · rw [if_pos hc] at hsucc
            have s0 := (HO1.out.stored (j * 5) (i64 0)).1
            have s1 := (s0.stored (j * 5 + 1) (i64 0)).1
            have s2 := (s1.stored (j * 5 + 2) (i64 0)).1
            have s3 := (s2.stored (j * 5 + 3) (i64 0)).1
            have s4 := (s3.stored (j * 5 + 4) (i64 0)).1
            rw [hclear, ← hsucc] at s4
            have HO2 := Lib.hid s4
            have hB6 := ((((hB5.setCell (p := ⟨g, j * 5, none⟩) hgb (i64 0)).setCell (p := ⟨g, j * 5 + 1, none⟩) hgb (i64 0)).setCell (p := ⟨g, j * 5 + 2, none⟩) hgb (i64 0)).setCell (p := ⟨g, j * 5 + 3, none⟩) hgb (i64 0)).setCell (p := ⟨g, j * 5 + 4, none⟩) hgb (i64 0)
            clear hkeep hclear hsucc hc s0 s1 s2 s3 s4
            go_wp2_with fail
            go_quiet (fail)
            go_wp2_with fail
            go_roundw
            case rel => exact ⟨j + 1, by omega, by go_num, HO2, below_drewN' hB6 _⟩
            case measure => simp [intOf]; omega
          · have HO2 : Hid (wr.ownsRow w.heap.size 55 5 (.slice (some ⟨g, 0, none⟩) n ca) n ((fwm ra kk (j + 1)).flatMap decA)) := by rw [hkeep hc]; exact HO1
            clear hkeep hclear hsucc hc
            go_wp2_with fail
            go_quiet (fail)
            go_wp2_with fail
            go_roundw
            case rel => exact ⟨j + 1, by omega, by go_num, HO2, below_drewN' hB5 _⟩
            case measure => simp [intOf]; omega
        · obtain rfl : j = n := by omega
          have hl4 : (fwm ra kk j).length = j := by rw [fwm_len, HL.out]
          have hok4 : okm (fwm ra kk j) ps r asn = true := by have := fwm_ok kk HO.out; rwa [HL.out] at this
          have hcat : cat (fwm ra kk j) ps r js asn kk = cat ra ps r js asn kk := by
            have := fwm_cat (ra := ra) (ps := ps) (r := r) (asn := asn) (js := js) (k := kk) (by rw [HL.out]; exact hkn)
            rwa [HL.out] at this
          have hR4 := Rd.of_own HO1.out
          clear HO1
          generalize fwm ra kk j = rb at *
          have HL4 := Lib.hid hl4; clear hl4
          have HO4 := Lib.hid hok4; clear hok4
          have HR4 := Lib.hid hR4; clear hR4
          obtain ⟨z, hz⟩ : ∃ z, cat ra ps r js asn kk = z := ⟨_, rfl⟩
          rw [hz] at hcat
          have HC := Lib.hid hcat; clear hcat
          have HZ := Lib.hid hz; clear hz
          have hkl : kk < ra.length := by have := HL.out; omega
          have hkl4 : kk < rb.length := by have := HL4.out; omega
          go_wp2_with fail
          refine (mdCatch_good A j c P d w.heap.size J k _ ra ps r js asn HO.out _ (hR.below hB5) (hP.below hB5) (hJ.below hB5) hB5.size HL.out HM.out HJ.out hk).mono ?_
          rintro e w5 ⟨G, rfl, hG, hb6⟩
          have hB6 := below_trans' hB5 hb6
          have HG := Lib.hid hG; clear hG
          have HR5 := Lib.hid (HR4.out.up hb6)
          go_wp2_with fail
          refine (mdCatch_good _ j ca P d w5.heap.size J k _ rb ps r js asn HO4.out _ HR5.out ((hP.below hB6).more hB6.size) ((hJ.below hB6).more hB6.size) (Nat.le_refl _) HL4.out HM.out HJ.out hk).mono ?_
          rintro e w6 ⟨G', rfl, hG', hb7⟩
          have hcell : w6.cell? ⟨G, kk, none⟩ = some (i64 z) := by
            obtain ⟨b', off', u, e, _, hu, hc⟩ := (HG.out.up hb7).at_ hkn
            simp only [Option.some.injEq, Addr.mk.injEq, and_true] at e
            obtain ⟨rfl, rfl⟩ := e
            rw [List.getElem?_map, catl_get hkl, HZ.out] at hu
            rw [Nat.zero_add] at hc
            rw [hc]
            simpa using hu.symm
          have hcell' : w6.cell? ⟨G', kk, none⟩ = some (i64 z) := by
            obtain ⟨b', off', u, e, _, hu, hc⟩ := hG'.at_ hkn
            simp only [Option.some.injEq, Addr.mk.injEq, and_true] at e
            obtain ⟨rfl, rfl⟩ := e
            rw [List.getElem?_map, catl_get hkl4, HC.out] at hu
            rw [Nat.zero_add] at hc
            rw [hc]
            simpa using hu.symm
          clear hG' hb6
          go_wp2_with fail
          go_quiet (fail)
          go_wp2_with fail
          go_ret
          exact ⟨rfl, below_drewN' (below_trans' hB6 hb7) _⟩
end Go.Proofs.Yteeloebhjmmpdaa.Md
