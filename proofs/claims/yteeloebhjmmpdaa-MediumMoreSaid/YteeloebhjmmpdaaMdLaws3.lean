/- The walk of the law of chapter 17 on one radio that sends alone. -/
import Derived.Test.YteeloebhjmmpdaaMdPlain2
import Derived.Test.YteeloebhjmmpdaaMdLaws
namespace Go.Proofs.Yteeloebhjmmpdaa.Md
open Go.RowKit Go.Proofs.Yteeloebhjmmpdaa.Pl
set_option linter.unusedVariables false

theorem info_action : (Try.prog.info? 55).map (fun i => (i.zero, i.size, i.bytes)) = some (some (.agg #[.int .i64 0, .int .i64 0, .int .i64 0, .int .i64 0, .int .i64 0]), 5, 40) := by kernel_rfl
theorem one_flat {α : Type} {dec : α → List Value} (h : ∀ a, ∀ u ∈ dec a, u.oneCell' = true) (l : List α) : ∀ u ∈ l.flatMap dec, u.oneCell' = true := by
  intro u hu
  obtain ⟨a, _, ha⟩ := List.mem_flatMap.1 hu
  exact h a u ha
theorem one_decA (a : Ac) : ∀ u ∈ decA a, u.oneCell' = true := by
  intro u hu
  unfold decA at hu
  simp only [List.mem_cons, List.not_mem_nil, or_false] at hu
  rcases hu with rfl | rfl | rfl | rfl | rfl <;> rfl
theorem flat_set {α : Type} {dec : α → List Value} {s : Nat} (hd : ∀ a, (dec a).length = s) : ∀ (l : List α) (i t : Nat) (v : Value) (a : α) (hi : i < l.length), t < s → dec a = (dec l[i]).set t v → (l.flatMap dec).set (i * s + t) v = (l.set i a).flatMap dec
  | [], i, _, _, _, hi, _, _ => absurd hi (by simp)
  | b :: l, 0, t, v, a, _, ht, e => by
    simp only [List.getElem_cons_zero] at e
    rw [List.flatMap_cons, Nat.zero_mul, Nat.zero_add, List.set_append_left _ _ (by rw [hd]; exact ht), List.set_cons_zero, List.flatMap_cons, e]
  | b :: l, i + 1, t, v, a, hi, ht, e => by
    simp only [List.getElem_cons_succ] at e
    rw [List.flatMap_cons, List.set_append_right _ _ (by rw [hd, Nat.add_mul]; omega), hd, show (i + 1) * s + t - s = i * s + t by rw [Nat.add_mul]; omega, List.set_cons_succ, List.flatMap_cons, flat_set hd l i t v a (by simpa using hi) ht e]
theorem alm_el (ra : List Ac) (k m i : Nat) (h : i < (alm ra k m).length) (h1 : i < ra.length) : (alm ra k m)[i] = if i < m then al1 k i ra[i] else ra[i] := by simp [alm]
theorem alm_succ (ra : List Ac) (k m : Nat) (hm : m < ra.length) : alm ra k (m + 1) = (alm ra k m).set m (al1 k m ra[m]) := by
  apply List.ext_getElem
  · simp [alm_len]
  · intro i h1 h2
    have h3 : i < ra.length := by rwa [alm_len] at h1
    rw [List.getElem_set, alm_el _ _ _ _ _ h3, alm_el _ _ _ _ _ h3]
    by_cases e : m = i
    · subst e; rw [if_pos rfl, if_pos (by omega)]
    · rw [if_neg e]
      by_cases h : i < m
      · rw [if_pos h, if_pos (by omega)]
      · rw [if_neg h, if_neg (by omega)]
theorem alm_at (ra : List Ac) (k m : Nat) (hm : m < ra.length) : (alm ra k m)[m]'(by rw [alm_len]; exact hm) = ra[m] := by
  rw [alm_el _ _ _ _ _ hm, if_neg (by omega)]
theorem alm_keep (ra : List Ac) (k m : Nat) (hm : m < ra.length) (h : ¬ (ra[m].act = 2 ∧ m ≠ k)) : alm ra k (m + 1) = alm ra k m := by
  rw [alm_succ _ _ _ hm]
  unfold al1
  rw [if_neg h]
  have := alm_at ra k m hm
  conv => lhs; rw [← this]
  rw [List.set_getElem_self]

set_option maxRecDepth 100000 in
set_option maxHeartbeats 4000000 in
theorem mediumAlone_walk (A : Option Addr) (n c : Nat) (ra : List Ac) (P : Option Addr) (m d : Nat) (ps : List Pt) (r : Int) (asn : Int) (pk : UInt8) (w : World)
    (g0 : IsActs w A n c ra) (g1 : IsPlaces w P m d ps) (g2 : (Lit.int .i64 r).wf = true) (g3 : (Lit.int .i64 asn).wf = true) :
    Calls Try.prog 12 #[.slice A n c, .slice P m d, i64 r, i64 asn, ub pk] w fun e w' => e = .returned (.bool true) ∧ Below w.heap.size w w' := by
  have hn := small_of g0
  have hm := small_of g1
  obtain ⟨hl, hR, _, _, _⟩ := g0
  obtain ⟨hl1, hP, _, _, _⟩ := g1
  clear g2 g3
  have HL := Lib.hid hl; clear hl
  have HM := Lib.hid hl1; clear hl1
  cases hf : (fewB n m 0 && okm ra ps r asn)
  · have HF := Lib.hid hf; clear hf
    go_enter Try.func12, Try.ntmps12
    go_wp2_with fail
    refine (head_val _).mono ?_
    rintro e w1 ⟨rfl, hb1⟩
    go_wp2_with fail
    refine (valid_val A n c P m d w.heap.size none 0 0 ra ps r asn false HF.out _ (hR.below hb1) (hP.below hb1) hb1.size HL.out HM.out hn hm (by decide)).mono ?_
    rintro e w2 ⟨rfl, hb2⟩
    go_wp2_with fail
    go_ret
    exact ⟨rfl, below_trans' hb1 hb2⟩
  · have hf2 := hf
    rw [Bool.and_eq_true] at hf2
    obtain ⟨hfew, hok⟩ := hf2
    obtain ⟨rfl, hn2⟩ : n = m ∧ n ≤ 200 := by
      have := hok
      rw [okm_frame, HL.out, HM.out] at this
      simp only [Bool.and_eq_true] at this
      exact ⟨(frame_true this.1).1, (frame_true this.1).2.1⟩
    have HF := Lib.hid hf; clear hf hfew
    by_cases h0 : n = 0
    · subst h0
      go_enter Try.func12, Try.ntmps12
      go_wp2_with fail
      refine (head_val _).mono ?_
      rintro e w1 ⟨rfl, hb1⟩
      go_wp2_with fail
      refine (valid_val A 0 c P 0 d w.heap.size none 0 0 ra ps r asn true HF.out _ (hR.below hb1) (hP.below hb1) hb1.size HL.out HM.out hn hm (by decide)).mono ?_
      rintro e w2 ⟨rfl, hb2⟩
      go_wp2_with fail
      go_ret
      exact ⟨rfl, below_trans' hb1 hb2⟩
    · have hn0 : ((n : Int) == 0) = false := by rw [beq_eq_false_iff_ne]; omega
      obtain ⟨kk, hkk⟩ : ∃ kk : Nat, (pk.toNat : Int) % (n : Int) = kk := ⟨((pk.toNat : Int) % (n : Int)).toNat, by have := Int.emod_nonneg (pk.toNat : Int) (b := (n : Int)) (by omega); omega⟩
      have hkn : kk < n := by have := Int.emod_lt_of_pos (pk.toNat : Int) (b := (n : Int)) (by omega); omega
      have hp : 0 < n := by omega
      have hn1 : (0 : Int) < (n : Int) := by omega
      have hpk : (pk.toNat : Int) < 256 := by have := UInt8.toNat_lt pk; omega
      have HO := Lib.hid hok; clear hok
      clear h0
      obtain ⟨ia, hia, hz0, hz1, hz2⟩ := info_parts info_action
      go_enter Try.func12, Try.ntmps12
      go_wp2_with fail
      refine (head_val _).mono ?_
      rintro e w1 ⟨rfl, hb1⟩
      go_wp2_with fail
      refine (valid_val A n c P n d w.heap.size none 0 0 ra ps r asn true HF.out _ (hR.below hb1) (hP.below hb1) hb1.size HL.out HM.out hn hm (by decide)).mono ?_
      rintro e w2 ⟨rfl, hb2⟩
      have hB2 := below_trans' hb1 hb2
      clear hb1 hb2
      have hown0 := World.ownsRow_lit (base := w.heap.size) (e := 55) (size := 5) w2 #[] 0 hB2.size (by decide) rfl
      have hB3 : Below w.heap.size w (w2.alloc (.cells #[] 55)) := hB2.alloc hB2.size _
      have hR3 := hR.below hB3
      go_wp2_with (at_builtin; refine wpList_append_rd _ rfl (.tmp 39) (.tmp 40) _ rfl w.heap.size 55 ia _ 5 40 Try.underlying44 hia hz0 hz1 hz2 rfl (by omega) _ 0 [] rfl hown0 _ A n c _ rfl hR3 (one_flat one_decA ra) (by simp only [maxLen]; omega) (by omega) hB3.size ?_; intro Aa ca w4 hown1 hfm hg1; simp only [Nat.zero_add, List.nil_append] at hown1 hfm; have hB4 := own_below hown0 hg1 hB3 (Nat.le_refl _) hB3.size; clear hg1; obtain ⟨g, rfl⟩ := hfm hp; clear hfm; have HO1 := Lib.hid hown1; clear hown1)
      clear hR3 hown0 hB3
      go_loopw [14, 44] (fun ii i wr => ∃ j : Nat, j ≤ n ∧ i = .int .i64 j ∧ Hid (wr.ownsRow w.heap.size 55 5 (.slice (some ⟨g, 0, none⟩) n ca) n ((alm ra kk j).flatMap decA)) ∧ Below w.heap.size w wr) (fun _ i _ => n - (intOf i).toNat)
      case atStart => exact ⟨0, Nat.zero_le _, rfl, by rw [alm_zero]; exact HO1, hB4⟩
      case round =>
        clear HO1 hB4
        obtain ⟨j, hj, rfl, HO1, hB5⟩ := hrel
        by_cases hlt : j < n
        · have hjl : j < ra.length := by have := HL.out; omega
          have hjm : j < (alm ra kk j).length := by rw [alm_len]; exact hjl
          have hd0 := HO1.out.cellAt (j * 5) (by omega)
          have hf0 := HO1.out.frozenAt (j * 5)
          have hg5 := flat_get (dec := decA) (k := 5) (fun _ => rfl) (alm ra kk j) j 0 _ (List.getElem?_eq_getElem hjm) (by decide)
          rw [Nat.add_zero] at hg5
          rw [hg5, alm_at _ _ _ hjl] at hd0
          have hkeep := alm_keep ra kk j hjl
          have hset := flat_set (dec := decA) (s := 5) (fun _ => rfl) (alm ra kk j) j 0 (i64 1) { ra[j] with act := 1 } hjm (by decide) (by rw [alm_at _ _ _ hjl]; rfl)
          have hsucc := alm_succ ra kk j hjl
          unfold al1 at hsucc
          obtain ⟨⟨sa, sc, ss, sl, sh⟩, es⟩ : ∃ a, ra[j] = a := ⟨_, rfl⟩
          rw [es] at hd0 hkeep hset hsucc
          dsimp only at hkeep hset hsucc
          replace hd0 : wr.cell? ⟨g, j * 5, none⟩ = some (i64 sa) := hd0
          clear hg5
          by_cases hc : sa = 2 ∧ j ≠ kk
          · obtain ⟨rfl, hne⟩ := hc
            rw [if_pos ⟨rfl, hne⟩] at hsucc
            have hne1 : ((j : Int) != (kk : Int)) = true := by rw [bne_iff_ne]; omega
            have HO2 := Lib.hid (HO1.out.stored (j * 5 + 0) (i64 1)).1
            rw [hset, ← hsucc] at HO2
            have hB6 := hB5.setCell (p := ⟨g, j * 5, none⟩) ((own_block HO1.out g rfl).1) (i64 1)
            clear hkeep hset hsucc hne
            go_wp2_with fail
            go_roundw
            case rel => exact ⟨j + 1, by omega, by go_num, HO2, hB6⟩
            case measure => simp [intOf]; omega
          · have HO2 : Hid (wr.ownsRow w.heap.size 55 5 (.slice (some ⟨g, 0, none⟩) n ca) n ((alm ra kk (j + 1)).flatMap decA)) := by rw [hkeep hc]; exact HO1
            have hc2 : (sa == 2) = false ∨ (sa = 2 ∧ j = kk) := by
              by_cases e : sa = 2
              · exact .inr ⟨e, by omega⟩
              · exact .inl (by rw [beq_eq_false_iff_ne]; exact e)
            clear hkeep hset hsucc hc
            rcases hc2 with e1 | ⟨rfl, rfl⟩
            all_goals
              go_wp2_with fail
              go_roundw
              case rel => exact ⟨j + 1, by omega, by go_num, HO2, hB5⟩
              case measure => simp [intOf]; omega
        · obtain rfl : j = n := by omega
          have hl4 : (alm ra kk j).length = j := by rw [alm_len, HL.out]
          have hok4 : okm (alm ra kk j) ps r asn = true := by have := alm_ok kk HO.out; rwa [HL.out] at this
          have hcat : ∀ i, i < j → cat (alm ra kk j) ps r [] asn i = if wantB ((alm ra kk j).getD kk z0) ((alm ra kk j).getD i z0) (ps.getD i p0) (ps.getD kk p0) r then (kk : Int) else -1 := fun i hi => by
            have := alone_cat (ra := ra) (ps := ps) (r := r) (asn := asn) (k := kk) (i := i) (by rw [HL.out]; exact hkn) (by rw [HL.out]; exact hi)
            rwa [HL.out] at this
          have hR4 := Rd.of_own HO1.out
          clear HO1 HO HF
          generalize alm ra kk j = rb at *
          have HL4 := Lib.hid hl4; clear hl4
          have HO4 := Lib.hid hok4; clear hok4
          have HR4 := Lib.hid hR4; clear hR4
          have HC := Lib.hid hcat; clear hcat
          go_wp2_with fail
          refine (mdCatch_good _ j ca P d wr.heap.size none 0 _ rb ps r [] asn HO4.out _ HR4.out ((hP.below hB5).more hB5.size) Rd.nil_ (Nat.le_refl _) HL4.out HM.out rfl (by decide)).mono ?_
          rintro e w5 ⟨G, rfl, hG, hb6⟩
          have hB6 := below_trans' hB5 hb6
          have HG := Lib.hid hG; clear hG
          have hR5 := HR4.out.up hb6
          have hkl : kk < rb.length := by have := HL4.out; omega
          have hkp : kk < ps.length := by have := HM.out; omega
          obtain ⟨b, off, e, hb, hc1⟩ := rd_el (dec := decA) (fun _ => rfl) hR5 HL4.out hkl
          simp only [Option.some.injEq, Addr.mk.injEq, and_true] at e
          obtain ⟨rfl, rfl⟩ := e
          simp only [Nat.zero_add] at hc1
          obtain ⟨⟨sa, sc, ss, sl, sh⟩, es⟩ : ∃ a, rb[kk] = a := ⟨_, rfl⟩
          rw [es] at hc1
          have c0 : w5.cell? ⟨g, kk * 5, none⟩ = some (i64 sa) := hc1 0 _ rfl
          have c1 : w5.cell? ⟨g, kk * 5 + 1, none⟩ = some (i64 sc) := hc1 1 _ rfl
          have c2 : w5.cell? ⟨g, kk * 5 + 2, none⟩ = some (i64 ss) := hc1 2 _ rfl
          have c3 : w5.cell? ⟨g, kk * 5 + 3, none⟩ = some (i64 sl) := hc1 3 _ rfl
          have c4 : w5.cell? ⟨g, kk * 5 + 4, none⟩ = some (i64 sh) := hc1 4 _ rfl
          have HR5 := Lib.hid hR5; clear hR5 hc1 HR4
          obtain ⟨q, qo, rfl, hq, hc3⟩ := rd_el (dec := decP) (fun _ => rfl) (hP.below hB6) HM.out hkp
          obtain ⟨⟨px, py⟩, ep⟩ : ∃ a, ps[kk] = a := ⟨_, rfl⟩
          rw [ep] at hc3
          have P0 := Lib.hid (hc3 0 _ rfl)
          have P1 := Lib.hid (hc3 1 _ rfl)
          have bS := Blk.new w5 55 #[i64 sa, i64 sc, i64 ss, i64 sl, i64 sh]
          have hBS := (Below.refl w5.heap.size w5).alloc (Nat.le_refl _) (.cells #[i64 sa, i64 sc, i64 ss, i64 sl, i64 sh] 55)
          obtain ⟨W, hW⟩ : ∃ W, W = w5.alloc (.cells #[i64 sa, i64 sc, i64 ss, i64 sl, i64 sh] 55) := ⟨_, rfl⟩
          rw [← hW] at bS hBS
          have HW := Lib.hid hW; clear hW
          have BS := Lib.hid bS; clear bS hc3
          clear hb6 hb
          go_wp2_with fail
          rw [← HW.out]
          clear c0 c1 c2 c3 c4
          go_loopw [86] (fun i wr => ∃ t : Nat, t ≤ j ∧ i = .int .i64 t ∧ Below W.heap.size W wr) (fun i _ => j - (intOf i).toNat)
          case atStart => exact ⟨0, Nat.zero_le _, rfl, Below.refl _ _⟩
          case round =>
            obtain ⟨i, hi, rfl, hb7⟩ := hrel
            by_cases hlt2 : i < j
            · have hb8 := below_trans' hBS hb7
              have hil : i < rb.length := by have := HL4.out; omega
              have hip : i < ps.length := by have := HM.out; omega
              obtain ⟨b, off, e, hb, hc2⟩ := rd_el (dec := decA) (fun _ => rfl) (HR5.out.up hb8) HL4.out hil
              simp only [Option.some.injEq, Addr.mk.injEq, and_true] at e
              obtain ⟨rfl, rfl⟩ := e
              simp only [Nat.zero_add] at hc2
              obtain ⟨q', qo', e, _, hc4⟩ := rd_el (dec := decP) (fun _ => rfl) (hP.below (below_trans' hB6 hb8)) HM.out hip
              simp only [Option.some.injEq, Addr.mk.injEq, and_true] at e
              obtain ⟨rfl, rfl⟩ := e
              have hz := HC.out i hlt2
              rw [getD_of hkl, getD_of hil, getD_of hip, getD_of hkp, es, ep] at hz
              obtain ⟨z, hzz⟩ : ∃ z, cat rb ps r [] asn i = z := ⟨_, rfl⟩
              rw [hzz] at hz
              obtain ⟨⟨la, lc, ls, ll, lh⟩, el⟩ : ∃ a, rb[i] = a := ⟨_, rfl⟩
              obtain ⟨⟨ox, oy⟩, eo⟩ : ∃ a, ps[i] = a := ⟨_, rfl⟩
              rw [el] at hc2 hz
              rw [eo] at hc4 hz
              have c0 : wr.cell? ⟨g, i * 5, none⟩ = some (i64 la) := hc2 0 _ rfl
              have c1 : wr.cell? ⟨g, i * 5 + 1, none⟩ = some (i64 lc) := hc2 1 _ rfl
              have c2 : wr.cell? ⟨g, i * 5 + 2, none⟩ = some (i64 ls) := hc2 2 _ rfl
              have c3 : wr.cell? ⟨g, i * 5 + 3, none⟩ = some (i64 ll) := hc2 3 _ rfl
              have c4 : wr.cell? ⟨g, i * 5 + 4, none⟩ = some (i64 lh) := hc2 4 _ rfl
              have hcell : wr.cell? ⟨G, i, none⟩ = some (i64 z) := by
                obtain ⟨b', off', u, e, _, hu, hc⟩ := (HG.out.up hb8).at_ hlt2
                simp only [Option.some.injEq, Addr.mk.injEq, and_true] at e
                obtain ⟨rfl, rfl⟩ := e
                rw [List.getElem?_map, catl_get hil, hzz] at hu
                rw [Nat.zero_add] at hc
                rw [hc]
                simpa using hu.symm
              have CZ := Lib.hid hcell; clear hcell hzz
              have bA := Blk.new wr 55 #[i64 la, i64 lc, i64 ls, i64 ll, i64 lh]
              have hBA := (Below.refl wr.heap.size wr).alloc (Nat.le_refl _) (.cells #[i64 la, i64 lc, i64 ls, i64 ll, i64 lh] 55)
              obtain ⟨W2, hW2⟩ : ∃ W2, W2 = wr.alloc (.cells #[i64 la, i64 lc, i64 ls, i64 ll, i64 lh] 55) := ⟨_, rfl⟩
              rw [← hW2] at bA hBA
              have HW2 := Lib.hid hW2; clear hW2
              have bS2 := (BS.out.up' hb7).up' hBA
              have f0 : ∀ s : WOf (Below W2.heap.size W2), s.w.cell? ⟨w5.heap.size, 0, none⟩ = some (i64 sa) := fun s => (bS2.up' s.ok).cell 0
              have f1 : ∀ s : WOf (Below W2.heap.size W2), s.w.cell? ⟨w5.heap.size, 1, none⟩ = some (i64 sc) := fun s => (bS2.up' s.ok).cell 1
              have f2 : ∀ s : WOf (Below W2.heap.size W2), s.w.cell? ⟨w5.heap.size, 2, none⟩ = some (i64 ss) := fun s => (bS2.up' s.ok).cell 2
              have a0 : ∀ s : WOf (Below W2.heap.size W2), s.w.cell? ⟨wr.heap.size, 0, none⟩ = some (i64 la) := fun s => (bA.up' s.ok).cell 0
              have a1 : ∀ s : WOf (Below W2.heap.size W2), s.w.cell? ⟨wr.heap.size, 1, none⟩ = some (i64 lc) := fun s => (bA.up' s.ok).cell 1
              have a3 : ∀ s : WOf (Below W2.heap.size W2), s.w.cell? ⟨wr.heap.size, 3, none⟩ = some (i64 ll) := fun s => (bA.up' s.ok).cell 3
              have a4 : ∀ s : WOf (Below W2.heap.size W2), s.w.cell? ⟨wr.heap.size, 3 + 1, none⟩ = some (i64 lh) := fun s => (bA.up' s.ok).cell 4
              have p2 : ∀ s : WOf (Below W2.heap.size W2), s.w.cell? ⟨q, qo + kk * 2, none⟩ = some (i64 px) := fun s => cup (cup (cup P0.out hb8) hBA) s.ok
              have p3 : ∀ s : WOf (Below W2.heap.size W2), s.w.cell? ⟨q, qo + kk * 2 + 1, none⟩ = some (i64 py) := fun s => cup (cup (cup P1.out hb8) hBA) s.ok
              have p4 : ∀ s : WOf (Below W2.heap.size W2), s.w.cell? ⟨q, qo + i * 2, none⟩ = some (i64 ox) := fun s => cup (cup (hc4 0 _ rfl) hBA) s.ok
              have p5 : ∀ s : WOf (Below W2.heap.size W2), s.w.cell? ⟨q, qo + i * 2 + 1, none⟩ = some (i64 oy) := fun s => cup (cup (hc4 1 _ rfl) hBA) s.ok
              have hup : ∀ a b, Below W2.heap.size W2 a → Below a.heap.size a b → Below W2.heap.size W2 b := fun a b h k => below_trans' h k
              obtain ⟨vn, hvn⟩ : ∃ v, near (ox, oy) (px, py) r = v := ⟨_, rfl⟩
              have NV := Lib.hid (fun W => near_val ox oy px py r vn hvn W)
              have hcase : (z = -1 ∧ (sa == 2) = false) ∨ (z = -1 ∧ sa = 2 ∧ (la == 1) = false) ∨ (z = -1 ∧ sa = 2 ∧ la = 1 ∧ (lc == sc) = false) ∨ (z = -1 ∧ sa = 2 ∧ la = 1 ∧ lc = sc ∧ vn = false) ∨
                  (z = -1 ∧ sa = 2 ∧ la = 1 ∧ lc = sc ∧ vn = true ∧ decide (ll ≤ ss) = false) ∨ (z = -1 ∧ sa = 2 ∧ la = 1 ∧ lc = sc ∧ vn = true ∧ ll ≤ ss ∧ decide (ss ≤ lh) = false) ∨ (z = kk ∧ sa = 2 ∧ la = 1 ∧ lc = sc ∧ vn = true ∧ ll ≤ ss ∧ ss ≤ lh) := by
                unfold wantB at hz
                dsimp only at hz
                rw [hvn] at hz
                by_cases t1 : sa = 2
                · by_cases t2 : la = 1
                  · by_cases t3 : lc = sc
                    · cases t4 : vn
                      · exact .inr (.inr (.inr (.inl ⟨by rw [hz, t4]; simp, t1, t2, t3, rfl⟩)))
                      · by_cases t5 : ll ≤ ss
                        · by_cases t6 : ss ≤ lh
                          · exact .inr (.inr (.inr (.inr (.inr (.inr ⟨by rw [hz, t4]; simp [t1, t2, t3, t5, t6], t1, t2, t3, rfl, t5, t6⟩)))))
                          · exact .inr (.inr (.inr (.inr (.inr (.inl ⟨by rw [hz]; simp [t6], t1, t2, t3, rfl, t5, by simpa using t6⟩)))))
                        · exact .inr (.inr (.inr (.inr (.inl ⟨by rw [hz]; simp [t5], t1, t2, t3, rfl, by simpa using t5⟩))))
                    · exact .inr (.inr (.inl ⟨by rw [hz]; simp [t3], t1, t2, by rw [beq_eq_false_iff_ne]; exact t3⟩))
                  · exact .inr (.inl ⟨by rw [hz]; simp [t2], t1, by rw [beq_eq_false_iff_ne]; exact t2⟩)
                · exact .inl ⟨by rw [hz]; simp [t1], by rw [beq_eq_false_iff_ne]; exact t1⟩
              clear hz hvn hc2 hc4 es ep el eo
              have hkk0 : ((kk : Int) == -1) = false := by rw [beq_eq_false_iff_ne]; omega
              rcases hcase with ⟨rfl, t1⟩ | ⟨rfl, rfl, t1⟩ | ⟨rfl, rfl, rfl, t1⟩ | ⟨rfl, rfl, rfl, rfl, rfl⟩ | ⟨rfl, rfl, rfl, rfl, rfl, t1⟩ | ⟨rfl, rfl, rfl, rfl, rfl, t1, t2⟩ | ⟨rfl, rfl, rfl, rfl, rfl, t1, t2⟩
              all_goals
                go_wp2_with fail
                rw [← HW2.out]
                refine wp_region_ext (Below W2.heap.size W2) (Below.refl _ _) hup (by kernel_rfl) (by kernel_rfl) (fun hne => ?_)
                try simp only [List.append_eq, List.cons_append, List.nil_append]
                repeat (go_big_quiet_step (with_reducible exact calls_ext hup (NV.out _)))
                refine wpQuiet_nil ?_
                clear hne
                intro wx hx'
                obtain ⟨⟨_, hx⟩, hx''⟩ := hx'
                subst hx''
                have cz := cup (cup CZ.out hBA) hx
                have hb9 := below_trans' (below_trans' hb7 hBA) hx
                clear f0 f1 f2 a0 a1 a3 a4 p2 p3 p4 p5 c0 c1 c2 c3 c4
                go_wp2_with fail
                go_roundw
                case rel => exact ⟨i + 1, by omega, by go_num, hb9⟩
                case measure => simp [intOf]; omega
            · go_wp2_with fail
              go_ret
              exact ⟨rfl, below_trans' (below_trans' hB6 hBS) hb7⟩
end Go.Proofs.Yteeloebhjmmpdaa.Md
