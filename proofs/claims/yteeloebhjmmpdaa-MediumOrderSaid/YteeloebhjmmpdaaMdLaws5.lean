/- The walk of the law of chapter 17 on radios that are turned round. -/
import Derived.Deep.RegionLaw
import Derived.Test.YteeloebhjmmpdaaApp2
import Derived.Test.YteeloebhjmmpdaaMdLaws3
namespace Go.Proofs.Yteeloebhjmmpdaa.Md
open Go.RowKit Go.Proofs.Yteeloebhjmmpdaa.Pl
set_option linter.unusedVariables false

theorem info_place : (Try.prog.info? 25).map (fun i => (i.zero, i.size, i.bytes)) = some (some (.agg #[.int .i64 0, .int .i64 0]), 2, 16) := by kernel_rfl
theorem one_decP (a : Pt) : ∀ u ∈ decP a, u.oneCell' = true := by
  intro u hu
  unfold decP at hu
  simp only [List.mem_cons, List.not_mem_nil, or_false] at hu
  rcases hu with rfl | rfl <;> rfl
theorem back_int {n k i : Nat} (hk : k < n) : ((i : Int) - (k : Int) + (n : Int)) % (n : Int) = ((back n k i : Nat) : Int) := by
  rw [show (i : Int) - (k : Int) + (n : Int) = ((i + (n - k) : Nat) : Int) by omega]
  unfold back
  rw [Int.natCast_emod]
theorem cat_range (ra : List Ac) (ps : List Pt) (r : Int) (js : List Jm) (asn : Int) (i : Nat) : cat ra ps r js asn i = -1 ∨ cat ra ps r js asn i = -2 ∨ ∃ x : Nat, x < ra.length ∧ cat ra ps r js asn i = x := by
  rcases cat_cases ra ps r js asn i with ⟨_, h⟩ | ⟨_, _, h⟩ | ⟨_, _, h⟩
  · exact .inl h
  · exact .inr (.inl h)
  · rcases h with ⟨_, h⟩ | ⟨k, hk, _, _, h⟩ | ⟨_, _, _, _, _, _, _, h⟩
    · exact .inl h
    · by_cases ho : opn (ra.getD k z0) (ra.getD i z0) = true
      · rw [if_pos ho] at h; exact .inr (.inr ⟨k, hk, h⟩)
      · rw [if_neg ho] at h; exact .inl h
    · exact .inr (.inl h)
theorem flat_take' {α β : Type} (f : α → List β) (s : Nat) (hf : ∀ a, (f a).length = s) : ∀ (l : List α) (n : Nat), (l.flatMap f).take (n * s) = (l.take n).flatMap f
  | [], n => by simp
  | a :: l, 0 => by simp
  | a :: l, n + 1 => by
    rw [List.flatMap_cons, List.take_succ_cons, List.flatMap_cons, Nat.add_mul, Nat.one_mul, List.take_append, hf]
    rw [List.take_of_length_le (by rw [hf]; omega), show n * s + s - s = n * s by omega, flat_take' f s hf l n]
theorem flat_drop' {α β : Type} (f : α → List β) (s : Nat) (hf : ∀ a, (f a).length = s) : ∀ (l : List α) (n : Nat), (l.flatMap f).drop (n * s) = (l.drop n).flatMap f
  | [], n => by simp
  | a :: l, 0 => by simp
  | a :: l, n + 1 => by
    rw [List.flatMap_cons, List.drop_succ_cons, Nat.add_mul, Nat.one_mul, List.drop_append, List.drop_of_length_le (by rw [hf]; omega), List.nil_append, hf, show n * s + s - s = n * s by omega, flat_drop' f s hf l n]
theorem rd_drop {α : Type} {dec : α → List Value} {s : Nat} (hd : ∀ a, (dec a).length = s) {w : World} {B b off n : Nat} {l : List α} (h : Rd w B s (some ⟨b, off, none⟩) n (l.flatMap dec)) {k : Nat} (hk : k ≤ n) : Rd w B s (some ⟨b, off + k * s, none⟩) (n - k) ((l.drop k).flatMap dec) := by
  refine ⟨by rw [← flat_drop' dec s hd, List.length_drop, h.1, Nat.sub_mul], fun hn => ?_⟩
  obtain ⟨b', off', e, hb, hc⟩ := h.2 (by omega)
  simp only [Option.some.injEq, Addr.mk.injEq, and_true] at e
  obtain ⟨rfl, rfl⟩ := e
  refine ⟨b, off + k * s, rfl, hb, fun j u hu => ?_⟩
  rw [Nat.add_assoc]
  refine hc _ u ?_
  rw [← flat_drop' dec s hd, List.getElem?_drop] at hu
  exact hu
theorem rd_take {α : Type} {dec : α → List Value} {s : Nat} (hd : ∀ a, (dec a).length = s) {w : World} {B n : Nat} {A : Option Addr} {l : List α} (h : Rd w B s A n (l.flatMap dec)) {k : Nat} (hk : k ≤ n) : Rd w B s A k ((l.take k).flatMap dec) := by
  rw [← flat_take' dec s hd]
  exact h.take hk

set_option maxRecDepth 100000 in
set_option maxHeartbeats 4000000 in
theorem mediumOrder_walk (A : Option Addr) (n c : Nat) (ra : List Ac) (P : Option Addr) (m d : Nat) (ps : List Pt) (r : Int) (J : Option Addr) (k e : Nat) (js : List Jm) (asn : Int) (pk : UInt8) (w : World)
    (g0 : IsActs w A n c ra) (g1 : IsPlaces w P m d ps) (g2 : (Lit.int .i64 r).wf = true) (g3 : IsJams w J k e js) (g4 : (Lit.int .i64 asn).wf = true) :
    Calls Try.prog 16 #[.slice A n c, .slice P m d, i64 r, .slice J k e, i64 asn, ub pk] w fun e w' => e = .returned (.bool true) ∧ Below w.heap.size w w' := by
  have hn := small_of g0
  have hm := small_of g1
  have hk := small_of g3
  obtain ⟨hl, hR, hnc, _, _⟩ := g0
  obtain ⟨hl1, hP, hnd, _, _⟩ := g1
  obtain ⟨hl3, hJ, _, _, _⟩ := g3
  have HJ := Lib.hid hl3; clear hl3
  clear g2 g4
  have HL := Lib.hid hl; clear hl
  have HM := Lib.hid hl1; clear hl1
  cases hf : (fewB n m k && okm ra ps r asn)
  · have HF := Lib.hid hf; clear hf
    go_enter Try.func16, Try.ntmps16
    go_wp2_with fail
    refine (head_val _).mono ?_
    rintro e w1 ⟨rfl, hb1⟩
    go_wp2_with fail
    refine (valid_val A n c P m d w.heap.size J k _ ra ps r asn false HF.out _ (hR.below hb1) (hP.below hb1) hb1.size HL.out HM.out hn hm hk).mono ?_
    rintro e w2 ⟨rfl, hb2⟩
    go_wp2_with fail
    go_ret
    exact ⟨rfl, below_trans' hb1 hb2⟩
  · have hf2 := hf
    rw [Bool.and_eq_true] at hf2
    obtain ⟨hfew, hok⟩ := hf2
    obtain ⟨rfl, hn2⟩ : n = m ∧ n ≤ 200 := by
      have := hok
      rw [okm_frame, HL.out, HM.out] at this
      simp only [Bool.and_eq_true] at this
      exact ⟨(frame_true this.1).1, (frame_true this.1).2.1⟩
    have HF := Lib.hid hf; clear hf hfew
    by_cases h0 : n = 0
    · subst h0
      go_enter Try.func16, Try.ntmps16
      go_wp2_with fail
      refine (head_val _).mono ?_
      rintro e w1 ⟨rfl, hb1⟩
      go_wp2_with fail
      refine (valid_val A 0 c P 0 d w.heap.size J k _ ra ps r asn true HF.out _ (hR.below hb1) (hP.below hb1) hb1.size HL.out HM.out hn hm hk).mono ?_
      rintro e w2 ⟨rfl, hb2⟩
      go_wp2_with fail
      go_ret
      exact ⟨rfl, below_trans' hb1 hb2⟩
    · have hn0 : ((n : Int) == 0) = false := by rw [beq_eq_false_iff_ne]; omega
      obtain ⟨kk, hkk⟩ : ∃ kk : Nat, (pk.toNat : Int) % (n : Int) = kk := ⟨((pk.toNat : Int) % (n : Int)).toNat, by have := Int.emod_nonneg (pk.toNat : Int) (b := (n : Int)) (by omega); omega⟩
      have hkn : kk < n := by have := Int.emod_lt_of_pos (pk.toNat : Int) (b := (n : Int)) (by omega); omega
      have hp : 0 < n := by omega
      have hn1 : (0 : Int) < (n : Int) := by omega
      have hpk : (pk.toNat : Int) < 256 := by have := UInt8.toNat_lt pk; omega
      have HO := Lib.hid hok; clear hok
      clear h0
      have hA0 : A = none ∨ ∃ b off, A = some ⟨b, off, none⟩ := by
        obtain ⟨b, off, e, _⟩ := hR.2 hp
        exact .inr ⟨b, off, e⟩
      obtain ⟨b, off, rfl, _⟩ := hR.2 hp
      obtain ⟨q, qo, rfl, _⟩ := hP.2 hp
      clear hA0
      have hck : ¬ c = kk := by omega
      have hdk : ¬ d = kk := by omega
      have hkn1 : (kk : Int) ≤ (n : Int) := by omega
      have hkn2 : (kk : Int) ≤ (c : Int) := by omega
      have hkn3 : (kk : Int) ≤ (d : Int) := by omega
      have hnc1 : (n : Int) ≤ (c : Int) := by omega
      have hnd1 : (n : Int) ≤ (d : Int) := by omega
      have hk0 : (0 : Int) ≤ (kk : Int) := by omega
      obtain ⟨ia, hia, hz0, hz1, hz2⟩ := info_parts info_action
      obtain ⟨ip, hip, sz0, sz1, sz2⟩ := info_parts info_place
      go_enter Try.func16, Try.ntmps16
      go_wp2_with fail
      refine (head_val _).mono ?_
      rintro e w1 ⟨rfl, hb1⟩
      go_wp2_with fail
      refine (valid_val _ n c _ n d w.heap.size J k _ ra ps r asn true HF.out _ (hR.below hb1) (hP.below hb1) hb1.size HL.out HM.out hn hm hk).mono ?_
      rintro e w2 ⟨rfl, hb2⟩
      have hB2 := below_trans' hb1 hb2
      clear hb1 hb2
      go_wp2_with fail
      have hown0 : (w2.alloc (.cells #[] 55)).drew.ownsRow w.heap.size 55 5 (.slice (some ⟨w2.heap.size, 0, none⟩) 0 0) 0 [] := World.ownsRow_lit (base := w.heap.size) (e := 55) (size := 5) w2 #[] 0 hB2.size (by decide) rfl
      have hB3 : Below w.heap.size w (w2.alloc (.cells #[] 55)).drew := (hB2.alloc hB2.size _).drew
      have hRd := rd_drop (dec := decA) (fun _ => rfl) (hR.below hB3) (k := kk) (by omega)
      have HRd := Lib.hid hRd; clear hRd
      have HW0 := Lib.hid hown0; clear hown0
      go_region_law (first
        | ((refine step_append_rd2 _ (by rfl) (.tmp 43) (.tmp 46) _ (by rfl) w.heap.size 55 ia _ 5 40 Try.underlying44 hia hz0 hz1 hz2 rfl (by decide) _ 0 [] (by rfl) HW0.out _ _ _ _ _ (by rfl) HRd.out (one_flat one_decA _) (by simp only [maxLen]; omega) (by omega) hB3.size ?_; intro Xa1 qa1 wa1 hown1 _ hg1 _; simp only [Nat.zero_add, List.nil_append] at hown1; have hBa1 := own_below HW0.out hg1 hB3 (Nat.le_refl _) hB3.size; have HOa1 := Lib.hid hown1; have HRta := Lib.hid (rd_take (dec := decA) (fun _ => rfl) (hR.below hBa1) (k := kk) (by omega)); clear hown1 hg1))
        | ((refine step_append_rd2 _ (by rfl) (.tmp 47) (.tmp 50) _ (by rfl) w.heap.size 55 ia _ 5 40 Try.underlying44 hia hz0 hz1 hz2 rfl (by decide) _ (n - kk) _ (by rfl) HOa1.out _ _ _ _ _ (by rfl) HRta.out (one_flat one_decA _) (by simp only [maxLen]; omega) (by omega) hBa1.size ?_; intro Xa2 qa2 wa2 hown2 hf2 hg2 _; have hBa2 := own_below HOa1.out hg2 hBa1 (Nat.le_refl _) hBa1.size; rw [show n - kk + kk = n by omega] at hown2 hf2; have HOa2 := Lib.hid hown2; have HFa := Lib.hid hf2; clear hown2 hf2 hg2)))
      have hRa := Rd.of_own HOa2.out
      rw [← List.flatMap_append] at hRa
      have HRa := Lib.hid hRa; clear hRa
      have hown0 : (wa2.alloc (.cells #[] 25)).drew.ownsRow wa2.heap.size 25 2 (.slice (some ⟨wa2.heap.size, 0, none⟩) 0 0) 0 [] := World.ownsRow_lit (base := wa2.heap.size) (e := 25) (size := 2) wa2 #[] 0 (Nat.le_refl _) (by decide) rfl
      have hB5 : Below wa2.heap.size wa2 (wa2.alloc (.cells #[] 25)).drew := ((Below.refl wa2.heap.size wa2).alloc (Nat.le_refl _) _).drew
      have hRe := rd_drop (dec := decP) (fun _ => rfl) (hP.below (below_trans' hBa2 hB5)) (k := kk) (by omega)
      have HRe := Lib.hid hRe; clear hRe
      have HW1 := Lib.hid hown0; clear hown0
      go_wp2_with fail
      go_region_law (first
        | ((refine step_append_rd2 _ (by rfl) (.tmp 52) (.tmp 55) _ (by rfl) wa2.heap.size 25 ip _ 2 16 Try.underlying22 hip sz0 sz1 sz2 rfl (by decide) _ 0 [] (by rfl) HW1.out _ _ _ _ _ (by rfl) HRe.out (one_flat one_decP _) (by simp only [maxLen]; omega) (by omega) hB5.size ?_; intro Xp1 qp1 wp1 hown1 _ hg1 _; simp only [Nat.zero_add, List.nil_append] at hown1; have hBp1 := own_below HW1.out hg1 hB5 (Nat.le_refl _) hB5.size; have HOp1 := Lib.hid hown1; have HRtp := Lib.hid (rd_take (dec := decP) (fun _ => rfl) (hP.below (below_trans' hBa2 hBp1)) (k := kk) (by omega)); clear hown1 hg1))
        | ((refine step_append_rd2 _ (by rfl) (.tmp 56) (.tmp 59) _ (by rfl) wa2.heap.size 25 ip _ 2 16 Try.underlying22 hip sz0 sz1 sz2 rfl (by decide) _ (n - kk) _ (by rfl) HOp1.out _ _ _ _ _ (by rfl) HRtp.out (one_flat one_decP _) (by simp only [maxLen]; omega) (by omega) hBp1.size ?_; intro Xp2 qp2 wp2 hown2 hf2 hg2 _; have hBp2 := own_below HOp1.out hg2 hBp1 (Nat.le_refl _) hBp1.size; rw [show n - kk + kk = n by omega] at hown2 hf2; have HOp2 := Lib.hid hown2; have HFp := Lib.hid hf2; clear hown2 hf2 hg2)))
      have HRa4 := Lib.hid (HRa.out.up hBp2)
      have hBp2 := below_trans' hBa2 hBp2
      have hRp := Rd.of_own HOp2.out
      rw [← List.flatMap_append] at hRp
      have HRp := Lib.hid hRp; clear hRp
      have hnk : n - kk + kk = n := by omega
      have hla : (rot kk ra).length = n := by rw [rot_len (by have := HL.out; omega), HL.out]
      have hlp : (rot kk ps).length = n := by rw [rot_len (by have := HM.out; omega), HM.out]
      have HLa := Lib.hid hla; clear hla
      have HLp := Lib.hid hlp; clear hlp
      have HOk := Lib.hid (rot_ok HL.out HM.out hkn HO.out)
      have HRC := Lib.hid (fun (i : Nat) (hi : i < n) => rot_cat (r := r) (js := js) (asn := asn) HL.out HM.out hkn hi)
      clear HF
      go_wp2_with fail
      refine (mdCatch_good _ n c _ d w.heap.size J k _ ra ps r js asn HO.out _ (hR.below hBp2) (hP.below hBp2) (hJ.below hBp2) hBp2.size HL.out HM.out HJ.out hk).mono ?_
      rintro e w5 ⟨G, rfl, hG, hb6⟩
      have hB6 := below_trans' hBp2 hb6
      have HG := Lib.hid hG; clear hG
      have HRp5 := Lib.hid (HRp.out.up hb6)
      have HRa5 := Lib.hid (HRa4.out.up hb6)
      go_wp2_with fail
      refine (mdCatch_good _ n _ _ _ w5.heap.size J k _ (rot kk ra) (rot kk ps) r js asn HOk.out _ HRa5.out HRp5.out ((hJ.below hB6).more hB6.size) (Nat.le_refl _) HLa.out HLp.out HJ.out hk).mono ?_
      rintro e w6 ⟨G', rfl, hG', hb7⟩
      have hB7 := below_trans' hB6 hb7
      have HG7 := Lib.hid (HG.out.up hb7)
      have HG' := Lib.hid hG'; clear hG' hb6 hb7 HG HRa5 HRp5 HRp
      go_wp2_with fail
      go_loop [22, 23, 98] (fun _ _ i => ∃ j : Nat, j ≤ n ∧ i = .int .i64 j) (fun _ _ i => n - (intOf i).toNat)
      case atStart => exact ⟨0, Nat.zero_le _, rfl⟩
      case round =>
        obtain ⟨i, hi, rfl⟩ := hrel
        by_cases hlt : i < n
        · have hil : i < ra.length := by have := HL.out; omega
          obtain ⟨bi, hbi⟩ : ∃ bi, back n kk i = bi := ⟨_, rfl⟩
          have hbn : bi < n := by rw [← hbi]; exact back_lt hp
          have hbl : bi < (rot kk ra).length := by have := HLa.out; omega
          obtain ⟨z, hz⟩ : ∃ z, cat ra ps r js asn i = z := ⟨_, rfl⟩
          have hrc := HRC.out i hlt
          rw [hbi, hz] at hrc
          have c0 : w6.cell? ⟨G, i, none⟩ = some (i64 z) := by
            obtain ⟨b', off', u, e, _, hu, hc⟩ := HG7.out.at_ hlt
            simp only [Option.some.injEq, Addr.mk.injEq, and_true] at e
            obtain ⟨rfl, rfl⟩ := e
            rw [List.getElem?_map, catl_get hil, hz] at hu
            rw [Nat.zero_add] at hc
            rw [hc]
            simpa using hu.symm
          have c1 : w6.cell? ⟨G', bi, none⟩ = some (i64 (backR n kk z)) := by
            obtain ⟨b', off', u, e, _, hu, hc⟩ := HG'.out.at_ hbn
            simp only [Option.some.injEq, Addr.mk.injEq, and_true] at e
            obtain ⟨rfl, rfl⟩ := e
            rw [List.getElem?_map, catl_get hbl, hrc] at hu
            rw [Nat.zero_add] at hc
            rw [hc]
            simpa using hu.symm
          have e1 : ((i : Int) - (kk : Int) + (n : Int)) % (n : Int) = (bi : Nat) := by rw [back_int hkn, hbi]
          have hrng := cat_range ra ps r js asn i
          rw [hz, HL.out] at hrng
          clear hz hrc hbi
          rcases hrng with rfl | rfl | ⟨x, hxn, rfl⟩
          · replace c1 : w6.cell? ⟨G', bi, none⟩ = some (i64 (-1)) := c1
            go_wp2_with fail
            go_round
            case rel => exact ⟨i + 1, by omega, by go_num⟩
            case measure => simp [intOf]; omega
          · replace c1 : w6.cell? ⟨G', bi, none⟩ = some (i64 (-2)) := c1
            go_wp2_with fail
            go_round
            case rel => exact ⟨i + 1, by omega, by go_num⟩
            case measure => simp [intOf]; omega
          · obtain ⟨bx, hbx⟩ : ∃ bx, back n kk x = bx := ⟨_, rfl⟩
            replace c1 : w6.cell? ⟨G', bi, none⟩ = some (i64 (bx : Nat)) := by rw [← hbx]; rw [c1]; unfold backR; rw [if_pos (by omega)]; rfl
            have e2 : ((x : Int) - (kk : Int) + (n : Int)) % (n : Int) = (bx : Nat) := by rw [back_int hkn, hbx]
            have hx0 : (0 : Int) ≤ (x : Int) := Int.natCast_nonneg x
            clear hbx
            go_wp2_with fail
            go_round
            case rel => exact ⟨i + 1, by omega, by go_num⟩
            case measure => simp [intOf]; omega
        · go_wp2_with fail
          go_ret
          exact ⟨rfl, hB7⟩
end Go.Proofs.Yteeloebhjmmpdaa.Md
