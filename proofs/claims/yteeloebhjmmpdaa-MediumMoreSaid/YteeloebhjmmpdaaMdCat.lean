/- medium.Catch. -/
import Derived.Test.YteeloebhjmmpdaaMdRCat
namespace Go.Proofs.Yteeloebhjmmpdaa.Md
open Go.RowKit Go.Proofs.Yteeloebhjmmpdaa.Pl
set_option linter.unusedVariables false

theorem arr_step (n j : Nat) (f : Nat → Value) (z : Value) : (arr n fun x => if x < j then f x else z).setIfInBounds j (f j) = arr n fun x => if x < j + 1 then f x else z := by
  rw [arr_set]
  refine arr_congr fun x _ => ?_
  by_cases h : x = j
  · subst h; rw [if_pos rfl, if_pos (by omega)]
  · rw [if_neg h]
    by_cases h1 : x < j
    · rw [if_pos h1, if_pos (by omega)]
    · rw [if_neg h1, if_neg (by omega)]

set_option maxRecDepth 100000 in
set_option maxHeartbeats 2000000 in
theorem mdCatch_bad (A : Option Addr) (n c : Nat) (P : Option Addr) (n' d B : Nat) (J : Option Addr) (m e : Nat) (ra : List Ac) (ps : List Pt) (r : Int) (asn : Int) (hv : okm ra ps r asn = false) (w : World)
    (hR : Rd w B 5 A n (ra.flatMap decA)) (hP : Rd w B 2 P n' (ps.flatMap decP)) (hB : B ≤ w.heap.size) (hl : ra.length = n) (hm : ps.length = n') (hn : n ≤ maxLen) (hn' : n' ≤ maxLen) :
    Calls Try.prog 30 #[.slice A n c, .slice P n' d, i64 r, .slice J m e, i64 asn] w fun e w' => e = .returned (.tuple #[.slice none 0 0, i64 1]) ∧ Below w.heap.size w w' := by
  unfold maxLen at hn hn'
  rw [okm_frame, hl, hm] at hv
  cases hf : frame_ok n n' r asn
  · clear hv
    have hc := frame_cases hf
    clear hf hl hm hR hP
    rcases hc with h | ⟨rfl, h⟩ | ⟨rfl, h1, h⟩ | ⟨rfl, h1, h2, h⟩ | ⟨rfl, h1, h2, h3, h⟩ | ⟨rfl, h1, h2, h3, h4, h⟩
    all_goals
      go_enter Try.func30, Try.ntmps30
      go_wp2_with fail
      go_ret2
      exact ⟨rfl, Below.refl _ _⟩
  · rw [hf, Bool.true_and] at hv
    obtain ⟨rfl, h1, h2, h3, h4, h5⟩ := frame_true hf
    clear hf
    have HL := Lib.hid hl; clear hl
    have HM := Lib.hid hm; clear hm
    have HV := Lib.hid hv; clear hv
    go_enter Try.func30, Try.ntmps30
    go_wp2_with fail
    go_loopw [46] (fun i wr => ∃ k : Nat, k ≤ n ∧ i = .int .i64 k ∧ Hid ((List.range k).all (okR ra ps) = true) ∧ Below w.heap.size w wr) (fun i _ => n - (intOf i).toNat)
    case atStart => exact ⟨0, Nat.zero_le _, rfl, rfl, Below.refl _ _⟩
    case round =>
      obtain ⟨k, hk, rfl, HA, hb1⟩ := hrel
      by_cases hlt : k < n
      · have hkl : k < ra.length := by have := HL.out; omega
        have hkp : k < ps.length := by have := HM.out; omega
        obtain ⟨b, off, rfl, hb, hc1⟩ := rd_el (dec := decA) (fun _ => rfl) (hR.below' hb1 hB) HL.out hkl
        obtain ⟨q, qo, rfl, hq, hc3⟩ := rd_el (dec := decP) (fun _ => rfl) (hP.below' hb1 hB) HM.out hkp
        have hok : okR ra ps k = (okA ra[k] && vp ps[k]) := by unfold okR; rw [getD_of' hkl, getD_of' hkp]
        obtain ⟨⟨sa, sc, ss, sl, sh⟩, es⟩ : ∃ a, ra[k] = a := ⟨_, rfl⟩
        obtain ⟨⟨px, py⟩, ep⟩ : ∃ a, ps[k] = a := ⟨_, rfl⟩
        rw [es] at hc1 hok
        rw [ep] at hc3 hok
        clear es ep
        have c0 : wr.cell? ⟨b, off + k * 5, none⟩ = some (i64 sa) := hc1 0 _ rfl
        have c1 : wr.cell? ⟨b, off + k * 5 + 1, none⟩ = some (i64 sc) := hc1 1 _ rfl
        have c2 : wr.cell? ⟨b, off + k * 5 + 2, none⟩ = some (i64 ss) := hc1 2 _ rfl
        have c3 : wr.cell? ⟨b, off + k * 5 + 3, none⟩ = some (i64 sl) := hc1 3 _ rfl
        have c4 : wr.cell? ⟨b, off + k * 5 + 4, none⟩ = some (i64 sh) := hc1 4 _ rfl
        have b0 := Blk.new wr 55 #[i64 sa, i64 sc, i64 ss, i64 sl, i64 sh]
        have hB1 := hb1.alloc hb1.size (.cells #[i64 sa, i64 sc, i64 ss, i64 sl, i64 sh] 55)
        have hB0 := (Below.refl wr.heap.size wr).alloc (Nat.le_refl _) (.cells #[i64 sa, i64 sc, i64 ss, i64 sl, i64 sh] 55)
        obtain ⟨W1, hW⟩ : ∃ W1, W1 = wr.alloc (.cells #[i64 sa, i64 sc, i64 ss, i64 sl, i64 sh] 55) := ⟨_, rfl⟩
        rw [← hW] at hB1 b0 hB0
        have HW := Lib.hid hW; clear hW
        have B0 := Lib.hid b0; clear b0
        have f0 : ∀ s : WOf (Below W1.heap.size W1), s.w.cell? ⟨wr.heap.size, 0, none⟩ = some (i64 sa) := fun s => (B0.out.up' s.ok).cell 0
        have f1 : ∀ s : WOf (Below W1.heap.size W1), s.w.cell? ⟨wr.heap.size, 1, none⟩ = some (i64 sc) := fun s => (B0.out.up' s.ok).cell 1
        have f2 : ∀ s : WOf (Below W1.heap.size W1), s.w.cell? ⟨wr.heap.size, 2, none⟩ = some (i64 ss) := fun s => (B0.out.up' s.ok).cell 2
        have f3 : ∀ s : WOf (Below W1.heap.size W1), s.w.cell? ⟨wr.heap.size, 3, none⟩ = some (i64 sl) := fun s => (B0.out.up' s.ok).cell 3
        have f4 : ∀ s : WOf (Below W1.heap.size W1), s.w.cell? ⟨wr.heap.size, 4, none⟩ = some (i64 sh) := fun s => (B0.out.up' s.ok).cell 4
        have f5 : ∀ s : WOf (Below W1.heap.size W1), s.w.cell? ⟨q, qo + k * 2, none⟩ = some (i64 px) := fun s => cup (cup (hc3 0 _ rfl) hB0) s.ok
        have f6 : ∀ s : WOf (Below W1.heap.size W1), s.w.cell? ⟨q, qo + k * 2 + 1, none⟩ = some (i64 py) := fun s => cup (cup (hc3 1 _ rfl) hB0) s.ok
        have hup : ∀ a b, Below W1.heap.size W1 a → Below a.heap.size a b → Below W1.heap.size W1 b := fun a b h k => below_trans' h k
        obtain ⟨v, hv⟩ : ∃ v, (okA ⟨sa, sc, ss, sl, sh⟩ && vp (px, py)) = v := ⟨_, rfl⟩
        have IV := Lib.hid (fun W => isRadio_val ⟨sa, sc, ss, sl, sh⟩ (px, py) v hv W)
        rw [hv] at hok
        have HO := Lib.hid hok; clear hok hv hc1 hc3
        cases v
        · go_wp2_with fail
          rw [← HW.out]
          refine wp_region_ext (Below W1.heap.size W1) (Below.refl _ _) hup (by kernel_rfl) (by kernel_rfl) (fun hne => ?_)
          try simp only [List.append_eq, List.cons_append, List.nil_append]
          repeat (go_big_quiet_step (with_reducible exact calls_ext hup (IV.out _)))
          refine wpQuiet_nil ?_
          clear hne
          intro wx hx'
          obtain ⟨⟨_, hx⟩, hx''⟩ := hx'
          subst hx''
          go_wp2_with fail
          go_ret2
          exact ⟨rfl, below_trans' hB1 hx⟩
        · have HN : Hid ((List.range (k + 1)).all (okR ra ps) = true) := by show _ = _; rw [all_range_succ, HA.out, HO.out]; rfl
          go_wp2_with fail
          rw [← HW.out]
          refine wp_region_ext (Below W1.heap.size W1) (Below.refl _ _) hup (by kernel_rfl) (by kernel_rfl) (fun hne => ?_)
          try simp only [List.append_eq, List.cons_append, List.nil_append]
          repeat (go_big_quiet_step (with_reducible exact calls_ext hup (IV.out _)))
          refine wpQuiet_nil ?_
          clear hne
          intro wx hx'
          obtain ⟨⟨_, hx⟩, hx''⟩ := hx'
          subst hx''
          go_wp2_with fail
          go_roundw
          case rel => exact ⟨k + 1, by omega, by go_num, HN, below_trans' hB1 hx⟩
          case measure => simp [intOf]; omega
      · exfalso
        obtain rfl : k = n := by omega
        have := HV.out
        rw [HA.out] at this
        cases this
set_option maxRecDepth 100000 in
set_option maxHeartbeats 4000000 in
theorem mdCatch_good (A : Option Addr) (n c : Nat) (P : Option Addr) (d B : Nat) (J : Option Addr) (m e : Nat) (ra : List Ac) (ps : List Pt) (r : Int) (js : List Jm) (asn : Int) (hv : okm ra ps r asn = true) (w : World)
    (hR : Rd w B 5 A n (ra.flatMap decA)) (hP : Rd w B 2 P n (ps.flatMap decP)) (hJ : Rd w B 5 J m (js.flatMap decJ)) (hB : B ≤ w.heap.size) (hl : ra.length = n) (hm : ps.length = n) (hj : js.length = m) (hmm : m ≤ maxLen) :
    Calls Try.prog 30 #[.slice A n c, .slice P n d, i64 r, .slice J m e, i64 asn] w fun e w' => ∃ G, e = .returned (.tuple #[.slice (some ⟨G, 0, none⟩) n n, i64 0]) ∧ Rd w' w'.heap.size 1 (some ⟨G, 0, none⟩) n ((catl ra ps r js asn).map i64) ∧ Below w.heap.size w w' := by
  rw [okm_frame, hl, hm] at hv
  simp only [Bool.and_eq_true] at hv
  obtain ⟨hf, hv⟩ := hv
  obtain ⟨_, h1, h2, h3, h4, h5⟩ := frame_true hf
  clear hf
  have HJ := Lib.hid hj; clear hj
  obtain ⟨ib, hib, hz0, hz1, hz2⟩ := info_parts info_int
  have hmk := run_make1 (P := Try.prog) 46 3 ib _ Try.underlying46 hib hz0 hz1 rfl n (by rw [hz2]; omega) (by omega)
  have HL := Lib.hid hl; clear hl
  have HM := Lib.hid hm; clear hm
  have HV := Lib.hid hv; clear hv
  go_enter Try.func30, Try.ntmps30
  go_wp2_with fail
  go_loopw [46] (fun i wr => ∃ k : Nat, k ≤ n ∧ i = .int .i64 k ∧ Hid ((List.range k).all (okR ra ps) = true) ∧ Below w.heap.size w wr) (fun i _ => n - (intOf i).toNat)
  case atStart => exact ⟨0, Nat.zero_le _, rfl, rfl, Below.refl _ _⟩
  case round =>
    obtain ⟨k, hk, rfl, HA, hb1⟩ := hrel
    by_cases hlt : k < n
    · have hkl : k < ra.length := by have := HL.out; omega
      have hkp : k < ps.length := by have := HM.out; omega
      obtain ⟨b, off, rfl, hb, hc1⟩ := rd_el (dec := decA) (fun _ => rfl) (hR.below' hb1 hB) HL.out hkl
      obtain ⟨q, qo, rfl, hq, hc3⟩ := rd_el (dec := decP) (fun _ => rfl) (hP.below' hb1 hB) HM.out hkp
      have hok : okR ra ps k = (okA ra[k] && vp ps[k]) := by unfold okR; rw [getD_of' hkl, getD_of' hkp]
      obtain ⟨⟨sa, sc, ss, sl, sh⟩, es⟩ : ∃ a, ra[k] = a := ⟨_, rfl⟩
      obtain ⟨⟨px, py⟩, ep⟩ : ∃ a, ps[k] = a := ⟨_, rfl⟩
      rw [es] at hc1 hok
      rw [ep] at hc3 hok
      clear es ep
      have c0 : wr.cell? ⟨b, off + k * 5, none⟩ = some (i64 sa) := hc1 0 _ rfl
      have c1 : wr.cell? ⟨b, off + k * 5 + 1, none⟩ = some (i64 sc) := hc1 1 _ rfl
      have c2 : wr.cell? ⟨b, off + k * 5 + 2, none⟩ = some (i64 ss) := hc1 2 _ rfl
      have c3 : wr.cell? ⟨b, off + k * 5 + 3, none⟩ = some (i64 sl) := hc1 3 _ rfl
      have c4 : wr.cell? ⟨b, off + k * 5 + 4, none⟩ = some (i64 sh) := hc1 4 _ rfl
      have b0 := Blk.new wr 55 #[i64 sa, i64 sc, i64 ss, i64 sl, i64 sh]
      have hB1 := hb1.alloc hb1.size (.cells #[i64 sa, i64 sc, i64 ss, i64 sl, i64 sh] 55)
      have hB0 := (Below.refl wr.heap.size wr).alloc (Nat.le_refl _) (.cells #[i64 sa, i64 sc, i64 ss, i64 sl, i64 sh] 55)
      obtain ⟨W1, hW⟩ : ∃ W1, W1 = wr.alloc (.cells #[i64 sa, i64 sc, i64 ss, i64 sl, i64 sh] 55) := ⟨_, rfl⟩
      rw [← hW] at hB1 b0 hB0
      have HW := Lib.hid hW; clear hW
      have B0 := Lib.hid b0; clear b0
      have f0 : ∀ s : WOf (Below W1.heap.size W1), s.w.cell? ⟨wr.heap.size, 0, none⟩ = some (i64 sa) := fun s => (B0.out.up' s.ok).cell 0
      have f1 : ∀ s : WOf (Below W1.heap.size W1), s.w.cell? ⟨wr.heap.size, 1, none⟩ = some (i64 sc) := fun s => (B0.out.up' s.ok).cell 1
      have f2 : ∀ s : WOf (Below W1.heap.size W1), s.w.cell? ⟨wr.heap.size, 2, none⟩ = some (i64 ss) := fun s => (B0.out.up' s.ok).cell 2
      have f3 : ∀ s : WOf (Below W1.heap.size W1), s.w.cell? ⟨wr.heap.size, 3, none⟩ = some (i64 sl) := fun s => (B0.out.up' s.ok).cell 3
      have f4 : ∀ s : WOf (Below W1.heap.size W1), s.w.cell? ⟨wr.heap.size, 4, none⟩ = some (i64 sh) := fun s => (B0.out.up' s.ok).cell 4
      have f5 : ∀ s : WOf (Below W1.heap.size W1), s.w.cell? ⟨q, qo + k * 2, none⟩ = some (i64 px) := fun s => cup (cup (hc3 0 _ rfl) hB0) s.ok
      have f6 : ∀ s : WOf (Below W1.heap.size W1), s.w.cell? ⟨q, qo + k * 2 + 1, none⟩ = some (i64 py) := fun s => cup (cup (hc3 1 _ rfl) hB0) s.ok
      have hup : ∀ a b, Below W1.heap.size W1 a → Below a.heap.size a b → Below W1.heap.size W1 b := fun a b h k => below_trans' h k
      obtain ⟨v, hv2⟩ : ∃ v, (okA ⟨sa, sc, ss, sl, sh⟩ && vp (px, py)) = v := ⟨_, rfl⟩
      have IV := Lib.hid (fun W => isRadio_val ⟨sa, sc, ss, sl, sh⟩ (px, py) v hv2 W)
      rw [hv2] at hok
      have HO := Lib.hid hok; clear hok hv2 hc1 hc3
      have hvt : v = true := by
        have := List.all_eq_true.1 HV.out k (List.mem_range.2 hlt)
        rwa [HO.out] at this
      subst hvt
      have HN : Hid ((List.range (k + 1)).all (okR ra ps) = true) := by show _ = _; rw [all_range_succ, HA.out, HO.out]; rfl
      clear hmk
      go_wp2_with fail
      rw [← HW.out]
      refine wp_region_ext (Below W1.heap.size W1) (Below.refl _ _) hup (by kernel_rfl) (by kernel_rfl) (fun hne => ?_)
      try simp only [List.append_eq, List.cons_append, List.nil_append]
      repeat (go_big_quiet_step (with_reducible exact calls_ext hup (IV.out _)))
      refine wpQuiet_nil ?_
      clear hne
      intro wx hx'
      obtain ⟨⟨_, hx⟩, hx''⟩ := hx'
      subst hx''
      go_wp2_with fail
      go_roundw
      case rel => exact ⟨k + 1, by omega, by go_num, HN, below_trans' hB1 hx⟩
      case measure => simp [intOf]; omega
    · obtain rfl : k = n := by omega
      clear HA HV hlt hk
      go_wp2_with fail
      clear hmk
      obtain ⟨W1, hW⟩ : ∃ W1, W1 = (wr.alloc (.cells #[.slice A k c, .slice P k d, i64 r] 73)).alloc (.cells (arr k fun _ => .int .i64 0) 3) := ⟨_, rfl⟩
      have hs1 : W1.heap.size = wr.heap.size + 2 := by rw [hW]; simp
      have hbW : Below w.heap.size w W1 := by rw [hW]; exact (hb1.alloc hb1.size _).alloc (by simp; have := hb1.size; omega) _
      have bA : Blk W1 wr.heap.size 73 #[.slice A k c, .slice P k d, i64 r] := by rw [hW]; exact (Blk.new wr _ _).alloc _
      have bO : Blk W1 (wr.heap.size + 1) 3 (arr k fun x => if x < 0 then i64 (cat ra ps r js asn x) else i64 0) := by
        have := Blk.new (wr.alloc (.cells #[.slice A k c, .slice P k d, i64 r] 73)) 3 (arr k fun _ => .int .i64 0)
        rw [World.size_alloc] at this
        have e0 : (arr k fun x => if x < 0 then i64 (cat ra ps r js asn x) else i64 0) = arr k fun _ => .int .i64 0 := arr_congr (fun x _ => if_neg (by omega))
        rw [hW, e0]
        exact this
      have hSw := hb1.size
      rw [← hW]
      clear hW
      generalize wr.heap.size = S at *
      have BA := Lib.hid bA; clear bA
      have BO := Lib.hid bO; clear bO
      clear hb1 hs1
      go_loopw [68] (fun i w2 => ∃ j : Nat, j ≤ k ∧ i = .int .i64 j ∧ Hid (Blk w2 S 73 #[.slice A k c, .slice P k d, i64 r]) ∧ Hid (Blk w2 (S + 1) 3 (arr k fun x => if x < j then i64 (cat ra ps r js asn x) else i64 0)) ∧ Below w.heap.size w w2) (fun i _ => k - (intOf i).toNat)
      case atStart => exact ⟨0, Nat.zero_le _, rfl, BA, BO, hbW⟩
      case round =>
        clear BA BO hbW
        obtain ⟨j, hj, rfl, BA, BO, hb2⟩ := hrel
        have hlA := BA.out.lt
        have hlO := BO.out.lt
        by_cases hlt : j < k
        · have hjl : j < ra.length := by have := HL.out; omega
          have hjp : j < ps.length := by have := HM.out; omega
          obtain ⟨b, off, rfl, hb, hc1⟩ := rd_el (dec := decA) (fun _ => rfl) (hR.below' hb2 hB) HL.out hjl
          obtain ⟨q, qo, rfl, hq, hc3⟩ := rd_el (dec := decP) (fun _ => rfl) (hP.below' hb2 hB) HM.out hjp
          obtain ⟨z, hz⟩ : ∃ z, cat ra ps r js asn j = z := ⟨_, rfl⟩
          have hz' := hz
          unfold cat at hz'
          rw [getD_of' hjl, getD_of' hjp, HL.out] at hz'
          obtain ⟨⟨sa, sc, ss, sl, sh⟩, es⟩ : ∃ a, ra[j] = a := ⟨_, rfl⟩
          obtain ⟨⟨px, py⟩, ep⟩ : ∃ a, ps[j] = a := ⟨_, rfl⟩
          rw [es] at hc1 hz'
          rw [ep] at hc3 hz'
          dsimp only at hz'
          clear es ep
          have c0 : wr.cell? ⟨b, off + j * 5, none⟩ = some (i64 sa) := hc1 0 _ rfl
          have c1 : wr.cell? ⟨b, off + j * 5 + 1, none⟩ = some (i64 sc) := hc1 1 _ rfl
          have c2 : wr.cell? ⟨b, off + j * 5 + 2, none⟩ = some (i64 ss) := hc1 2 _ rfl
          have c3 : wr.cell? ⟨b, off + j * 5 + 3, none⟩ = some (i64 sl) := hc1 3 _ rfl
          have c4 : wr.cell? ⟨b, off + j * 5 + 4, none⟩ = some (i64 sh) := hc1 4 _ rfl
          have b0 := Blk.new wr 55 #[i64 sa, i64 sc, i64 ss, i64 sl, i64 sh]
          have hB1 := hb2.alloc hb2.size (.cells #[i64 sa, i64 sc, i64 ss, i64 sl, i64 sh] 55)
          have hB0 := (Below.refl wr.heap.size wr).alloc (Nat.le_refl _) (.cells #[i64 sa, i64 sc, i64 ss, i64 sl, i64 sh] 55)
          obtain ⟨W2, hW⟩ : ∃ W2, W2 = wr.alloc (.cells #[i64 sa, i64 sc, i64 ss, i64 sl, i64 sh] 55) := ⟨_, rfl⟩
          have HSt : Hid ((arr k fun x => if x < j then i64 (cat ra ps r js asn x) else i64 0).setIfInBounds j (i64 z) = arr k fun x => if x < j + 1 then i64 (cat ra ps r js asn x) else i64 0) := by show _ = _; rw [← hz]; exact arr_step k j (fun x => i64 (cat ra ps r js asn x)) _
          clear hz
          by_cases h1 : sa = 1
          · subst h1
            rw [if_pos rfl] at hz'
            rw [← hW] at hB1 b0 hB0
            have HW := Lib.hid hW; clear hW
            have B0 := Lib.hid b0; clear b0
            have f0 : ∀ s : WOf (Below W2.heap.size W2), s.w.cell? ⟨wr.heap.size, 0, none⟩ = some (i64 1) := fun s => (B0.out.up' s.ok).cell 0
            have f1 : ∀ s : WOf (Below W2.heap.size W2), s.w.cell? ⟨wr.heap.size, 1, none⟩ = some (i64 sc) := fun s => (B0.out.up' s.ok).cell 1
            have f5 : ∀ s : WOf (Below W2.heap.size W2), s.w.cell? ⟨q, qo + j * 2, none⟩ = some (i64 px) := fun s => cup (cup (hc3 0 _ rfl) hB0) s.ok
            have f6 : ∀ s : WOf (Below W2.heap.size W2), s.w.cell? ⟨q, qo + j * 2 + 1, none⟩ = some (i64 py) := fun s => cup (cup (hc3 1 _ rfl) hB0) s.ok
            have hup : ∀ a b, Below W2.heap.size W2 a → Below a.heap.size a b → Below W2.heap.size W2 b := fun a b h k => below_trans' h k
            obtain ⟨v, hv2⟩ : ∃ v, jammed js (px, py) sc asn = v := ⟨_, rfl⟩
            rw [hv2] at hz'
            have JV := Lib.hid (fun s : WOf (Below W2.heap.size W2) => jammed_val J m e B js px py sc asn v hv2 s.w (hJ.below' (below_trans' hB1 s.ok) hB) (Nat.le_trans hB (below_trans' hB1 s.ok).size) HJ.out hmm)
            clear hv2 hc1 hc3
            cases v
            · have HZ : Hid (pick ra j (Hm ra ps r j k) = z) := Lib.hid (by simpa using hz')
              clear hz'
              go_wp2_with fail
              rw [← HW.out]
              refine wp_region_ext (Below W2.heap.size W2) (Below.refl _ _) hup (by kernel_rfl) (by kernel_rfl) (fun hne => ?_)
              try simp only [List.append_eq, List.cons_append, List.nil_append]
              repeat (go_big_quiet_step (with_reducible exact calls_ext hup (JV.out _)))
              refine wpQuiet_nil ?_
              clear hne
              intro wx hx'
              obtain ⟨⟨_, hx⟩, hx''⟩ := hx'
              subst hx''
              have hBx := below_trans' hB1 hx
              have a0 : wx.cell? ⟨S, 0, none⟩ = some (.slice (some ⟨b, off, none⟩) k c) := ((BA.out.up' hB0).up' hx).cell 0
              have a1 : wx.cell? ⟨S, 1, none⟩ = some (.slice (some ⟨q, qo, none⟩) k d) := ((BA.out.up' hB0).up' hx).cell 1
              have a2 : wx.cell? ⟨S, 2, none⟩ = some (i64 r) := ((BA.out.up' hB0).up' hx).cell 2
              clear JV f0 f1 f5 f6 c0 c1 c2 c3 c4
              go_wp2_with fail
              have hRx := (hR.below' hBx hB).more (Nat.le_trans hB hBx.size)
              have hPx := (hP.below' hBx hB).more (Nat.le_trans hB hBx.size)
              refine (callsIn_wide.1 (catch_in _ _ k c d j ra ps r z HZ.out (by omega) HL.out HM.out hlt _ hRx hPx)).mono ?_
              rintro e w3 ⟨rfl, hb3⟩
              have hB3 := below_trans' hBx hb3
              have BA3 := Lib.hid (((BA.out.up' hB0).up' hx).up' hb3)
              have BO3 := Lib.hid (((BO.out.up' hB0).up' hx).up' hb3)
              have o0 : w3.cell? ⟨S + 1, j, none⟩ = some (i64 0) := by rw [BO3.out.cell, arr_at _ hlt, if_neg (by omega)]
              have o1 : w3.frozen? ⟨S + 1, j, none⟩ = false := BO3.out.frozen j
              have BO4 := Lib.hid (BO3.out.set_ j (i64 z))
              rw [HSt.out] at BO4
              have BA4 := Lib.hid (BA3.out.far (p := ⟨S + 1, j, none⟩) (by show S ≠ S + 1; omega) (i64 z))
              have hB4 := hB3.setCell (p := ⟨S + 1, j, none⟩) (by show w.heap.size ≤ S + 1; omega) (i64 z)
              clear a0 a1 a2
              go_wp2_with fail
              go_roundw
              case rel => exact ⟨j + 1, by omega, by go_num, BA4, BO4, hB4⟩
              case measure => simp [intOf]; omega
            · obtain rfl : z = -2 := by simpa using hz'.symm
              clear hz'
              go_wp2_with fail
              rw [← HW.out]
              refine wp_region_ext (Below W2.heap.size W2) (Below.refl _ _) hup (by kernel_rfl) (by kernel_rfl) (fun hne => ?_)
              try simp only [List.append_eq, List.cons_append, List.nil_append]
              repeat (go_big_quiet_step (with_reducible exact calls_ext hup (JV.out _)))
              refine wpQuiet_nil ?_
              clear hne
              intro wx hx'
              obtain ⟨⟨_, hx⟩, hx''⟩ := hx'
              subst hx''
              have hBx := below_trans' hB1 hx
              have BA3 := Lib.hid ((BA.out.up' hB0).up' hx)
              have BO3 := Lib.hid ((BO.out.up' hB0).up' hx)
              have o0 : wx.cell? ⟨S + 1, j, none⟩ = some (i64 0) := by rw [BO3.out.cell, arr_at _ hlt, if_neg (by omega)]
              have o1 : wx.frozen? ⟨S + 1, j, none⟩ = false := BO3.out.frozen j
              have BO4 := Lib.hid (BO3.out.set_ j (i64 (-2)))
              rw [HSt.out] at BO4
              have BA4 := Lib.hid (BA3.out.far (p := ⟨S + 1, j, none⟩) (by show S ≠ S + 1; omega) (i64 (-2)))
              have hB4 := hBx.setCell (p := ⟨S + 1, j, none⟩) (by show w.heap.size ≤ S + 1; omega) (i64 (-2))
              clear JV f0 f1 f5 f6 c0 c1 c2 c3 c4
              go_wp2_with fail
              go_roundw
              case rel => exact ⟨j + 1, by omega, by go_num, BA4, BO4, hB4⟩
              case measure => simp [intOf]; omega
          · obtain rfl : z = -1 := by rw [← hz', if_neg h1]
            have k1 : (sa != 1) = true := by rw [bne_iff_ne]; exact h1
            have o0 : wr.cell? ⟨S + 1, j, none⟩ = some (i64 0) := by rw [BO.out.cell, arr_at _ hlt, if_neg (by omega)]
            have o1 : wr.frozen? ⟨S + 1, j, none⟩ = false := BO.out.frozen j
            have BO3 := BO.out.set_ j (i64 (-1))
            rw [HSt.out] at BO3
            have BO4 := Lib.hid (BO3.alloc (.cells #[i64 sa, i64 sc, i64 ss, i64 sl, i64 sh] 55))
            have BA4 := Lib.hid ((BA.out.far (p := ⟨S + 1, j, none⟩) (by show S ≠ S + 1; omega) (i64 (-1))).alloc (.cells #[i64 sa, i64 sc, i64 ss, i64 sl, i64 sh] 55))
            have hB4 := (hb2.setCell (p := ⟨S + 1, j, none⟩) (by show w.heap.size ≤ S + 1; omega) (i64 (-1))).alloc (by simpa [World.setCell] using hb2.size) (.cells #[i64 sa, i64 sc, i64 ss, i64 sl, i64 sh] 55)
            clear BO3
            clear hz' h1 hW hc1 hc3
            go_wp2_with fail
            go_roundw
            case rel => exact ⟨j + 1, by omega, by go_num, BA4, BO4, hB4⟩
            case measure => simp [intOf]; omega
        · obtain rfl : j = k := by omega
          have HR := Lib.hid (rd_arr BO.out)
          have HC : Hid ((List.range j).map (fun x => if x < j then i64 (cat ra ps r js asn x) else i64 0) = (catl ra ps r js asn).map i64) := by
            show _ = _
            unfold catl
            rw [HL.out, List.map_map]
            exact List.map_congr_left fun x hx => if_pos (List.mem_range.1 hx)
          clear BO BA
          go_wp2_with fail
          go_ret2
          exact ⟨S + 1, rfl, by rw [← HC.out]; exact HR.out, hb2⟩
end Go.Proofs.Yteeloebhjmmpdaa.Md
