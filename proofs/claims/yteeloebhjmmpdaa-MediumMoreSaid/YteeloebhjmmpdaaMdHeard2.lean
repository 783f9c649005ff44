/- The walk of the law's own function that says whether a radio is heard by another one. -/
import Derived.Test.YteeloebhjmmpdaaMdHeard
namespace Go.Proofs.Yteeloebhjmmpdaa.Md
open Go.RowKit Go.Proofs.Yteeloebhjmmpdaa.Pl
set_option linter.unusedVariables false

theorem two_boxes (w : World) (t s : TypeId) (cs ds : Array Value) : Blk ((w.alloc (.cells cs t)).alloc (.cells ds s)).drew w.heap.size t cs ∧ Blk ((w.alloc (.cells cs t)).alloc (.cells ds s)).drew (w.heap.size + 1) s ds ∧ Below w.heap.size w ((w.alloc (.cells cs t)).alloc (.cells ds s)).drew := by
  refine ⟨((Blk.new w t cs).alloc _).drew, ?_, (((Below.refl _ w).alloc (Nat.le_refl _) _).alloc (by simp) _).drew⟩
  have := Blk.new (w.alloc (.cells cs t)) s ds
  rw [World.size_alloc] at this
  exact this.drew

set_option maxRecDepth 100000 in
set_option maxHeartbeats 1000000 in
theorem lawHeard_val (A : Option Addr) (n c : Nat) (P : Option Addr) (d B : Nat) (ra : List Ac) (ps : List Pt) (r : Int) (k i : Nat) (v : Bool) (hv : hkd ra ps r i k = v) (hk : k < n) (hi : i < n) (w : World)
    (hR : Rd w B 5 A n (ra.flatMap decA)) (hP : Rd w B 2 P n (ps.flatMap decP)) (hB : B ≤ w.heap.size) (hl : ra.length = n) (hm : ps.length = n) (hn : n ≤ 210) :
    Calls Try.prog 33 #[.slice A n c, .slice P n d, i64 r, i64 k, i64 i] w fun e w' => e = .returned (.bool v) ∧ Below w.heap.size w w' := by
  have hkl : k < ra.length := by omega
  have hil : i < ra.length := by omega
  have hkp : k < ps.length := by omega
  have hip : i < ps.length := by omega
  obtain ⟨b, off, rfl, hb, hc1⟩ := rd_el (dec := decA) (fun _ => rfl) hR hl hkl
  obtain ⟨b', off', e, _, hc2⟩ := rd_el (dec := decA) (fun _ => rfl) hR hl hil
  simp only [Option.some.injEq, Addr.mk.injEq, and_true] at e
  obtain ⟨rfl, rfl⟩ := e
  obtain ⟨q, qo, rfl, hq, hc3⟩ := rd_el (dec := decP) (fun _ => rfl) hP hm hkp
  obtain ⟨q', qo', e, _, hc4⟩ := rd_el (dec := decP) (fun _ => rfl) hP hm hip
  simp only [Option.some.injEq, Addr.mk.injEq, and_true] at e
  obtain ⟨rfl, rfl⟩ := e
  unfold hkd at hv
  rw [getD_of hkl, getD_of hil, getD_of hkp, getD_of hip] at hv
  obtain ⟨⟨sa, sc, ss, sl, sh⟩, es⟩ : ∃ a, ra[k] = a := ⟨_, rfl⟩
  obtain ⟨⟨la, lc, ls, ll, lh⟩, el⟩ : ∃ a, ra[i] = a := ⟨_, rfl⟩
  obtain ⟨⟨px, py⟩, ep⟩ : ∃ a, ps[k] = a := ⟨_, rfl⟩
  obtain ⟨⟨ox, oy⟩, eo⟩ : ∃ a, ps[i] = a := ⟨_, rfl⟩
  rw [es] at hc1 hv
  rw [el] at hc2 hv
  rw [ep] at hc3 hv
  rw [eo] at hc4 hv
  clear es el ep eo
  have c0 : w.cell? ⟨b, off + k * 5, none⟩ = some (i64 sa) := hc1 0 _ rfl
  have c1 : w.cell? ⟨b, off + k * 5 + 1, none⟩ = some (i64 sc) := hc1 1 _ rfl
  have c2 : w.cell? ⟨b, off + k * 5 + 2, none⟩ = some (i64 ss) := hc1 2 _ rfl
  have c3 : w.cell? ⟨b, off + k * 5 + 3, none⟩ = some (i64 sl) := hc1 3 _ rfl
  have c4 : w.cell? ⟨b, off + k * 5 + 4, none⟩ = some (i64 sh) := hc1 4 _ rfl
  have d0 : w.cell? ⟨b, off + i * 5, none⟩ = some (i64 la) := hc2 0 _ rfl
  have d1 : w.cell? ⟨b, off + i * 5 + 1, none⟩ = some (i64 lc) := hc2 1 _ rfl
  have d2 : w.cell? ⟨b, off + i * 5 + 2, none⟩ = some (i64 ls) := hc2 2 _ rfl
  have d3 : w.cell? ⟨b, off + i * 5 + 3, none⟩ = some (i64 ll) := hc2 3 _ rfl
  have d4 : w.cell? ⟨b, off + i * 5 + 4, none⟩ = some (i64 lh) := hc2 4 _ rfl
  have g0 : w.cell? ⟨q, qo + k * 2, none⟩ = some (i64 px) := hc3 0 _ rfl
  have g1 : w.cell? ⟨q, qo + k * 2 + 1, none⟩ = some (i64 py) := hc3 1 _ rfl
  have g2 : w.cell? ⟨q, qo + i * 2, none⟩ = some (i64 ox) := hc4 0 _ rfl
  have g3 : w.cell? ⟨q, qo + i * 2 + 1, none⟩ = some (i64 oy) := hc4 1 _ rfl
  have hcase : (v = false ∧ (sa == 2) = false) ∨ (v = false ∧ sa = 2 ∧ (la == 1) = false) ∨ (v = false ∧ sa = 2 ∧ la = 1 ∧ (sc == lc) = false) ∨ (sa = 2 ∧ la = 1 ∧ sc = lc ∧ near (px, py) (ox, oy) r = v) := by
    unfold hrd at hv
    dsimp only at hv
    by_cases h1 : sa = 2
    · by_cases h2 : la = 1
      · by_cases h3 : sc = lc
        · exact .inr (.inr (.inr ⟨h1, h2, h3, by rw [← hv]; simp [h1, h2, h3]⟩))
        · exact .inr (.inr (.inl ⟨by rw [← hv]; simp [h3], h1, h2, by rw [beq_eq_false_iff_ne]; exact h3⟩))
      · exact .inr (.inl ⟨by rw [← hv]; simp [h2], h1, by rw [beq_eq_false_iff_ne]; exact h2⟩)
    · exact .inl ⟨by rw [← hv]; simp [h1], by rw [beq_eq_false_iff_ne]; exact h1⟩
  clear hv hc1 hc2 hc3 hc4 hR hP
  rcases hcase with ⟨rfl, e1⟩ | ⟨rfl, rfl, e1⟩ | ⟨rfl, rfl, rfl, e1⟩ | ⟨rfl, rfl, rfl, hnr⟩
  · go_enter Try.func33, Try.ntmps33
    go_upto_region 1 with fail
    go_cut [11, 12] (fun s11 s12 wx => ∃ g h : Nat, s11 = .pointer (some ⟨g, 0, none⟩) ∧ s12 = .pointer (some ⟨h, 0, none⟩) ∧ Hid (Blk wx g 55 #[i64 sa, i64 sc, i64 ss, i64 sl, i64 sh]) ∧ Hid (Blk wx h 55 #[i64 la, i64 lc, i64 ls, i64 ll, i64 lh]) ∧ Below w.heap.size w wx)
    case first =>
      go_region_held3 (fun w' => w'.cell? ⟨b, off + k * 5, none⟩ = some (i64 sa) ∧ w'.cell? ⟨b, off + k * 5 + 1, none⟩ = some (i64 sc) ∧ w'.cell? ⟨b, off + k * 5 + 2, none⟩ = some (i64 ss) ∧ w'.cell? ⟨b, off + k * 5 + 3, none⟩ = some (i64 sl) ∧ w'.cell? ⟨b, off + k * 5 + 4, none⟩ = some (i64 sh) ∧ w'.cell? ⟨b, off + i * 5, none⟩ = some (i64 la) ∧ w'.cell? ⟨b, off + i * 5 + 1, none⟩ = some (i64 lc) ∧ w'.cell? ⟨b, off + i * 5 + 2, none⟩ = some (i64 ls) ∧ w'.cell? ⟨b, off + i * 5 + 3, none⟩ = some (i64 ll) ∧ w'.cell? ⟨b, off + i * 5 + 4, none⟩ = some (i64 lh)) (go_keep) (fail)
      all_goals
        go_wp2_with fail
        go_meet
        first
        | exact ⟨w.heap.size, w.heap.size + 1, rfl, rfl, (two_boxes w _ _ _ _).1, (two_boxes w _ _ _ _).2.1, (two_boxes w _ _ _ _).2.2⟩
        | exact ⟨w.heap.size + 1, w.heap.size, rfl, rfl, (two_boxes w _ _ _ _).2.1, (two_boxes w _ _ _ _).1, (two_boxes w _ _ _ _).2.2⟩
    case rest =>
      obtain ⟨g, h, rfl, rfl, B1, B2, hB2⟩ := hcut
      have f0 : ∀ s : WOf (Below wc.heap.size wc), s.w.cell? ⟨g, 0, none⟩ = some (i64 sa) := fun s => (B1.out.up' s.ok).cell 0
      have f1 : ∀ s : WOf (Below wc.heap.size wc), s.w.cell? ⟨g, 1, none⟩ = some (i64 sc) := fun s => (B1.out.up' s.ok).cell 1
      have f2 : ∀ s : WOf (Below wc.heap.size wc), s.w.cell? ⟨h, 0, none⟩ = some (i64 la) := fun s => (B2.out.up' s.ok).cell 0
      have f3 : ∀ s : WOf (Below wc.heap.size wc), s.w.cell? ⟨h, 1, none⟩ = some (i64 lc) := fun s => (B2.out.up' s.ok).cell 1
      have f4 : ∀ s : WOf (Below wc.heap.size wc), s.w.cell? ⟨q, qo + k * 2, none⟩ = some (i64 px) := fun s => cup (cup g0 hB2) s.ok
      have f5 : ∀ s : WOf (Below wc.heap.size wc), s.w.cell? ⟨q, qo + k * 2 + 1, none⟩ = some (i64 py) := fun s => cup (cup g1 hB2) s.ok
      have f6 : ∀ s : WOf (Below wc.heap.size wc), s.w.cell? ⟨q, qo + i * 2, none⟩ = some (i64 ox) := fun s => cup (cup g2 hB2) s.ok
      have f7 : ∀ s : WOf (Below wc.heap.size wc), s.w.cell? ⟨q, qo + i * 2 + 1, none⟩ = some (i64 oy) := fun s => cup (cup g3 hB2) s.ok
      have hup : ∀ a b, Below wc.heap.size wc a → Below a.heap.size a b → Below wc.heap.size wc b := fun a b h k => below_trans' h k
      clear c0 c1 c2 c3 c4 d0 d1 d2 d3 d4 g0 g1 g2 g3
      go_wp2_with fail
      refine wp_region_ext (Below wc.heap.size wc) (Below.refl _ _) hup (by kernel_rfl) (by kernel_rfl) (fun hne => ?_)
      try simp only [List.append_eq, List.cons_append, List.nil_append]
      repeat (go_big_quiet_step (fail))
      refine wpQuiet_nil ?_
      clear hne
      intro _ hx'
      obtain ⟨⟨wx, hx⟩, hx''⟩ := hx'
      subst hx''
      go_wp2_with fail
      go_ret
      exact ⟨rfl, hB2.trans (hx.mono hB2.size)⟩
  · go_enter Try.func33, Try.ntmps33
    go_upto_region 1 with fail
    go_cut [11, 12] (fun s11 s12 wx => ∃ g h : Nat, s11 = .pointer (some ⟨g, 0, none⟩) ∧ s12 = .pointer (some ⟨h, 0, none⟩) ∧ Hid (Blk wx g 55 #[i64 2, i64 sc, i64 ss, i64 sl, i64 sh]) ∧ Hid (Blk wx h 55 #[i64 la, i64 lc, i64 ls, i64 ll, i64 lh]) ∧ Below w.heap.size w wx)
    case first =>
      go_region_held3 (fun w' => w'.cell? ⟨b, off + k * 5, none⟩ = some (i64 2) ∧ w'.cell? ⟨b, off + k * 5 + 1, none⟩ = some (i64 sc) ∧ w'.cell? ⟨b, off + k * 5 + 2, none⟩ = some (i64 ss) ∧ w'.cell? ⟨b, off + k * 5 + 3, none⟩ = some (i64 sl) ∧ w'.cell? ⟨b, off + k * 5 + 4, none⟩ = some (i64 sh) ∧ w'.cell? ⟨b, off + i * 5, none⟩ = some (i64 la) ∧ w'.cell? ⟨b, off + i * 5 + 1, none⟩ = some (i64 lc) ∧ w'.cell? ⟨b, off + i * 5 + 2, none⟩ = some (i64 ls) ∧ w'.cell? ⟨b, off + i * 5 + 3, none⟩ = some (i64 ll) ∧ w'.cell? ⟨b, off + i * 5 + 4, none⟩ = some (i64 lh)) (go_keep) (fail)
      all_goals
        go_wp2_with fail
        go_meet
        first
        | exact ⟨w.heap.size, w.heap.size + 1, rfl, rfl, (two_boxes w _ _ _ _).1, (two_boxes w _ _ _ _).2.1, (two_boxes w _ _ _ _).2.2⟩
        | exact ⟨w.heap.size + 1, w.heap.size, rfl, rfl, (two_boxes w _ _ _ _).2.1, (two_boxes w _ _ _ _).1, (two_boxes w _ _ _ _).2.2⟩
    case rest =>
      obtain ⟨g, h, rfl, rfl, B1, B2, hB2⟩ := hcut
      have f0 : ∀ s : WOf (Below wc.heap.size wc), s.w.cell? ⟨g, 0, none⟩ = some (i64 2) := fun s => (B1.out.up' s.ok).cell 0
      have f1 : ∀ s : WOf (Below wc.heap.size wc), s.w.cell? ⟨g, 1, none⟩ = some (i64 sc) := fun s => (B1.out.up' s.ok).cell 1
      have f2 : ∀ s : WOf (Below wc.heap.size wc), s.w.cell? ⟨h, 0, none⟩ = some (i64 la) := fun s => (B2.out.up' s.ok).cell 0
      have f3 : ∀ s : WOf (Below wc.heap.size wc), s.w.cell? ⟨h, 1, none⟩ = some (i64 lc) := fun s => (B2.out.up' s.ok).cell 1
      have f4 : ∀ s : WOf (Below wc.heap.size wc), s.w.cell? ⟨q, qo + k * 2, none⟩ = some (i64 px) := fun s => cup (cup g0 hB2) s.ok
      have f5 : ∀ s : WOf (Below wc.heap.size wc), s.w.cell? ⟨q, qo + k * 2 + 1, none⟩ = some (i64 py) := fun s => cup (cup g1 hB2) s.ok
      have f6 : ∀ s : WOf (Below wc.heap.size wc), s.w.cell? ⟨q, qo + i * 2, none⟩ = some (i64 ox) := fun s => cup (cup g2 hB2) s.ok
      have f7 : ∀ s : WOf (Below wc.heap.size wc), s.w.cell? ⟨q, qo + i * 2 + 1, none⟩ = some (i64 oy) := fun s => cup (cup g3 hB2) s.ok
      have hup : ∀ a b, Below wc.heap.size wc a → Below a.heap.size a b → Below wc.heap.size wc b := fun a b h k => below_trans' h k
      clear c0 c1 c2 c3 c4 d0 d1 d2 d3 d4 g0 g1 g2 g3
      go_wp2_with fail
      refine wp_region_ext (Below wc.heap.size wc) (Below.refl _ _) hup (by kernel_rfl) (by kernel_rfl) (fun hne => ?_)
      try simp only [List.append_eq, List.cons_append, List.nil_append]
      repeat (go_big_quiet_step (fail))
      refine wpQuiet_nil ?_
      clear hne
      intro _ hx'
      obtain ⟨⟨wx, hx⟩, hx''⟩ := hx'
      subst hx''
      go_wp2_with fail
      go_ret
      exact ⟨rfl, hB2.trans (hx.mono hB2.size)⟩
  · go_enter Try.func33, Try.ntmps33
    go_upto_region 1 with fail
    go_cut [11, 12] (fun s11 s12 wx => ∃ g h : Nat, s11 = .pointer (some ⟨g, 0, none⟩) ∧ s12 = .pointer (some ⟨h, 0, none⟩) ∧ Hid (Blk wx g 55 #[i64 2, i64 sc, i64 ss, i64 sl, i64 sh]) ∧ Hid (Blk wx h 55 #[i64 1, i64 lc, i64 ls, i64 ll, i64 lh]) ∧ Below w.heap.size w wx)
    case first =>
      go_region_held3 (fun w' => w'.cell? ⟨b, off + k * 5, none⟩ = some (i64 2) ∧ w'.cell? ⟨b, off + k * 5 + 1, none⟩ = some (i64 sc) ∧ w'.cell? ⟨b, off + k * 5 + 2, none⟩ = some (i64 ss) ∧ w'.cell? ⟨b, off + k * 5 + 3, none⟩ = some (i64 sl) ∧ w'.cell? ⟨b, off + k * 5 + 4, none⟩ = some (i64 sh) ∧ w'.cell? ⟨b, off + i * 5, none⟩ = some (i64 1) ∧ w'.cell? ⟨b, off + i * 5 + 1, none⟩ = some (i64 lc) ∧ w'.cell? ⟨b, off + i * 5 + 2, none⟩ = some (i64 ls) ∧ w'.cell? ⟨b, off + i * 5 + 3, none⟩ = some (i64 ll) ∧ w'.cell? ⟨b, off + i * 5 + 4, none⟩ = some (i64 lh)) (go_keep) (fail)
      all_goals
        go_wp2_with fail
        go_meet
        first
        | exact ⟨w.heap.size, w.heap.size + 1, rfl, rfl, (two_boxes w _ _ _ _).1, (two_boxes w _ _ _ _).2.1, (two_boxes w _ _ _ _).2.2⟩
        | exact ⟨w.heap.size + 1, w.heap.size, rfl, rfl, (two_boxes w _ _ _ _).2.1, (two_boxes w _ _ _ _).1, (two_boxes w _ _ _ _).2.2⟩
    case rest =>
      obtain ⟨g, h, rfl, rfl, B1, B2, hB2⟩ := hcut
      have f0 : ∀ s : WOf (Below wc.heap.size wc), s.w.cell? ⟨g, 0, none⟩ = some (i64 2) := fun s => (B1.out.up' s.ok).cell 0
      have f1 : ∀ s : WOf (Below wc.heap.size wc), s.w.cell? ⟨g, 1, none⟩ = some (i64 sc) := fun s => (B1.out.up' s.ok).cell 1
      have f2 : ∀ s : WOf (Below wc.heap.size wc), s.w.cell? ⟨h, 0, none⟩ = some (i64 1) := fun s => (B2.out.up' s.ok).cell 0
      have f3 : ∀ s : WOf (Below wc.heap.size wc), s.w.cell? ⟨h, 1, none⟩ = some (i64 lc) := fun s => (B2.out.up' s.ok).cell 1
      have f4 : ∀ s : WOf (Below wc.heap.size wc), s.w.cell? ⟨q, qo + k * 2, none⟩ = some (i64 px) := fun s => cup (cup g0 hB2) s.ok
      have f5 : ∀ s : WOf (Below wc.heap.size wc), s.w.cell? ⟨q, qo + k * 2 + 1, none⟩ = some (i64 py) := fun s => cup (cup g1 hB2) s.ok
      have f6 : ∀ s : WOf (Below wc.heap.size wc), s.w.cell? ⟨q, qo + i * 2, none⟩ = some (i64 ox) := fun s => cup (cup g2 hB2) s.ok
      have f7 : ∀ s : WOf (Below wc.heap.size wc), s.w.cell? ⟨q, qo + i * 2 + 1, none⟩ = some (i64 oy) := fun s => cup (cup g3 hB2) s.ok
      have hup : ∀ a b, Below wc.heap.size wc a → Below a.heap.size a b → Below wc.heap.size wc b := fun a b h k => below_trans' h k
      clear c0 c1 c2 c3 c4 d0 d1 d2 d3 d4 g0 g1 g2 g3
      go_wp2_with fail
      refine wp_region_ext (Below wc.heap.size wc) (Below.refl _ _) hup (by kernel_rfl) (by kernel_rfl) (fun hne => ?_)
      try simp only [List.append_eq, List.cons_append, List.nil_append]
      repeat (go_big_quiet_step (fail))
      refine wpQuiet_nil ?_
      clear hne
      intro _ hx'
      obtain ⟨⟨wx, hx⟩, hx''⟩ := hx'
      subst hx''
      go_wp2_with fail
      go_ret
      exact ⟨rfl, hB2.trans (hx.mono hB2.size)⟩
  · have NV := Lib.hid (fun W => near_val px py ox oy r v hnr W)
    clear hnr
    go_enter Try.func33, Try.ntmps33
    go_upto_region 1 with fail
    go_cut [11, 12] (fun s11 s12 wx => ∃ g h : Nat, s11 = .pointer (some ⟨g, 0, none⟩) ∧ s12 = .pointer (some ⟨h, 0, none⟩) ∧ Hid (Blk wx g 55 #[i64 2, i64 sc, i64 ss, i64 sl, i64 sh]) ∧ Hid (Blk wx h 55 #[i64 1, i64 sc, i64 ls, i64 ll, i64 lh]) ∧ Below w.heap.size w wx)
    case first =>
      go_region_held3 (fun w' => w'.cell? ⟨b, off + k * 5, none⟩ = some (i64 2) ∧ w'.cell? ⟨b, off + k * 5 + 1, none⟩ = some (i64 sc) ∧ w'.cell? ⟨b, off + k * 5 + 2, none⟩ = some (i64 ss) ∧ w'.cell? ⟨b, off + k * 5 + 3, none⟩ = some (i64 sl) ∧ w'.cell? ⟨b, off + k * 5 + 4, none⟩ = some (i64 sh) ∧ w'.cell? ⟨b, off + i * 5, none⟩ = some (i64 1) ∧ w'.cell? ⟨b, off + i * 5 + 1, none⟩ = some (i64 sc) ∧ w'.cell? ⟨b, off + i * 5 + 2, none⟩ = some (i64 ls) ∧ w'.cell? ⟨b, off + i * 5 + 3, none⟩ = some (i64 ll) ∧ w'.cell? ⟨b, off + i * 5 + 4, none⟩ = some (i64 lh)) (go_keep) (fail)
      all_goals
        go_wp2_with fail
        go_meet
        first
        | exact ⟨w.heap.size, w.heap.size + 1, rfl, rfl, (two_boxes w _ _ _ _).1, (two_boxes w _ _ _ _).2.1, (two_boxes w _ _ _ _).2.2⟩
        | exact ⟨w.heap.size + 1, w.heap.size, rfl, rfl, (two_boxes w _ _ _ _).2.1, (two_boxes w _ _ _ _).1, (two_boxes w _ _ _ _).2.2⟩
    case rest =>
      obtain ⟨g, h, rfl, rfl, B1, B2, hB2⟩ := hcut
      have f0 : ∀ s : WOf (Below wc.heap.size wc), s.w.cell? ⟨g, 0, none⟩ = some (i64 2) := fun s => (B1.out.up' s.ok).cell 0
      have f1 : ∀ s : WOf (Below wc.heap.size wc), s.w.cell? ⟨g, 1, none⟩ = some (i64 sc) := fun s => (B1.out.up' s.ok).cell 1
      have f2 : ∀ s : WOf (Below wc.heap.size wc), s.w.cell? ⟨h, 0, none⟩ = some (i64 1) := fun s => (B2.out.up' s.ok).cell 0
      have f3 : ∀ s : WOf (Below wc.heap.size wc), s.w.cell? ⟨h, 1, none⟩ = some (i64 sc) := fun s => (B2.out.up' s.ok).cell 1
      have f4 : ∀ s : WOf (Below wc.heap.size wc), s.w.cell? ⟨q, qo + k * 2, none⟩ = some (i64 px) := fun s => cup (cup g0 hB2) s.ok
      have f5 : ∀ s : WOf (Below wc.heap.size wc), s.w.cell? ⟨q, qo + k * 2 + 1, none⟩ = some (i64 py) := fun s => cup (cup g1 hB2) s.ok
      have f6 : ∀ s : WOf (Below wc.heap.size wc), s.w.cell? ⟨q, qo + i * 2, none⟩ = some (i64 ox) := fun s => cup (cup g2 hB2) s.ok
      have f7 : ∀ s : WOf (Below wc.heap.size wc), s.w.cell? ⟨q, qo + i * 2 + 1, none⟩ = some (i64 oy) := fun s => cup (cup g3 hB2) s.ok
      have hup : ∀ a b, Below wc.heap.size wc a → Below a.heap.size a b → Below wc.heap.size wc b := fun a b h k => below_trans' h k
      clear c0 c1 c2 c3 c4 d0 d1 d2 d3 d4 g0 g1 g2 g3
      go_wp2_with fail
      refine wp_region_ext (Below wc.heap.size wc) (Below.refl _ _) hup (by kernel_rfl) (by kernel_rfl) (fun hne => ?_)
      try simp only [List.append_eq, List.cons_append, List.nil_append]
      repeat (go_big_quiet_step (with_reducible exact calls_ext hup (NV.out _)))
      refine wpQuiet_nil ?_
      clear hne
      intro _ hx'
      obtain ⟨⟨wx, hx⟩, hx''⟩ := hx'
      subst hx''
      go_wp2_with fail
      go_ret
      exact ⟨rfl, hB2.trans (hx.mono hB2.size)⟩
end Go.Proofs.Yteeloebhjmmpdaa.Md
