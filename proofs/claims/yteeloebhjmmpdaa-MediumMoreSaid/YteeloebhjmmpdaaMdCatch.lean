/- medium's catch: what a listening radio catches. -/
import Derived.Test.YteeloebhjmmpdaaPlHears
import Derived.Test.YteeloebhjmmpdaaMdIter
namespace Go.Proofs.Yteeloebhjmmpdaa.Md
open Go.RowKit Go.Shelf Go.Proofs.Yteeloebhjmmpdaa.Pl
set_option linter.unusedVariables false
attribute [local go_sem] Oper.semAt_some

/-- What has been found when 'pre' have come. -/
def fnd : List Nat → Int
  | [] => -1
  | k :: _ => k
/-- The cells of catch between two rounds. -/
def CI (S n c d i : Nat) (A P : Option Addr) (r : Int) (pre : List Nat) (W : World) : Prop :=
  pre.length ≤ 1 ∧ Blk W S 73 #[.slice A n c, .slice P n d, i64 r] ∧ Blk W (S + 1) 3 #[i64 0] ∧ Blk W (S + 2) 3 #[i64 (fnd pre)]
def CX (S : Nat) (c : Code) (pre : List Nat) (W : World) : Prop := c = .ret ∧ 2 ≤ pre.length ∧ Blk W (S + 1) 3 #[i64 (-2)]
theorem ci_own (S n c d i : Nat) (A P : Option Addr) (r : Int) : Own (CI S n c d i A P r) := fun _ _ _ _ h hg hr => ⟨h.1, blk_own h.2.1 hg hr, blk_own h.2.2.1 hg hr, blk_own h.2.2.2 hg hr⟩
theorem cx_own (S : Nat) (c : Code) : Own (CX S c) := fun _ _ _ _ h hg hr => ⟨h.1, h.2.1, blk_own h.2.2 hg hr⟩

set_option maxRecDepth 100000 in
set_option maxHeartbeats 2000000 in
theorem catch_in (A P : Option Addr) (n c d i : Nat) (ra : List Ac) (ps : List Pt) (r : Int) (z : Int) (hz : pick ra i (Hm ra ps r i n) = z) (hn : n ≤ 210) (hl : ra.length = n) (hm : ps.length = n) (hi : i < n) (w : World) (hR : Rd w w.heap.size 5 A n (ra.flatMap decA)) (hP : Rd w w.heap.size 2 P n (ps.flatMap decP)) :
    CallsIn Fence.wide 5 Try.prog 45 #[.agg #[.slice A n c, .slice P n d, i64 r], i64 (i : Nat)] w fun e w' => e = .returned (i64 z) ∧ Below w.heap.size w w' := by
  have HL := Lib.hid hl; clear hl
  have HM := Lib.hid hm; clear hm
  have HZ := Lib.hid hz; clear hz
  obtain ⟨W0, hW0⟩ : ∃ W0, W0 = ((w.alloc (.cells #[.slice A n c, .slice P n d, i64 r] 73)).alloc (.cells #[i64 0] 3)).alloc (.cells #[i64 (-1)] 3) := ⟨_, rfl⟩
  have hs0 : W0.heap.size = w.heap.size + 3 := by rw [hW0]; simp
  have hB0 : Below w.heap.size w W0 := by rw [hW0]; exact (((Below.refl _ w).alloc (Nat.le_refl _) _).alloc (by simp) _).alloc (by simp; omega) _
  have b0 : Blk W0 w.heap.size 73 #[.slice A n c, .slice P n d, i64 r] := by rw [hW0]; exact ((Blk.new w _ _).alloc _).alloc _
  have b1 : Blk W0 (w.heap.size + 1) 3 #[i64 0] := by
    have := (Blk.new (w.alloc (.cells #[.slice A n c, .slice P n d, i64 r] 73)) 3 #[i64 0]).alloc (.cells #[i64 (-1)] 3)
    rw [World.size_alloc] at this
    rw [hW0]; exact this
  have b2 : Blk W0 (w.heap.size + 2) 3 #[i64 (-1)] := by
    have := Blk.new ((w.alloc (.cells #[.slice A n c, .slice P n d, i64 r] 73)).alloc (.cells #[i64 0] 3)) 3 #[i64 (-1)]
    rw [World.size_alloc, World.size_alloc] at this
    rw [hW0]; exact this
  have B0 := Lib.hid b0; clear b0
  have B1 := Lib.hid b1; clear b1
  have B2 := Lib.hid b2; clear b2
  have HW := Lib.hid hW0; clear hW0
  refine callsIn_of_wp_marks Try.func45 rfl trivial ?_ rfl
  simp only [Try.ntmps45, List.size_toArray, List.length_cons, List.length_nil, Nat.reduceAdd, Nat.reduceSub, Array.replicate_succ, Array.replicate_zero, List.push_toArray, List.append_toArray, List.nil_append, List.cons_append]
  gi_wp2_with fail
  rw [← HW.out]
  refine ⟨trivial, ?_⟩
  refine (heard_in _ _ _ _ _ _ _ _ _).mono ?_
  rintro e w' ⟨rfl, rfl⟩
  gi_wp2_with fail
  have bN0 := (Blk.new W0 73 #[.slice A n c, .slice P n d, i64 r]).alloc (.cells #[i64 (i : Nat)] 3)
  have bN1 := Blk.new (W0.alloc (.cells #[.slice A n c, .slice P n d, i64 r] 73)) 3 #[i64 (i : Nat)]
  rw [World.size_alloc] at bN1
  have hBN : Below w.heap.size w ((W0.alloc (.cells #[.slice A n c, .slice P n d, i64 r] 73)).alloc (.cells #[i64 (i : Nat)] 3)) := (hB0.alloc (by omega) _).alloc (by simp; omega) _
  rw [hs0] at bN0 bN1
  have hCI0 : CI w.heap.size n c d i A P r [] ((W0.alloc (.cells #[.slice A n c, .slice P n d, i64 r] 73)).alloc (.cells #[i64 (i : Nat)] 3)) :=
    ⟨by simp, (B0.out.alloc _).alloc _, (B1.out.alloc _).alloc _, (B2.out.alloc _).alloc _⟩
  generalize hWL : (W0.alloc (.cells #[.slice A n c, .slice P n d, i64 r] 73)).alloc (.cells #[i64 (i : Nat)] 3) = WL at *
  have hsL : WL.heap.size = w.heap.size + 5 := by rw [← hWL]; simp; omega
  clear hWL
  refine wpIn_rf [(6, 10)] (fun y => [(10, i64 (y : Nat))]) (gf := 55) (lb := #[.pointer (some ⟨w.heap.size + 3, 0, none⟩), .pointer (some ⟨w.heap.size + 3 + 1, 0, none⟩)]) rfl (enters_of Try.func55 (by kernel_rfl) rfl)
    (heard_stops (w.heap.size + 3) (w.heap.size + 3 + 1) w.heap.size n c d i A P ra ps r hn HL.out HM.out hi WL bN0 bN1 (hR.below hBN) (hP.below hBN) (by omega)) (fun h k => h.trans k) (fun W l o o' hl ho hc hw => ⟨belowK_b (w := WL) (by omega) W l o o' hl ho hc hw, World.putObj_heap_other (by omega), World.putObj_heap_other (by omega)⟩) (fun _ => rfl)
    (fun pre W => CI w.heap.size n c d i A P r pre W ∧ Below w.heap.size w W ∧ w.heap.size + 5 ≤ W.heap.size)
    (fun c pre W => CX w.heap.size c pre W ∧ Below w.heap.size w W)
    (OwnFrom.and (Own.from (ci_own _ _ _ _ _ _ _ _) _) (OwnFrom.and (ownFrom_below (Nat.le_refl _) (by omega)) (fun _ _ _ _ hs hg _ => Nat.le_trans hs hg.size)))
    (fun c => OwnFrom.and (Own.from (cx_own _ _) _) (ownFrom_below (Nat.le_refl _) (by omega)))
    ⟨hCI0, hBN, by omega⟩ ?assign ?body ?done ?stop
  case assign =>
    intro l x W K hK
    simp only [rfL, List.foldl_cons, List.foldl_nil, List.set_cons_succ, List.set_cons_zero, List.getD_cons_succ, List.getD_cons_zero] at hK
    gi_wp2
    exact hK
  case body =>
    rintro l₀ pre x W ⟨⟨hp, c1, c2, c3⟩, hB, hsz⟩ _
    have k3 : W.cell? ⟨w.heap.size + 1 + 1, 0, none⟩ = some (i64 (fnd pre)) := c3.cell 0
    have k3f : W.frozen? ⟨w.heap.size + 1 + 1, 0, none⟩ = false := c3.frozen 0
    have k2 := c2.cell 0
    simp only [List.getElem?_toArray, List.getElem?_cons_zero] at k2
    have k2f := c2.frozen 0
    simp only [rfL, List.foldl_cons, List.foldl_nil, List.set_cons_succ, List.set_cons_zero, List.getD_cons_succ, List.getD_cons_zero]
    match pre, hp with
    | [], _ =>
      replace k3 : W.cell? ⟨w.heap.size + 1 + 1, 0, none⟩ = some (i64 (-1)) := k3
      have H1 := Lib.hid c1; clear c1
      have H2 := Lib.hid c2; clear c2
      have H3 := Lib.hid c3; clear c3
      gi_wp2_with fail
      refine ⟨keepsFrom_set _ _ _, ⟨(Below.refl w.heap.size W).setCell (p := ⟨w.heap.size + 2, 0, none⟩) (by show w.heap.size ≤ w.heap.size + 2; omega) _, Below.heap_setCell _ ⟨w.heap.size + 2, 0, none⟩ _ _ (by show w.heap.size + 3 ≠ w.heap.size + 2; omega), Below.heap_setCell _ ⟨w.heap.size + 2, 0, none⟩ _ _ (by show w.heap.size + 3 + 1 ≠ w.heap.size + 2; omega)⟩,
        ⟨by simp, H1.out.far (p := ⟨w.heap.size + 2, 0, none⟩) (by show w.heap.size ≠ w.heap.size + 2; omega) _, H2.out.far (p := ⟨w.heap.size + 2, 0, none⟩) (by show w.heap.size + 1 ≠ w.heap.size + 2; omega) _, H3.out.set_ 0 _⟩, hB.setCell (p := ⟨w.heap.size + 2, 0, none⟩) (by show w.heap.size ≤ w.heap.size + 2; omega) _, by simpa [World.setCell] using hsz⟩
    | [k], _ =>
      replace k3 : W.cell? ⟨w.heap.size + 1 + 1, 0, none⟩ = some (i64 (k : Nat)) := k3
      have hne : ((k : Int) == -1) = false := by rw [beq_eq_false_iff_ne]; omega
      have hne' : ((k : Int) != -1) = true := by rw [bne_iff_ne]; omega
      have H1 := Lib.hid c1; clear c1
      have H2 := Lib.hid c2; clear c2
      have H3 := Lib.hid c3; clear c3
      gi_wp2_with fail
      exact ⟨keepsFrom_set _ _ _, ⟨rfl, by simp, H2.out.set_ 0 _⟩, hB.setCell (p := ⟨w.heap.size + 1, 0, none⟩) (by show w.heap.size ≤ w.heap.size + 1; omega) _⟩
  case stop =>
    rintro D co pre W hD hpre ⟨⟨rfl, h2, hcr⟩, hB⟩ hK
    obtain rfl : z = -2 := by
      rw [← HZ.out]
      obtain ⟨t, ht⟩ := hpre
      match pre, h2 with
      | x :: y :: u, _ => rw [← ht]; rfl
    gi_wp2
    refine ⟨by simp, .inl ⟨_, _, rfl, run_takeDeferred hK, ?_⟩⟩
    have hc5 := cell_kept (hcr.cell 0) (grownBy_putObj' _ D (.deferred none)) (fun r e => by cases e; exact ⟨_, hK, rfl⟩)
    refine ⟨i64 (-2), ?_, rfl, hB.trans (belowK_b (w := WL) (by omega) W D _ _ hD hK rfl rfl)⟩
    simp [results, Try.f45, go_sem, hc5]
  case done =>
    rintro D ys W hD rfl ⟨⟨hp, c1, c2, c3⟩, hB, hsz⟩ hK
    have hup : ∀ a b, Below W.heap.size W a → Below a.heap.size a b → Below W.heap.size W b := fun a b h k => below_trans' h k
    have H1 := Lib.hid c1; clear c1
    have H2 := Lib.hid c2; clear c2
    have hnd := nodup_Hm ra ps r i n
    match hH : Hm ra ps r i n, hp with
    | [], _ =>
      obtain rfl : z = -1 := by rw [← HZ.out, hH]; rfl
      rw [hH] at c3
      have H3 := Lib.hid c3; clear c3
      have f0 : ∀ s : WOf (Below W.heap.size W), s.w.cell? ⟨w.heap.size + 1 + 1, 0, none⟩ = some (i64 (-1)) := fun s => (H3.out.up' s.ok).cell 0
      clear HZ hH hnd
      have HS : True := trivial
      gi_wp2_with fail
      refine wpIn_region_ext' WideF.plain (Below W.heap.size W) (Below.refl _ _) hup (by kernel_rfl) (by kernel_rfl) (by kernel_rfl) (fun hne => ?_)
      try simp only [List.append_eq, List.cons_append, List.nil_append]
      repeat (go_big_quiet_step (fail))
      refine wpQuiet_nil ?_
      clear hne
      intro wx hx'
      obtain ⟨⟨_, hx⟩, hx''⟩ := hx'
      subst hx''
      have hBx := below_trans' hB hx
      have k3 : wx.cell? ⟨w.heap.size + 1 + 1, 0, none⟩ = some (i64 (-1)) := (H3.out.up' hx).cell 0
      have k2 : wx.cell? ⟨w.heap.size + 1, 0, none⟩ = some (i64 0) := (H2.out.up' hx).cell 0
      have k2f : wx.frozen? ⟨w.heap.size + 1, 0, none⟩ = false := (H2.out.up' hx).frozen 0
      have HKW := (KeepsOthers.setCell wx ⟨w.heap.size + 1, 0, none⟩ (i64 (-1))).same D _ ((hx.block D (Array.getElem?_eq_some_iff.1 hK).1).trans hK) rfl
      clear HS
      gi_wp2_with fail
      refine ⟨by simp, .inl ⟨_, _, rfl, run_takeDeferred HKW, ?_⟩⟩
      have hc5 := cell_kept (World.cell?_setCell_same' wx ⟨w.heap.size + 1, 0, none⟩ (i64 (-1)) (by rw [k2]; rfl)) (grownBy_putObj' _ D (.deferred none)) (fun r e => by cases e; exact ⟨_, HKW, rfl⟩)
      refine ⟨i64 (-1), ?_, rfl, (hBx.setCell (p := ⟨w.heap.size + 1, 0, none⟩) (by show w.heap.size ≤ w.heap.size + 1; omega) _).trans (belowK_b (w := WL) (by omega) _ D _ _ hD HKW rfl rfl)⟩
      simp [results, Try.f45, go_sem, hc5]
    | [k], _ =>
      have hkm : k ∈ Hm ra ps r i n := by rw [hH]; simp
      have hkn : k < n := (mem_Hm.1 hkm).1
      have hz : (if opn (ra.getD k z0) (ra.getD i z0) then (k : Int) else -1) = z := by rw [← HZ.out, hH]; rfl
      have hkl : k < ra.length := by have := HL.out; omega
      have hil : i < ra.length := by have := HL.out; omega
      rw [getD_of hkl, getD_of hil] at hz
      have hR1 := hR.below hB
      obtain ⟨b, off, rfl, hb, hc1⟩ := rd_el (dec := decA) (fun _ => rfl) hR1 HL.out hkl
      obtain ⟨b', off', e, _, hc2⟩ := rd_el (dec := decA) (fun _ => rfl) hR1 HL.out hil
      simp only [Option.some.injEq, Addr.mk.injEq, and_true] at e
      obtain ⟨rfl, rfl⟩ := e
      obtain ⟨⟨sa, sc, ss, sl, sh⟩, es⟩ : ∃ a, ra[k] = a := ⟨_, rfl⟩
      obtain ⟨⟨la, lc, ls, ll, lh⟩, el⟩ : ∃ a, ra[i] = a := ⟨_, rfl⟩
      rw [es] at hc1 hz
      rw [el] at hc2 hz
      clear es el
      rw [hH] at c3
      have H3 := Lib.hid c3; clear c3
      have f0 : ∀ s : WOf (Below W.heap.size W), s.w.cell? ⟨w.heap.size + 1 + 1, 0, none⟩ = some (i64 (k : Nat)) := fun s => (H3.out.up' s.ok).cell 0
      have f1 : ∀ s : WOf (Below W.heap.size W), s.w.cell? ⟨w.heap.size, 0, none⟩ = some (.slice (some ⟨b, off, none⟩) n c) := fun s => (H1.out.up' s.ok).cell 0
      have f2 : ∀ s : WOf (Below W.heap.size W), s.w.cell? ⟨b, off + k * 5 + 2, none⟩ = some (i64 ss) := fun s => cup (hc1 2 _ rfl) s.ok
      have f3 : ∀ s : WOf (Below W.heap.size W), s.w.cell? ⟨b, off + i * 5 + 3, none⟩ = some (i64 ll) := fun s => cup (hc2 3 _ rfl) s.ok
      have f4 : ∀ s : WOf (Below W.heap.size W), s.w.cell? ⟨b, off + i * 5 + 3 + 1, none⟩ = some (i64 lh) := fun s => cup (hc2 4 _ rfl) s.ok
      have e1 : ((k : Int) == -1) = false := by rw [beq_eq_false_iff_ne]; omega
      have e2 : ((k : Int) != -1) = true := by rw [bne_iff_ne]; omega
      obtain ⟨v, hv⟩ : ∃ v, win ss ll lh = v := ⟨_, rfl⟩
      have hz2 : (if v = true then (k : Int) else -1) = z := by rw [← hz, ← hv]; rfl
      have CV := Lib.hid (fun W => catches_val ss ll lh v hv W)
      clear HZ hH hnd hz hv hc1 hc2 hkm
      cases v
      · obtain rfl : z = -1 := by rw [← hz2]; rfl
        clear hz2
        have HS : True := trivial
        gi_wp2_with fail
        refine wpIn_region_ext' WideF.plain (Below W.heap.size W) (Below.refl _ _) hup (by kernel_rfl) (by kernel_rfl) (by kernel_rfl) (fun hne => ?_)
        try simp only [List.append_eq, List.cons_append, List.nil_append]
        repeat (go_big_quiet_step (with_reducible exact calls_ext hup (CV.out _)))
        refine wpQuiet_nil ?_
        clear hne
        intro wx hx'
        obtain ⟨⟨_, hx⟩, hx''⟩ := hx'
        subst hx''
        have hBx := below_trans' hB hx
        have k3 : wx.cell? ⟨w.heap.size + 1 + 1, 0, none⟩ = some (i64 (k : Nat)) := (H3.out.up' hx).cell 0
        have k2 : wx.cell? ⟨w.heap.size + 1, 0, none⟩ = some (i64 0) := (H2.out.up' hx).cell 0
        have k2f : wx.frozen? ⟨w.heap.size + 1, 0, none⟩ = false := (H2.out.up' hx).frozen 0
        have HKW := (KeepsOthers.setCell wx ⟨w.heap.size + 1, 0, none⟩ (i64 (-1))).same D _ ((hx.block D (Array.getElem?_eq_some_iff.1 hK).1).trans hK) rfl
        clear HS
        gi_wp2_with fail
        refine ⟨by simp, .inl ⟨_, _, rfl, run_takeDeferred HKW, ?_⟩⟩
        have hc5 := cell_kept (World.cell?_setCell_same' wx ⟨w.heap.size + 1, 0, none⟩ (i64 (-1)) (by rw [k2]; rfl)) (grownBy_putObj' _ D (.deferred none)) (fun r e => by cases e; exact ⟨_, HKW, rfl⟩)
        refine ⟨i64 (-1), ?_, rfl, (hBx.setCell (p := ⟨w.heap.size + 1, 0, none⟩) (by show w.heap.size ≤ w.heap.size + 1; omega) _).trans (belowK_b (w := WL) (by omega) _ D _ _ hD HKW rfl rfl)⟩
        simp [results, Try.f45, go_sem, hc5]
      · obtain rfl : z = (k : Nat) := by rw [← hz2]; rfl
        clear hz2
        have HS : True := trivial
        gi_wp2_with fail
        refine wpIn_region_ext' WideF.plain (Below W.heap.size W) (Below.refl _ _) hup (by kernel_rfl) (by kernel_rfl) (by kernel_rfl) (fun hne => ?_)
        try simp only [List.append_eq, List.cons_append, List.nil_append]
        repeat (go_big_quiet_step (with_reducible exact calls_ext hup (CV.out _)))
        refine wpQuiet_nil ?_
        clear hne
        intro wx hx'
        obtain ⟨⟨_, hx⟩, hx''⟩ := hx'
        subst hx''
        have hBx := below_trans' hB hx
        have k3 : wx.cell? ⟨w.heap.size + 1 + 1, 0, none⟩ = some (i64 (k : Nat)) := (H3.out.up' hx).cell 0
        have k2 : wx.cell? ⟨w.heap.size + 1, 0, none⟩ = some (i64 0) := (H2.out.up' hx).cell 0
        have k2f : wx.frozen? ⟨w.heap.size + 1, 0, none⟩ = false := (H2.out.up' hx).frozen 0
        have HKW := (KeepsOthers.setCell wx ⟨w.heap.size + 1, 0, none⟩ (i64 ((k : Nat) : Int))).same D _ ((hx.block D (Array.getElem?_eq_some_iff.1 hK).1).trans hK) rfl
        clear HS
        gi_wp2_with fail
        refine ⟨by simp, .inl ⟨_, _, rfl, run_takeDeferred HKW, ?_⟩⟩
        have hc5 := cell_kept (World.cell?_setCell_same' wx ⟨w.heap.size + 1, 0, none⟩ (i64 ((k : Nat) : Int)) (by rw [k2]; rfl)) (grownBy_putObj' _ D (.deferred none)) (fun r e => by cases e; exact ⟨_, HKW, rfl⟩)
        refine ⟨i64 ((k : Nat) : Int), ?_, rfl, (hBx.setCell (p := ⟨w.heap.size + 1, 0, none⟩) (by show w.heap.size ≤ w.heap.size + 1; omega) _).trans (belowK_b (w := WL) (by omega) _ D _ _ hD HKW rfl rfl)⟩
        simp [results, Try.f45, go_sem, hc5]
end Go.Proofs.Yteeloebhjmmpdaa.Md
