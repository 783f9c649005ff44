/- The walks of the two functions that say whether a radio is heard by another one. -/
import Derived.Test.YteeloebhjmmpdaaMdWalk
namespace Go.Proofs.Yteeloebhjmmpdaa.Md
open Go.RowKit Go.Proofs.Yteeloebhjmmpdaa.Pl
set_option linter.unusedVariables false

theorem getD_of {α : Type} {l : List α} {i : Nat} (h : i < l.length) (d : α) : l.getD i d = l[i] := by
  rw [List.getD_eq_getElem?_getD, List.getElem?_eq_getElem h]; rfl

set_option maxRecDepth 100000 in
set_option maxHeartbeats 1000000 in
theorem refHeard_val (A : Option Addr) (n c : Nat) (P : Option Addr) (d B : Nat) (ra : List Ac) (ps : List Pt) (r : Int) (k i : Nat) (v : Bool) (hv : hkd ra ps r i k = v) (hk : k < n) (hi : i < n) (w : World)
    (hR : Rd w B 5 A n (ra.flatMap decA)) (hP : Rd w B 2 P n (ps.flatMap decP)) (hB : B ≤ w.heap.size) (hl : ra.length = n) (hm : ps.length = n) (hn : n ≤ 210) :
    Calls Try.prog 53 #[.slice A n c, .slice P n d, i64 r, i64 k, i64 i] w fun e w' => e = .returned (.bool v) ∧ Below w.heap.size w w' := by
  have hkl : k < ra.length := by omega
  have hil : i < ra.length := by omega
  have hkp : k < ps.length := by omega
  have hip : i < ps.length := by omega
  obtain ⟨b, off, rfl, hb, hc1⟩ := rd_el (dec := decA) (fun _ => rfl) hR hl hkl
  obtain ⟨b', off', e, _, hc2⟩ := rd_el (dec := decA) (fun _ => rfl) hR hl hil
  simp only [Option.some.injEq, Addr.mk.injEq, and_true] at e
  obtain ⟨rfl, rfl⟩ := e
  obtain ⟨q, qo, rfl, hq, hc3⟩ := rd_el (dec := decP) (fun _ => rfl) hP hm hkp
  obtain ⟨q', qo', e, _, hc4⟩ := rd_el (dec := decP) (fun _ => rfl) hP hm hip
  simp only [Option.some.injEq, Addr.mk.injEq, and_true] at e
  obtain ⟨rfl, rfl⟩ := e
  unfold hkd at hv
  rw [getD_of hkl, getD_of hil, getD_of hkp, getD_of hip] at hv
  obtain ⟨⟨sa, sc, ss, sl, sh⟩, es⟩ : ∃ a, ra[k] = a := ⟨_, rfl⟩
  obtain ⟨⟨la, lc, ls, ll, lh⟩, el⟩ : ∃ a, ra[i] = a := ⟨_, rfl⟩
  obtain ⟨⟨px, py⟩, ep⟩ : ∃ a, ps[k] = a := ⟨_, rfl⟩
  obtain ⟨⟨ox, oy⟩, eo⟩ : ∃ a, ps[i] = a := ⟨_, rfl⟩
  rw [es] at hc1 hv
  rw [el] at hc2 hv
  rw [ep] at hc3 hv
  rw [eo] at hc4 hv
  clear es el ep eo
  have c0 : w.cell? ⟨b, off + k * 5, none⟩ = some (i64 sa) := hc1 0 _ rfl
  have c1 : w.cell? ⟨b, off + k * 5 + 1, none⟩ = some (i64 sc) := hc1 1 _ rfl
  have c2 : w.cell? ⟨b, off + k * 5 + 2, none⟩ = some (i64 ss) := hc1 2 _ rfl
  have c3 : w.cell? ⟨b, off + k * 5 + 3, none⟩ = some (i64 sl) := hc1 3 _ rfl
  have c4 : w.cell? ⟨b, off + k * 5 + 4, none⟩ = some (i64 sh) := hc1 4 _ rfl
  have d0 : w.cell? ⟨b, off + i * 5, none⟩ = some (i64 la) := hc2 0 _ rfl
  have d1 : w.cell? ⟨b, off + i * 5 + 1, none⟩ = some (i64 lc) := hc2 1 _ rfl
  have d2 : w.cell? ⟨b, off + i * 5 + 2, none⟩ = some (i64 ls) := hc2 2 _ rfl
  have d3 : w.cell? ⟨b, off + i * 5 + 3, none⟩ = some (i64 ll) := hc2 3 _ rfl
  have d4 : w.cell? ⟨b, off + i * 5 + 4, none⟩ = some (i64 lh) := hc2 4 _ rfl
  have g0 : w.cell? ⟨q, qo + k * 2, none⟩ = some (i64 px) := hc3 0 _ rfl
  have g1 : w.cell? ⟨q, qo + k * 2 + 1, none⟩ = some (i64 py) := hc3 1 _ rfl
  have g2 : w.cell? ⟨q, qo + i * 2, none⟩ = some (i64 ox) := hc4 0 _ rfl
  have g3 : w.cell? ⟨q, qo + i * 2 + 1, none⟩ = some (i64 oy) := hc4 1 _ rfl
  have hB2 := ((Below.refl w.heap.size w).alloc (Nat.le_refl _) (.cells #[i64 sa, i64 sc, i64 ss, i64 sl, i64 sh] 55)).alloc (by simp) (.cells #[i64 la, i64 lc, i64 ls, i64 ll, i64 lh] 55)
  have b1 := (Blk.new w 55 #[i64 sa, i64 sc, i64 ss, i64 sl, i64 sh]).alloc (.cells #[i64 la, i64 lc, i64 ls, i64 ll, i64 lh] 55)
  have b2 := Blk.new (w.alloc (.cells #[i64 sa, i64 sc, i64 ss, i64 sl, i64 sh] 55)) 55 #[i64 la, i64 lc, i64 ls, i64 ll, i64 lh]
  rw [World.size_alloc] at b2
  have hs1 : b < w.heap.size := by omega
  have hs2 : q < w.heap.size := by omega
  obtain ⟨W, hW⟩ : ∃ W, W = (w.alloc (.cells #[i64 sa, i64 sc, i64 ss, i64 sl, i64 sh] 55)).alloc (.cells #[i64 la, i64 lc, i64 ls, i64 ll, i64 lh] 55) := ⟨_, rfl⟩
  rw [← hW] at hB2 b1 b2
  have B1 := Lib.hid b1; clear b1
  have B2 := Lib.hid b2; clear b2
  have HW := Lib.hid hW; clear hW
  have f0 : ∀ s : WOf (Below W.heap.size W), s.w.cell? ⟨w.heap.size, 0, none⟩ = some (i64 sa) := fun s => (B1.out.up' s.ok).cell 0
  have f1 : ∀ s : WOf (Below W.heap.size W), s.w.cell? ⟨w.heap.size, 1, none⟩ = some (i64 sc) := fun s => (B1.out.up' s.ok).cell 1
  have f2 : ∀ s : WOf (Below W.heap.size W), s.w.cell? ⟨w.heap.size + 1, 0, none⟩ = some (i64 la) := fun s => (B2.out.up' s.ok).cell 0
  have f3 : ∀ s : WOf (Below W.heap.size W), s.w.cell? ⟨w.heap.size + 1, 1, none⟩ = some (i64 lc) := fun s => (B2.out.up' s.ok).cell 1
  have f4 : ∀ s : WOf (Below W.heap.size W), s.w.cell? ⟨q, qo + k * 2, none⟩ = some (i64 px) := fun s => cup (cup g0 hB2) s.ok
  have f5 : ∀ s : WOf (Below W.heap.size W), s.w.cell? ⟨q, qo + k * 2 + 1, none⟩ = some (i64 py) := fun s => cup (cup g1 hB2) s.ok
  have f6 : ∀ s : WOf (Below W.heap.size W), s.w.cell? ⟨q, qo + i * 2, none⟩ = some (i64 ox) := fun s => cup (cup g2 hB2) s.ok
  have f7 : ∀ s : WOf (Below W.heap.size W), s.w.cell? ⟨q, qo + i * 2 + 1, none⟩ = some (i64 oy) := fun s => cup (cup g3 hB2) s.ok
  have hup : ∀ a b, Below W.heap.size W a → Below a.heap.size a b → Below W.heap.size W b := fun a b h k => below_trans' h k
  have hcase : (v = false ∧ (sa == 2) = false) ∨ (v = false ∧ sa = 2 ∧ (la == 1) = false) ∨ (v = false ∧ sa = 2 ∧ la = 1 ∧ (sc == lc) = false) ∨ (sa = 2 ∧ la = 1 ∧ sc = lc ∧ near (px, py) (ox, oy) r = v) := by
    unfold hrd at hv
    dsimp only at hv
    by_cases h1 : sa = 2
    · by_cases h2 : la = 1
      · by_cases h3 : sc = lc
        · exact .inr (.inr (.inr ⟨h1, h2, h3, by rw [← hv]; simp [h1, h2, h3]⟩))
        · exact .inr (.inr (.inl ⟨by rw [← hv]; simp [h3], h1, h2, by rw [beq_eq_false_iff_ne]; exact h3⟩))
      · exact .inr (.inl ⟨by rw [← hv]; simp [h2], h1, by rw [beq_eq_false_iff_ne]; exact h2⟩)
    · exact .inl ⟨by rw [← hv]; simp [h1], by rw [beq_eq_false_iff_ne]; exact h1⟩
  clear hv hc1 hc2 hc3 hc4 hR hP
  rcases hcase with ⟨rfl, e1⟩ | ⟨rfl, rfl, e1⟩ | ⟨rfl, rfl, rfl, e1⟩ | ⟨rfl, rfl, rfl, hnr⟩
  · go_enter Try.func53, Try.ntmps53
    go_wp2_with fail
    rw [← HW.out]
    refine wp_region_ext (Below W.heap.size W) (Below.refl _ _) hup (by kernel_rfl) (by kernel_rfl) (fun hne => ?_)
    try simp only [List.append_eq, List.cons_append, List.nil_append]
    repeat (go_big_quiet_step (fail))
    refine wpQuiet_nil ?_
    clear hne
    intro _ hx'
    obtain ⟨⟨wx, hx⟩, hx''⟩ := hx'
    subst hx''
    go_wp2_with fail
    go_ret
    exact ⟨rfl, hB2.trans (hx.mono hB2.size)⟩
  · go_enter Try.func53, Try.ntmps53
    go_wp2_with fail
    rw [← HW.out]
    refine wp_region_ext (Below W.heap.size W) (Below.refl _ _) hup (by kernel_rfl) (by kernel_rfl) (fun hne => ?_)
    try simp only [List.append_eq, List.cons_append, List.nil_append]
    repeat (go_big_quiet_step (fail))
    refine wpQuiet_nil ?_
    clear hne
    intro _ hx'
    obtain ⟨⟨wx, hx⟩, hx''⟩ := hx'
    subst hx''
    go_wp2_with fail
    go_ret
    exact ⟨rfl, hB2.trans (hx.mono hB2.size)⟩
  · go_enter Try.func53, Try.ntmps53
    go_wp2_with fail
    rw [← HW.out]
    refine wp_region_ext (Below W.heap.size W) (Below.refl _ _) hup (by kernel_rfl) (by kernel_rfl) (fun hne => ?_)
    try simp only [List.append_eq, List.cons_append, List.nil_append]
    repeat (go_big_quiet_step (fail))
    refine wpQuiet_nil ?_
    clear hne
    intro _ hx'
    obtain ⟨⟨wx, hx⟩, hx''⟩ := hx'
    subst hx''
    go_wp2_with fail
    go_ret
    exact ⟨rfl, hB2.trans (hx.mono hB2.size)⟩
  · have NV := Lib.hid (fun W => refNear_val px py ox oy r v hnr W)
    clear hnr
    go_enter Try.func53, Try.ntmps53
    go_wp2_with fail
    rw [← HW.out]
    refine wp_region_ext (Below W.heap.size W) (Below.refl _ _) hup (by kernel_rfl) (by kernel_rfl) (fun hne => ?_)
    try simp only [List.append_eq, List.cons_append, List.nil_append]
    repeat (go_big_quiet_step (with_reducible exact calls_ext hup (NV.out _)))
    refine wpQuiet_nil ?_
    clear hne
    intro _ hx'
    obtain ⟨⟨wx, hx⟩, hx''⟩ := hx'
    subst hx''
    go_wp2_with fail
    go_ret
    exact ⟨rfl, hB2.trans (hx.mono hB2.size)⟩
end Go.Proofs.Yteeloebhjmmpdaa.Md
