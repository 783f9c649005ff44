/- The walk of the law of chapter 17 on a further radio that sends. -/
import Derived.Test.YteeloebhjmmpdaaInv
import Derived.Test.YteeloebhjmmpdaaMdLaws6
namespace Go.Proofs.Yteeloebhjmmpdaa.Md
open Go.RowKit Go.Proofs.Yteeloebhjmmpdaa.Pl
set_option linter.unusedVariables false

theorem info_place' : (Try.prog.info? 25).map (fun i => (i.zero, i.size, i.bytes)) = some (some (.agg #[.int .i64 0, .int .i64 0]), 2, 16) := by kernel_rfl
theorem one_decP (a : Pt) : ∀ u ∈ decP a, u.oneCell' = true := by
  intro u hu
  unfold decP at hu
  simp only [List.mem_cons, List.not_mem_nil, or_false] at hu
  rcases hu with rfl | rfl <;> rfl
theorem blk2 {w : World} {g : Nat} {t : TypeId} {a b : Value} (h : Blk w g t #[a, b]) : w.cell? ⟨g, 0, none⟩ = some a ∧ w.cell? ⟨g, 1, none⟩ = some b := ⟨h.cell 0, h.cell 1⟩

theorem fillA {a b c d e : Value} : Instr.fill (fun i => some (i * #[a, b, c, d, e].size, #[a, b, c, d, e].size)) ((Array.range (1 * #[a, b, c, d, e].size)).map ((Value.agg #[.int .i64 0, .int .i64 0, .int .i64 0, .int .i64 0, .int .i64 0]).cells[· % (Value.agg #[.int .i64 0, .int .i64 0, .int .i64 0, .int .i64 0, .int .i64 0]).cells.size]!)) [(0, .agg #[a, b, c, d, e])] = some #[a, b, c, d, e] := by
  have : Array.range 5 = #[0, 1, 2, 3, 4] := by decide
  simp [Instr.fill, Value.cells, this]
theorem fillP {a b : Value} : Instr.fill (fun i => some (i * #[a, b].size, #[a, b].size)) ((Array.range (1 * #[a, b].size)).map ((Value.agg #[.int .i64 0, .int .i64 0]).cells[· % (Value.agg #[.int .i64 0, .int .i64 0]).cells.size]!)) [(0, .agg #[a, b])] = some #[a, b] := by
  have : Array.range 2 = #[0, 1] := by decide
  simp [Instr.fill, Value.cells, this]
/-- The slots that the region fills. -/
def LM : List Nat := [16, 17, 26, 27, 28, 29, 30, 31, 32, 33, 34, 35, 36, 37]
/-- What holds in the region that draws its order, whichever operations have come. -/
def JM (A : Option Addr) (n c : Nat) (P : Option Addr) (m d : Nat) (xs ys : List Value) (ea ep : Array Value) (b1 b2 : Nat) (W0 : World) (a : Act) (b : Nat → Bool) (a' : Act) (w : World) : Prop :=
  ∃ f : Nat → Value, a' = over a f LM ∧
    Below W0.heap.size W0 w ∧ Blk w b1 55 ea ∧ Blk w b2 25 ep ∧
    Ch W0.heap.size 55 5 n xs ea (b 0) (b 2) (b 4) (b 5) (f 26) (f 28) (f 30) (f 31) w ∧
    Ch W0.heap.size 25 2 m ys ep (b 6) (b 8) (b 10) (b 11) (f 32) (f 34) (f 36) (f 37) w ∧
    (b 1 = true → f 27 = .slice A n c) ∧ (b 3 = true → f 29 = .agg ea) ∧ (b 7 = true → f 33 = .slice P m d) ∧ (b 9 = true → f 35 = .agg ep) ∧ (b 12 = true → b 5 = true ∧ f 16 = f 31) ∧ (b 13 = true → b 11 = true ∧ f 17 = f 37)
def FM (A : Option Addr) (n c : Nat) (P : Option Addr) (m d : Nat) (b1 b2 : Nat) (a : Act) : Prop :=
  a.tmps.size = 172 ∧ a.eval (.tmp 0) = .slice A n c ∧ a.eval (.tmp 1) = .slice P m d ∧ a.eval (.tmp 12) = .pointer (some ⟨b1, 0, none⟩) ∧ a.eval (.tmp 13) = .pointer (some ⟨b2, 0, none⟩)

section
variable {A : Option Addr} {n c : Nat} {P : Option Addr} {m d : Nat} {xs ys : List Value} {ea ep : Array Value} {b1 b2 : Nat} {W0 : World} {a0 : Act} {Q : Exit → Act → World → Prop} {o : Oper}
/-- One operation of the region keeps what holds in it. -/
def Kept (A : Option Addr) (n c : Nat) (P : Option Addr) (m d : Nat) (xs ys : List Value) (ea ep : Array Value) (b1 b2 : Nat) (W0 : World) (a0 : Act) (Q : Exit → Act → World → Prop) (i : Nat) (o : Oper) : Prop :=
  o.guard = none ∧ ∀ b a w, b i = false → (∀ e ∈ o.after, Region.binds .any e = true → b e.on = true) → JM A n c P m d xs ys ea ep b1 b2 W0 a0 b a w → Oper.wp Try.prog o a w (JM A n c P m d xs ys ea ep b1 b2 W0 a0 (upd b i)) Q
theorem kA0 (hg : o.guard = none) (ho : o.op = .buildSlice 44 0 #[]) (hd : o.dst = some 26) : Kept A n c P m d xs ys ea ep b1 b2 W0 a0 Q 0 o := by
  obtain ⟨i, hi, hz0, hz1, hz2⟩ := info_parts info_action
  refine ⟨hg, fun b a w h0 hdep hJ => ?_⟩
  obtain ⟨f, rfl, hb, dA, dP, cA, cP, g27, g29, g33, g35, g16, g17⟩ := hJ
  refine wp_build0 _ _ ho i _ Try.underlying44 hi hz0 (by rw [hz1]; decide) ?_
  rw [hd]
  exact ⟨upv f 26 _, over_put (by decide) _, hb.alloc hb.size _, dA.alloc _, dP.alloc _, cA.make0 hb.size, cP.alloc _, g27, g29, g33, g35, g16, g17⟩
theorem kA1 (hg : o.guard = none) (ho : o.op = .move (.tmp 0)) (hd : o.dst = some 27) (e0 : a0.eval (.tmp 0) = .slice A n c) : Kept A n c P m d xs ys ea ep b1 b2 W0 a0 Q 1 o := by
  refine ⟨hg, fun b a w h0 hdep hJ => ?_⟩
  obtain ⟨f, rfl, hb, dA, dP, cA, cP, g27, g29, g33, g35, g16, g17⟩ := hJ
  refine wp_move _ ho ?_
  rw [hd, over_eval_ne (by decide), e0]
  exact ⟨upv f 27 _, over_put (by decide) _, hb, dA, dP, cA, cP, fun _ => rfl, g29, g33, g35, g16, g17⟩
theorem kA2 (hg : o.guard = none) (ho : o.op = .call { callee := .builtin .append, args := #[.tmp 26, .tmp 27], argTypes := #[44, 44] }) (hd : o.dst = some 28) (fs : a0.tmps.size = 172) (hty : o.type = 44)
    (hR : Rd W0 W0.heap.size 5 A n xs) (h1 : ∀ u ∈ xs, u.oneCell' = true) (hz : n * 40 ≤ 140737488351232) (l1 : b1 < W0.heap.size) (l2 : b2 < W0.heap.size) (d0 : ∀ b : Nat → Bool, (∀ e ∈ o.after, Region.binds .any e = true → b e.on = true) → b 0 = true) (d1 : ∀ b : Nat → Bool, (∀ e ∈ o.after, Region.binds .any e = true → b e.on = true) → b 1 = true) : Kept A n c P m d xs ys ea ep b1 b2 W0 a0 Q 2 o := by
  obtain ⟨i, hi, hz0, hz1, hz2⟩ := info_parts info_action
  refine ⟨hg, fun b a w h0 hdep hJ => ?_⟩
  obtain ⟨f, rfl, hb, dA, dP, cA, cP, g27, g29, g33, g35, g16, g17⟩ := hJ
  have hb0 := d0 b hdep
  have hb1 := d1 b hdep
  have own := cA.o0 hb0 h0
  refine wp_append_rd2 hg (.tmp 26) (.tmp 27) 44 ho W0.heap.size 55 i _ 5 40 Try.underlying44 hi hz0 hz1 hz2 rfl (by decide) (f 26) 0 [] (over_eval (by decide) (by rw [fs]; decide)) own W0.heap.size A n c xs ((over_eval (by decide) (by rw [fs]; decide)).trans (g27 hb1)) (hR.below hb) h1 (by simp only [maxLen]; omega) (by omega) hb.size ?_
  intro A' c' w' hown hgr hbk
  rw [hd]
  simp only [Nat.zero_add, List.nil_append] at hown hbk ⊢
  rw [h0] at cA
  exact ⟨upv f 28 _, over_put (by decide) _, own_below own hgr hb (Nat.le_refl _) hb.size, dA.grown hgr (blk_old own l1), dP.grown hgr (blk_old own l2), cA.app1 hb0 hown hgr hbk, cP.grown own (by decide) hgr, g27, g29, g33, g35, g16, g17⟩
theorem kA3 (hg : o.guard = none) (ho : o.op = .load 55 (.tmp 12)) (hd : o.dst = some 29) (e0 : a0.eval (.tmp 12) = .pointer (some ⟨b1, 0, none⟩)) (hs : ea.size = 5) : Kept A n c P m d xs ys ea ep b1 b2 W0 a0 Q 3 o := by
  obtain ⟨i, hi, hz0, hz1, hz2⟩ := info_parts info_action
  refine ⟨hg, fun b a w h0 hdep hJ => ?_⟩
  obtain ⟨f, rfl, hb, dA, dP, cA, cP, g27, g29, g33, g35, g16, g17⟩ := hJ
  refine wp_load_row _ _ ho b1 ((over_eval_ne (by decide)).trans e0) _ ea (0, 0) _ dA Try.underlying55 rfl (by rw [hi, Option.map_some, hz1, hs]) ?_
  rw [hd]
  exact ⟨upv f 29 _, over_put (by decide) _, hb, dA, dP, cA, cP, g27, fun _ => rfl, g33, g35, g16, g17⟩
theorem kA4 (hg : o.guard = none) (ho : o.op = .buildSlice 44 1 #[(0, .tmp 29)]) (hd : o.dst = some 30) (fs : a0.tmps.size = 172) (hs : ea.size = 5)
    (hf : Instr.fill (fun i => some (i * ea.size, ea.size)) ((Array.range (1 * ea.size)).map ((Value.agg #[.int .i64 0, .int .i64 0, .int .i64 0, .int .i64 0, .int .i64 0]).cells[· % (Value.agg #[.int .i64 0, .int .i64 0, .int .i64 0, .int .i64 0, .int .i64 0]).cells.size]!)) [(0, .agg ea)] = some ea) (d3 : ∀ b : Nat → Bool, (∀ e ∈ o.after, Region.binds .any e = true → b e.on = true) → b 3 = true) : Kept A n c P m d xs ys ea ep b1 b2 W0 a0 Q 4 o := by
  obtain ⟨i, hi, hz0, hz1, hz2⟩ := info_parts info_action
  refine ⟨hg, fun b a w h0 hdep hJ => ?_⟩
  obtain ⟨f, rfl, hb, dA, dP, cA, cP, g27, g29, g33, g35, g16, g17⟩ := hJ
  have hb3 := d3 b hdep
  refine wp_build1 _ _ _ ho i _ ea Try.underlying44 hi hz0 (by rw [hz1, hs]) (by rw [hs]; decide) (by rw [hs]; decide) ((over_eval (by decide) (by rw [fs]; decide)).trans (g29 hb3)) hf ?_
  rw [hd]
  exact ⟨upv f 30 _, over_put (by decide) _, hb.alloc hb.size _, dA.alloc _, dP.alloc _, cA.make2 hb.size, cP.alloc _, g27, g29, g33, g35, g16, g17⟩
theorem kA5 (hg : o.guard = none) (ho : o.op = .call { callee := .builtin .append, args := #[.tmp 28, .tmp 30], argTypes := #[44, 44] }) (hd : o.dst = some 31) (fs : a0.tmps.size = 172) (hty : o.type = 44)
    (hs : ea.size = 5) (h1 : ∀ u ∈ ea.toList, u.oneCell' = true) (hz : n * 40 ≤ 140737488351232) (l1 : b1 < W0.heap.size) (l2 : b2 < W0.heap.size) (d2 : ∀ b : Nat → Bool, (∀ e ∈ o.after, Region.binds .any e = true → b e.on = true) → b 2 = true) (d4 : ∀ b : Nat → Bool, (∀ e ∈ o.after, Region.binds .any e = true → b e.on = true) → b 4 = true) : Kept A n c P m d xs ys ea ep b1 b2 W0 a0 Q 5 o := by
  obtain ⟨i, hi, hz0, hz1, hz2⟩ := info_parts info_action
  refine ⟨hg, fun b a w h0 hdep hJ => ?_⟩
  obtain ⟨f, rfl, hb, dA, dP, cA, cP, g27, g29, g33, g35, g16, g17⟩ := hJ
  have hb2 := d2 b hdep
  have hb4 := d4 b hdep
  have own := cA.o1 hb2 h0
  obtain ⟨g, e30, hblk, _, _, _⟩ := cA.o2 hb4 h0
  refine wp_append_rd2 hg (.tmp 28) (.tmp 30) 44 ho W0.heap.size 55 i _ 5 40 Try.underlying44 hi hz0 hz1 hz2 rfl (by decide) (f 28) n xs (over_eval (by decide) (by rw [fs]; decide)) own w.heap.size (some ⟨g, 0, none⟩) 1 1 ea.toList ((over_eval (by decide) (by rw [fs]; decide)).trans e30) (rd_blk hblk 5 1 _ rfl (by rw [hs])) h1 (by simp only [maxLen]; omega) (by omega) hb.size ?_
  intro A' c' w' hown hgr hbk
  rw [hd]
  have cN := cA.app2 hb2 hown
  exact ⟨upv f 31 _, over_put (by decide) _, own_below own hgr hb (Nat.le_refl _) hb.size, dA.grown hgr (blk_old own l1), dP.grown hgr (blk_old own l2), cN, cP.grown own (by decide) hgr, g27, g29, g33, g35, fun h => absurd (g16 h).1 (by rw [h0]; decide), g17⟩
theorem kA6 (hg : o.guard = none) (ho : o.op = .assign (.tmp 31)) (hd : o.dst = some 16) (fs : a0.tmps.size = 172) (d5 : ∀ b : Nat → Bool, (∀ e ∈ o.after, Region.binds .any e = true → b e.on = true) → b 5 = true) : Kept A n c P m d xs ys ea ep b1 b2 W0 a0 Q 12 o := by
  refine ⟨hg, fun b a w h0 hdep hJ => ?_⟩
  obtain ⟨f, rfl, hb, dA, dP, cA, cP, g27, g29, g33, g35, g16, g17⟩ := hJ
  refine wp_assign _ ho ?_
  rw [hd, over_eval (by decide) (by rw [fs]; decide)]
  exact ⟨upv f 16 _, over_put (by decide) _, hb, dA, dP, cA, cP, g27, g29, g33, g35, fun _ => ⟨d5 b hdep, rfl⟩, g17⟩
theorem kP0 (hg : o.guard = none) (ho : o.op = .buildSlice 22 0 #[]) (hd : o.dst = some 32) : Kept A n c P m d xs ys ea ep b1 b2 W0 a0 Q 6 o := by
  obtain ⟨i, hi, hz0, hz1, hz2⟩ := info_parts info_place'
  refine ⟨hg, fun b a w h0 hdep hJ => ?_⟩
  obtain ⟨f, rfl, hb, dA, dP, cA, cP, g27, g29, g33, g35, g16, g17⟩ := hJ
  refine wp_build0 _ _ ho i _ Try.underlying22 hi hz0 (by rw [hz1]; decide) ?_
  rw [hd]
  exact ⟨upv f 32 _, over_put (by decide) _, hb.alloc hb.size _, dA.alloc _, dP.alloc _, cA.alloc _, cP.make0 hb.size, g27, g29, g33, g35, g16, g17⟩
theorem kP1 (hg : o.guard = none) (ho : o.op = .move (.tmp 1)) (hd : o.dst = some 33) (e0 : a0.eval (.tmp 1) = .slice P m d) : Kept A n c P m d xs ys ea ep b1 b2 W0 a0 Q 7 o := by
  refine ⟨hg, fun b a w h0 hdep hJ => ?_⟩
  obtain ⟨f, rfl, hb, dA, dP, cA, cP, g27, g29, g33, g35, g16, g17⟩ := hJ
  refine wp_move _ ho ?_
  rw [hd, over_eval_ne (by decide), e0]
  exact ⟨upv f 33 _, over_put (by decide) _, hb, dA, dP, cA, cP, g27, g29, fun _ => rfl, g35, g16, g17⟩
theorem kP2 (hg : o.guard = none) (ho : o.op = .call { callee := .builtin .append, args := #[.tmp 32, .tmp 33], argTypes := #[22, 22] }) (hd : o.dst = some 34) (fs : a0.tmps.size = 172) (hty : o.type = 22)
    (hR : Rd W0 W0.heap.size 2 P m ys) (h1 : ∀ u ∈ ys, u.oneCell' = true) (hz : m * 16 ≤ 140737488351232) (l1 : b1 < W0.heap.size) (l2 : b2 < W0.heap.size) (d6 : ∀ b : Nat → Bool, (∀ e ∈ o.after, Region.binds .any e = true → b e.on = true) → b 6 = true) (d7 : ∀ b : Nat → Bool, (∀ e ∈ o.after, Region.binds .any e = true → b e.on = true) → b 7 = true) : Kept A n c P m d xs ys ea ep b1 b2 W0 a0 Q 8 o := by
  obtain ⟨i, hi, hz0, hz1, hz2⟩ := info_parts info_place'
  refine ⟨hg, fun b a w h0 hdep hJ => ?_⟩
  obtain ⟨f, rfl, hb, dA, dP, cA, cP, g27, g29, g33, g35, g16, g17⟩ := hJ
  have hb0 := d6 b hdep
  have hb1 := d7 b hdep
  have own := cP.o0 hb0 h0
  refine wp_append_rd2 hg (.tmp 32) (.tmp 33) 22 ho W0.heap.size 25 i _ 2 16 Try.underlying22 hi hz0 hz1 hz2 rfl (by decide) (f 32) 0 [] (over_eval (by decide) (by rw [fs]; decide)) own W0.heap.size P m d ys ((over_eval (by decide) (by rw [fs]; decide)).trans (g33 hb1)) (hR.below hb) h1 (by simp only [maxLen]; omega) (by omega) hb.size ?_
  intro A' c' w' hown hgr hbk
  rw [hd]
  simp only [Nat.zero_add, List.nil_append] at hown hbk ⊢
  rw [h0] at cP
  exact ⟨upv f 34 _, over_put (by decide) _, own_below own hgr hb (Nat.le_refl _) hb.size, dA.grown hgr (blk_old own l1), dP.grown hgr (blk_old own l2), cA.grown own (by decide) hgr, cP.app1 hb0 hown hgr hbk, g27, g29, g33, g35, g16, g17⟩
theorem kP3 (hg : o.guard = none) (ho : o.op = .load 25 (.tmp 13)) (hd : o.dst = some 35) (e0 : a0.eval (.tmp 13) = .pointer (some ⟨b2, 0, none⟩)) (hs : ep.size = 2) : Kept A n c P m d xs ys ea ep b1 b2 W0 a0 Q 9 o := by
  obtain ⟨i, hi, hz0, hz1, hz2⟩ := info_parts info_place'
  refine ⟨hg, fun b a w h0 hdep hJ => ?_⟩
  obtain ⟨f, rfl, hb, dA, dP, cA, cP, g27, g29, g33, g35, g16, g17⟩ := hJ
  refine wp_load_row _ _ ho b2 ((over_eval_ne (by decide)).trans e0) _ ep (0, 0) _ dP Try.underlying25 rfl (by rw [hi, Option.map_some, hz1, hs]) ?_
  rw [hd]
  exact ⟨upv f 35 _, over_put (by decide) _, hb, dA, dP, cA, cP, g27, g29, g33, fun _ => rfl, g16, g17⟩
theorem kP4 (hg : o.guard = none) (ho : o.op = .buildSlice 22 1 #[(0, .tmp 35)]) (hd : o.dst = some 36) (fs : a0.tmps.size = 172) (hs : ep.size = 2)
    (hf : Instr.fill (fun i => some (i * ep.size, ep.size)) ((Array.range (1 * ep.size)).map ((Value.agg #[.int .i64 0, .int .i64 0]).cells[· % (Value.agg #[.int .i64 0, .int .i64 0]).cells.size]!)) [(0, .agg ep)] = some ep) (d9 : ∀ b : Nat → Bool, (∀ e ∈ o.after, Region.binds .any e = true → b e.on = true) → b 9 = true) : Kept A n c P m d xs ys ea ep b1 b2 W0 a0 Q 10 o := by
  obtain ⟨i, hi, hz0, hz1, hz2⟩ := info_parts info_place'
  refine ⟨hg, fun b a w h0 hdep hJ => ?_⟩
  obtain ⟨f, rfl, hb, dA, dP, cA, cP, g27, g29, g33, g35, g16, g17⟩ := hJ
  have hb3 := d9 b hdep
  refine wp_build1 _ _ _ ho i _ ep Try.underlying22 hi hz0 (by rw [hz1, hs]) (by rw [hs]; decide) (by rw [hs]; decide) ((over_eval (by decide) (by rw [fs]; decide)).trans (g35 hb3)) hf ?_
  rw [hd]
  exact ⟨upv f 36 _, over_put (by decide) _, hb.alloc hb.size _, dA.alloc _, dP.alloc _, cA.alloc _, cP.make2 hb.size, g27, g29, g33, g35, g16, g17⟩
theorem kP5 (hg : o.guard = none) (ho : o.op = .call { callee := .builtin .append, args := #[.tmp 34, .tmp 36], argTypes := #[22, 22] }) (hd : o.dst = some 37) (fs : a0.tmps.size = 172) (hty : o.type = 22)
    (hs : ep.size = 2) (h1 : ∀ u ∈ ep.toList, u.oneCell' = true) (hz : m * 16 ≤ 140737488351232) (l1 : b1 < W0.heap.size) (l2 : b2 < W0.heap.size) (d8 : ∀ b : Nat → Bool, (∀ e ∈ o.after, Region.binds .any e = true → b e.on = true) → b 8 = true) (d10 : ∀ b : Nat → Bool, (∀ e ∈ o.after, Region.binds .any e = true → b e.on = true) → b 10 = true) : Kept A n c P m d xs ys ea ep b1 b2 W0 a0 Q 11 o := by
  obtain ⟨i, hi, hz0, hz1, hz2⟩ := info_parts info_place'
  refine ⟨hg, fun b a w h0 hdep hJ => ?_⟩
  obtain ⟨f, rfl, hb, dA, dP, cA, cP, g27, g29, g33, g35, g16, g17⟩ := hJ
  have hb2 := d8 b hdep
  have hb4 := d10 b hdep
  have own := cP.o1 hb2 h0
  obtain ⟨g, e30, hblk, _, _, _⟩ := cP.o2 hb4 h0
  refine wp_append_rd2 hg (.tmp 34) (.tmp 36) 22 ho W0.heap.size 25 i _ 2 16 Try.underlying22 hi hz0 hz1 hz2 rfl (by decide) (f 34) m ys (over_eval (by decide) (by rw [fs]; decide)) own w.heap.size (some ⟨g, 0, none⟩) 1 1 ep.toList ((over_eval (by decide) (by rw [fs]; decide)).trans e30) (rd_blk hblk 2 1 _ rfl (by rw [hs])) h1 (by simp only [maxLen]; omega) (by omega) hb.size ?_
  intro A' c' w' hown hgr hbk
  rw [hd]
  have cN := cP.app2 hb2 hown
  exact ⟨upv f 37 _, over_put (by decide) _, own_below own hgr hb (Nat.le_refl _) hb.size, dA.grown hgr (blk_old own l1), dP.grown hgr (blk_old own l2), cA.grown own (by decide) hgr, cN, g27, g29, g33, g35, g16, fun h => absurd (g17 h).1 (by rw [h0]; decide)⟩
theorem kP6 (hg : o.guard = none) (ho : o.op = .assign (.tmp 37)) (hd : o.dst = some 17) (fs : a0.tmps.size = 172) (d11 : ∀ b : Nat → Bool, (∀ e ∈ o.after, Region.binds .any e = true → b e.on = true) → b 11 = true) : Kept A n c P m d xs ys ea ep b1 b2 W0 a0 Q 13 o := by
  refine ⟨hg, fun b a w h0 hdep hJ => ?_⟩
  obtain ⟨f, rfl, hb, dA, dP, cA, cP, g27, g29, g33, g35, g16, g17⟩ := hJ
  refine wp_assign _ ho ?_
  rw [hd, over_eval (by decide) (by rw [fs]; decide)]
  exact ⟨upv f 17 _, over_put (by decide) _, hb, dA, dP, cA, cP, g27, g29, g33, g35, g16, fun _ => ⟨d11 b hdep, rfl⟩⟩
end

set_option maxRecDepth 100000 in
set_option maxHeartbeats 4000000 in
theorem mediumMore_walk (A : Option Addr) (n c : Nat) (ra : List Ac) (P : Option Addr) (m d : Nat) (ps : List Pt) (r : Int) (J : Option Addr) (k e : Nat) (js : List Jm) (asn : Int) (aa : Ac) (pp : Pt) (w : World)
    (g0 : IsActs w A n c ra) (g1 : IsPlaces w P m d ps) (g2 : (Lit.int .i64 r).wf = true) (g3 : IsJams w J k e js) (g4 : (Lit.int .i64 asn).wf = true) (g5 : wfA aa) (g6 : w64 pp.1 ∧ w64 pp.2) (z0 : n * 40 ≤ 140737488351232) (z1 : m * 16 ≤ 140737488351232) :
    Calls Try.prog 13 #[.slice A n c, .slice P m d, i64 r, .slice J k e, i64 asn, .agg #[i64 aa.act, i64 aa.ch, i64 aa.st, i64 aa.lo, i64 aa.hi], .agg #[i64 pp.1, i64 pp.2]] w fun e w' => e = .returned (.bool true) ∧ Below w.heap.size w w' := by
  have hn := small_of g0
  have hm := small_of g1
  have hk := small_of g3
  obtain ⟨hl, hR, _, _, _⟩ := g0
  obtain ⟨hl1, hP, _, _, _⟩ := g1
  obtain ⟨hl3, hJ, _, _, _⟩ := g3
  clear g2 g4 g5 g6
  obtain ⟨la, lc, ls, ll, lh⟩ := aa
  obtain ⟨px, py⟩ := pp
  dsimp only
  have HL := Lib.hid hl; clear hl
  have HM := Lib.hid hl1; clear hl1
  have HJ := Lib.hid hl3; clear hl3
  have hBa := (Below.refl w.heap.size w).alloc (Nat.le_refl _) (.cells #[i64 la, i64 lc, i64 ls, i64 ll, i64 lh] 55)
  have hB0 := hBa.alloc (by simp) (.cells #[i64 px, i64 py] 25)
  have bA := (Blk.new w 55 #[i64 la, i64 lc, i64 ls, i64 ll, i64 lh]).alloc (.cells #[i64 px, i64 py] 25)
  have bP := Blk.new (w.alloc (.cells #[i64 la, i64 lc, i64 ls, i64 ll, i64 lh] 55)) 25 #[i64 px, i64 py]
  rw [World.size_alloc] at bP
  obtain ⟨ia, hia, hza0, hza1, hza2⟩ := info_parts info_action
  obtain ⟨ip, hip, hzp0, hzp1, hzp2⟩ := info_parts info_place'
  go_enter Try.func13, Try.ntmps13
  go_wp2_with fail
  refine (head_val _).mono ?_
  rintro e w1 ⟨rfl, hb1⟩
  have hB1 := hB0.trans (hb1.mono (by simp; omega))
  have bA1 := bA.up' hb1
  have bP1 := bP.up' hb1
  clear hb1 bA bP hBa hB0
  have fz := bA1.frozen 0
  have cz : w1.cell? ⟨w.heap.size, 0, none⟩ = some (i64 la) := bA1.cell 0
  have bA2 := bA1.set_ 0 (i64 2)
  have bP2 := bP1.far (p := ⟨w.heap.size, 0, none⟩) (by simp) (i64 2)
  have hB2 := hB1.setCell (p := ⟨w.heap.size, 0, none⟩) (Nat.le_refl _) (i64 2)
  simp only [List.setIfInBounds_toArray, List.set_cons_zero] at bA2
  obtain ⟨W, hW⟩ : ∃ W, W = w1.setCell ⟨w.heap.size, 0, none⟩ (i64 2) := ⟨_, rfl⟩
  rw [← hW] at bA2 bP2 hB2
  have HW := Lib.hid hW; clear hW
  go_wp2_with fail
  rw [← HW.out]
  refine wp_region_inv' (FM A n c P m d w.heap.size (w.heap.size + 1)) (JM A n c P m d (ra.flatMap decA) (ps.flatMap decP) #[i64 2, i64 lc, i64 ls, i64 ll, i64 lh] #[i64 px, i64 py] w.heap.size (w.heap.size + 1) W) (by kernel_rfl) (by kernel_rfl) ⟨by rfl, by rfl, by rfl, by rfl, by rfl⟩ ?_ ?_ ?_
  · intro a0
    exact ⟨_, (over_self a0 LM).symm, (Below.refl _ _).drew, bA2.drew, bP2.drew, Ch.first _ _ _ _, Ch.first _ _ _ _, fun h => (by cases h), fun h => (by cases h), fun h => (by cases h), fun h => (by cases h), fun h => (by cases h), fun h => (by cases h)⟩
  · intro a0 hF
    obtain ⟨fs, f0, f1, f12, f13⟩ := hF
    have lA : w.heap.size < W.heap.size := bA2.lt
    have lP : w.heap.size + 1 < W.heap.size := bP2.lt
    have hRW := Lib.hid ((hR.below hB2).more hB2.size)
    have hPW := Lib.hid ((hP.below hB2).more hB2.size)
    exact ⟨kA0 rfl rfl rfl, kA1 rfl rfl rfl f0,
      kA2 rfl rfl rfl fs rfl hRW.out (one_flat one_decA ra) z0 lA lP (fun b h => h ⟨0, .data⟩ (by simp) rfl) (fun b h => h ⟨1, .data⟩ (by simp) rfl),
      kA3 rfl rfl rfl f12 rfl, kA4 rfl rfl rfl fs rfl fillA (fun b h => h ⟨3, .data⟩ (by simp) rfl),
      kA5 rfl rfl rfl fs rfl rfl (one_decA ⟨2, lc, ls, ll, lh⟩) z0 lA lP (fun b h => h ⟨2, .data⟩ (by simp) rfl) (fun b h => h ⟨4, .data⟩ (by simp) rfl),
      kP0 rfl rfl rfl, kP1 rfl rfl rfl f1,
      kP2 rfl rfl rfl fs rfl hPW.out (one_flat one_decP ps) z1 lA lP (fun b h => h ⟨6, .data⟩ (by simp) rfl) (fun b h => h ⟨7, .data⟩ (by simp) rfl),
      kP3 rfl rfl rfl f13 rfl, kP4 rfl rfl rfl fs rfl fillP (fun b h => h ⟨9, .data⟩ (by simp) rfl),
      kP5 rfl rfl rfl fs rfl rfl (one_decP (px, py)) z1 lA lP (fun b h => h ⟨8, .data⟩ (by simp) rfl) (fun b h => h ⟨10, .data⟩ (by simp) rfl),
      kA6 rfl rfl rfl fs (fun b h => h ⟨5, .data⟩ (by simp) rfl), kP6 rfl rfl rfl fs (fun b h => h ⟨11, .data⟩ (by simp) rfl), trivial⟩
  · intro b a' w' hall hJ
    obtain ⟨f, rfl, hb, _, _, cA, cP, _, _, _, _, g16, g17⟩ := hJ
    have o5 := cA.o3 (hall 5 (by simp))
    have o11 := cP.o3 (hall 11 (by simp))
    have e16 := (g16 (hall 12 (by simp))).2
    have e17 := (g17 (hall 13 (by simp))).2
    obtain ⟨A5, c5, e31, _⟩ := own_form o5
    obtain ⟨A11, c11, e37, _⟩ := own_form o11
    rw [e31] at e16 o5
    rw [e37] at e17 o11
    clear cA cP g16 g17 hall
    simp only [LM, over]
    rw [e16, e17, e31, e37]
    generalize f 26 = y26
    generalize f 27 = y27
    generalize f 28 = y28
    generalize f 29 = y29
    generalize f 30 = y30
    generalize f 32 = y32
    generalize f 33 = y33
    generalize f 34 = y34
    generalize f 35 = y35
    generalize f 36 = y36
    simp only [Act.put, List.setIfInBounds_toArray, List.set_cons_zero, List.set_cons_succ]
    have hBX := below_trans' hB2 hb
    have hRA := Lib.hid (Rd.of_own o5)
    have hRP := Lib.hid (Rd.of_own o11)
    have hLA : Hid ((ra ++ [(⟨2, lc, ls, ll, lh⟩ : Ac)]).length = n + 1) := by rw [List.length_append, HL.out]; exact Lib.hid rfl
    have hLP : Hid ((ps ++ [(px, py)]).length = m + 1) := by rw [List.length_append, HM.out]; exact Lib.hid rfl
    have hn1 : n + 1 ≤ maxLen := by unfold maxLen; omega
    have hm1 : m + 1 ≤ maxLen := by unfold maxLen; omega
    clear o5 o11 hb bA1 bP1 bA2 bP2 fz cz hB1 hB2 HW e31 e37 e16 e17
    cases hf : (fewB n m k && okm ra ps r asn)
    · have HF := Lib.hid hf; clear hf
      go_wp2_with fail
      refine (valid_val A n c P m d w.heap.size J k _ ra ps r asn false HF.out _ (hR.below hBX) (hP.below hBX) hBX.size HL.out HM.out hn hm hk).mono ?_
      rintro e w2 ⟨rfl, hb2⟩
      go_wp2_with fail
      go_ret
      exact ⟨rfl, below_trans' hBX hb2⟩
    have HF := Lib.hid hf
    rw [Bool.and_eq_true] at hf
    obtain ⟨hfew, hok⟩ := hf
    obtain ⟨rfl, hn2⟩ : n = m ∧ n ≤ 200 := by
      have := hok
      rw [okm_frame, HL.out, HM.out] at this
      simp only [Bool.and_eq_true] at this
      exact ⟨(frame_true this.1).1, (frame_true this.1).2.1⟩
    have HO := Lib.hid hok; clear hok hfew
    cases hf : (fewB (n + 1) (n + 1) k && okm (ra ++ [⟨2, lc, ls, ll, lh⟩]) (ps ++ [(px, py)]) r asn)
    · have HF2 := Lib.hid hf; clear hf
      go_wp2_with fail
      refine (valid_val A n c P n d w.heap.size J k _ ra ps r asn true HF.out _ (hR.below hBX) (hP.below hBX) hBX.size HL.out HM.out hn hm hk).mono ?_
      rintro e w2 ⟨rfl, hb2⟩
      have hb2' := hb2.mono (Nat.le_refl _)
      go_wp2_with fail
      refine (valid_val A5 (n + 1) c5 A11 (n + 1) c11 w2.heap.size J k _ (ra ++ [⟨2, lc, ls, ll, lh⟩]) (ps ++ [(px, py)]) r asn false HF2.out _ ?h1 ?h2 (Nat.le_refl _) hLA.out hLP.out hn1 hm1 hk).mono ?_
      case h1 => rw [List.flatMap_append]; exact hRA.out.up hb2
      case h2 => rw [List.flatMap_append]; exact hRP.out.up hb2
      rintro e w3 ⟨rfl, hb3⟩
      go_wp2_with fail
      go_ret
      exact ⟨rfl, below_trans' (below_trans' hBX hb2) hb3⟩
    have HF2 := Lib.hid hf
    rw [Bool.and_eq_true] at hf
    have HO2 := Lib.hid hf.2
    clear hf
    obtain ⟨a5, ha5, ha2⟩ : ∃ a5 : Ac, (⟨2, lc, ls, ll, lh⟩ : Ac) = a5 ∧ a5.act = 2 := ⟨_, rfl, rfl⟩
    rw [ha5] at HF2 HO2 hLA
    have eRA : Hid (ra.flatMap decA ++ [i64 2, i64 lc, i64 ls, i64 ll, i64 lh] = (ra ++ [a5]).flatMap decA) := by
      show _ = _
      rw [← ha5, List.flatMap_append]; rfl
    have eRP : Hid (ps.flatMap decP ++ [i64 px, i64 py] = (ps ++ [(px, py)]).flatMap decP) := by
      show _ = _
      rw [List.flatMap_append]; rfl
    have hRA' : Rd w' w'.heap.size 5 A5 (n + 1) ((ra ++ [a5]).flatMap decA) := by rw [← eRA.out]; exact hRA.out
    have hRP' : Rd w' w'.heap.size 2 A11 (n + 1) ((ps ++ [(px, py)]).flatMap decP) := by rw [← eRP.out]; exact hRP.out
    have HRA := Lib.hid hRA'
    have HRP := Lib.hid hRP'
    clear hRA hRP hRA' hRP' eRA eRP ha5
    have hbw := Below.refl w'.heap.size w'
    go_wp2_with fail
    refine (valid_val A n c P n d w.heap.size J k _ ra ps r asn true HF.out _ (hR.below hBX) (hP.below hBX) hBX.size HL.out HM.out hn hm hk).mono ?_
    rintro e w2 ⟨rfl, hb2⟩
    go_wp2_with fail
    refine (valid_val A5 (n + 1) c5 A11 (n + 1) c11 w2.heap.size J k _ (ra ++ [a5]) (ps ++ [(px, py)]) r asn true HF2.out _ (HRA.out.up hb2) (HRP.out.up hb2) (Nat.le_refl _) hLA.out hLP.out hn1 hm1 hk).mono ?_
    rintro e w3 ⟨rfl, hb3⟩
    have hb23 := below_trans' hb2 hb3
    have hB3 := below_trans' hBX hb23
    go_wp2_with fail
    refine (mdCatch_good A n c P d w.heap.size J k _ ra ps r js asn HO.out _ (hR.below hB3) (hP.below hB3) (hJ.below hB3) hB3.size HL.out HM.out HJ.out hk).mono ?_
    rintro e w4 ⟨G, rfl, hG, hb4⟩
    have hb24 := below_trans' hb23 hb4
    have hB4 := below_trans' hB3 hb4
    have HG := Lib.hid hG; clear hG
    go_wp2_with fail
    refine (mdCatch_good A5 (n + 1) c5 A11 c11 w4.heap.size J k _ (ra ++ [a5]) (ps ++ [(px, py)]) r js asn HO2.out _ (HRA.out.up hb24) (HRP.out.up hb24) ((hJ.below hB4).more hB4.size) (Nat.le_refl _) hLA.out hLP.out HJ.out hk).mono ?_
    rintro e w5 ⟨G', rfl, hG', hb5⟩
    have hb25 := below_trans' hb24 hb5
    have hB5 := below_trans' hB4 hb5
    have HG' := Lib.hid hG'; clear hG'
    have HG5 := Lib.hid (HG.out.up hb5)
    have HRA5 := Lib.hid (HRA.out.up hb25)
    have HRP5 := Lib.hid (HRP.out.up hb25)
    have hcn : w5.cell? ⟨G', n, none⟩ = some (i64 (-1)) := by
      obtain ⟨b', off', u, e, _, hu, hc⟩ := HG'.out.at_ (show n < n + 1 by omega)
      simp only [Option.some.injEq, Addr.mk.injEq, and_true] at e
      obtain ⟨rfl, rfl⟩ := e
      rw [List.getElem?_map, catl_get (by rw [hLA.out]; omega), more_last HL.out ha2] at hu
      rw [Nat.zero_add] at hc
      rw [hc]
      simpa using hu.symm
    have q1 : ((0 : Int) ≤ (n : Int)) = True := by simp
    have q2 : ((n : Int) < ((n + 1 : Nat) : Int)) = True := by simp; omega
    clear hb2 hb3 hb4 hb5 hb23 hb24 hb25 hB3 hB4 hbw HG HRA HRP HF HF2
    go_wp2_with fail
    go_loopw [23, 102] (fun _ i wr => ∃ t : Nat, t ≤ n ∧ i = .int .i64 t ∧ Below w5.heap.size w5 wr) (fun _ i _ => n - (intOf i).toNat)
    case atStart => exact ⟨0, Nat.zero_le _, rfl, Below.refl _ _⟩
    case round =>
      obtain ⟨i, hi, rfl, hb7⟩ := hrel
      by_cases hlt : i < n
      · have hil : i < ra.length := by have := HL.out; omega
        obtain ⟨z, hz⟩ : ∃ z, cat ra ps r js asn i = z := ⟨_, rfl⟩
        obtain ⟨y, hy⟩ : ∃ y, cat (ra ++ [a5]) (ps ++ [(px, py)]) r js asn i = y := ⟨_, rfl⟩
        obtain ⟨v, hv⟩ : ∃ v, hkd (ra ++ [a5]) (ps ++ [(px, py)]) r i n = v := ⟨_, rfl⟩
        have cx : wr.cell? ⟨G, i, none⟩ = some (i64 z) := by
          obtain ⟨b', off', u, e, _, hu, hc⟩ := (HG5.out.up hb7).at_ hlt
          simp only [Option.some.injEq, Addr.mk.injEq, and_true] at e
          obtain ⟨rfl, rfl⟩ := e
          rw [List.getElem?_map, catl_get hil, hz] at hu
          rw [Nat.zero_add] at hc
          rw [hc]
          simpa using hu.symm
        have cy : wr.cell? ⟨G', i, none⟩ = some (i64 y) := by
          obtain ⟨b', off', u, e, _, hu, hc⟩ := (HG'.out.up hb7).at_ (show i < n + 1 by omega)
          simp only [Option.some.injEq, Addr.mk.injEq, and_true] at e
          obtain ⟨rfl, rfl⟩ := e
          rw [List.getElem?_map, catl_get (by rw [hLA.out]; omega), hy] at hu
          rw [Nat.zero_add] at hc
          rw [hc]
          simpa using hu.symm
        have CX := Lib.hid cx; clear cx
        have CY := Lib.hid cy; clear cy
        have LV := Lib.hid (lawHeard_val A5 (n + 1) c5 A11 c11 wr.heap.size (ra ++ [a5]) (ps ++ [(px, py)]) r n i v hv (by omega) (by omega) wr ((HRA5.out.up hb7)) ((HRP5.out.up hb7)) (Nat.le_refl _) hLA.out hLP.out (by omega))
        have hB7 := below_trans' hB5 hb7
        cases v
        · obtain rfl : y = z := by rw [← hy, ← hz]; exact more_not HL.out HM.out hlt hv
          clear hz hy hv
          go_wp2_with fail
          refine LV.out.mono ?_
          rintro e w8 ⟨rfl, hb8⟩
          have hb9 := below_trans' hb7 hb8
          have cx := cup CX.out hb8
          have cy := cup CY.out hb8
          go_wp2_with fail
          go_quiet (fail)
          go_wp2_with fail
          go_roundw
          case rel => exact ⟨i + 1, by omega, by go_num, below_drewN' hb9 _⟩
          case measure => simp [intOf]; omega
        · have hcase := more_heard (js := js) (asn := asn) HL.out HM.out hlt hv
          rw [hz, hy] at hcase
          clear hz hy hv
          have k1 : ((-1 : Int) == (n : Int)) = false := by rw [beq_eq_false_iff_ne]; omega
          have k2 : ((-2 : Int) == (n : Int)) = false := by rw [beq_eq_false_iff_ne]; omega
          go_wp2_with fail
          refine LV.out.mono ?_
          rintro e w8 ⟨rfl, hb8⟩
          have hb9 := below_trans' hb7 hb8
          have cx := cup CX.out hb8
          have cy := cup CY.out hb8
          clear CX CY LV
          rcases hcase with ⟨rfl, rfl⟩ | ⟨rfl, rfl⟩ | rfl
          · go_wp2_with fail
            go_roundw
            case rel => exact ⟨i + 1, by omega, by go_num, hb9⟩
            case measure => simp [intOf]; omega
          · go_wp2_with fail
            go_roundw
            case rel => exact ⟨i + 1, by omega, by go_num, hb9⟩
            case measure => simp [intOf]; omega
          · cases hz1 : (z == -1)
            · go_wp2_with fail
              all_goals
                go_roundw
                case rel => exact ⟨i + 1, by omega, by go_num, hb9⟩
                case measure => simp [intOf]; omega
            · obtain rfl : z = -1 := by simpa using hz1
              clear hz1
              go_wp2_with fail
              go_roundw
              case rel => exact ⟨i + 1, by omega, by go_num, hb9⟩
              case measure => simp [intOf]; omega
      · go_wp2_with fail
        go_ret
        exact ⟨rfl, below_trans' hB5 hb7⟩
end Go.Proofs.Yteeloebhjmmpdaa.Md
