/- The door of the reader's command: what the deferred closure leaves. -/
import Derived.Test.YtmdogklgbifacaaDoorPsSel
namespace Go.Proofs.YtmdogklgbifacaaDoor.Ps
open Go.RowKit Go.Proofs.YtmdogklgbifacaaDoor.Lx Go.Proofs.YtmdogklgbifacaaDoor.Pr
set_option linter.unusedVariables false

section
variable {wP W w2 w' : World} {rb e : Nat} {ts : List Tok}
theorem res_run (t0 t1 : Value) (l : List Value) (c0 c1 : Nat) (x y : Value) (w : World) (hx : w.cell? ⟨c0, 0, none⟩ = some x) (hy : w.cell? ⟨c1, 0, none⟩ = some y) :
    (results Tryd.f32 (t0 :: t1 :: .pointer (some ⟨c0, 0, none⟩) :: .pointer (some ⟨c1, 0, none⟩) :: l).toArray).run Tryd.prog w = .ok (.tuple #[x, y]) w := by
  simp [results, Tryd.f32, go_sem, hx, hy]
theorem door_panic {p : Nat} (hm : CmdMid wP rb e ts w2 (some p) w') (hG : Gr rb none W w2) (hP : wP.heap.size ≤ W.heap.size) (hrb : rb < W.heap.size) {x y : Value} (h0 : Blk w2 W.heap.size 3 #[x]) (h1 : Blk w2 (W.heap.size + 1) 4 #[y]) (t0 t1 : Value) (l : List Value) :
    Leaves Tryd.prog Tryd.f32 (t0 :: t1 :: .pointer (some ⟨W.heap.size, 0, none⟩) :: .pointer (some ⟨W.heap.size + 1, 0, none⟩) :: l).toArray (CmdOut wP rb e ts W)
      [{ target := .fn (.func 52) #[.pointer (some ⟨W.heap.size, 0, none⟩), .pointer (some ⟨W.heap.size + 1, 0, none⟩)], args := #[] }] (.panicking [{ v := FV p, recovered := false }]) w' := by
  obtain ⟨A', n', c', K', nm', NV', ns', at', g1, g2, g3, g4⟩ := hm
  have b0 := g2.blk h0 (by omega) (by simp)
  have b1 := g2.blk h1 (by omega) (by simp)
  have hz := CmdMid.out ⟨A', n', c', K', nm', NV', ns', at', g1, g2, g3, g4⟩ hG hP (Nat.le_refl _) (Nat.le_succ _) h0.lt h1.lt (by omega) (by omega)
  have b0' := b0.set_ 0 (.int .i64 (posV (some p)))
  have b0'' := b0'.far (p := ⟨W.heap.size + 1, 0, none⟩) (show W.heap.size ≠ W.heap.size + 1 by omega) (.bool (okV (some p)))
  have b1' := (b1.far (p := ⟨W.heap.size, 0, none⟩) (show W.heap.size + 1 ≠ W.heap.size by omega) (.int .i64 (posV (some p)))).set_ 0 (.bool (okV (some p)))
  refine leaves_cons (f := 52) (args := #[.pointer (some ⟨W.heap.size, 0, none⟩), .pointer (some ⟨W.heap.size + 1, 0, none⟩)]) (by simp) (by simp [go_sem]) ?_
  refine (end_panic W.heap.size (W.heap.size + 1) x y p [] w' (b0.cell 0) (b0.frozen 0) (b1.cell 0) (b1.frozen 0) (by omega)).mono ?_
  rintro e' u' w'' ⟨rfl, rfl, rfl⟩
  exact ⟨_, res_run t0 t1 l _ _ _ _ _ (b0''.cell 0) (b1'.cell 0), hz⟩
theorem door_done {wd : World} (hm : CmdMid wP rb e ts w2 none w') (hG : Gr rb none W w2) (hP : wP.heap.size ≤ W.heap.size) (hrb : rb < W.heap.size) {x y : Value} (h0 : Blk w2 W.heap.size 3 #[x]) (h1 : Blk w2 (W.heap.size + 1) 4 #[y]) (t0 t1 : Value) (l : List Value)
    (hw : wd = (w'.setCell ⟨W.heap.size, 0, none⟩ (.int .i64 0)).setCell ⟨W.heap.size + 1, 0, none⟩ (.bool true)) :
    Leaves Tryd.prog Tryd.f32 (t0 :: t1 :: .pointer (some ⟨W.heap.size, 0, none⟩) :: .pointer (some ⟨W.heap.size + 1, 0, none⟩) :: l).toArray (CmdOut wP rb e ts W)
      [{ target := .fn (.func 52) #[.pointer (some ⟨W.heap.size, 0, none⟩), .pointer (some ⟨W.heap.size + 1, 0, none⟩)], args := #[] }] .returning wd := by
  subst hw
  obtain ⟨A', n', c', K', nm', NV', ns', at', g1, g2, g3, g4⟩ := hm
  have b0 := g2.blk h0 (by omega) (by simp)
  have b1 := g2.blk h1 (by omega) (by simp)
  have hz := CmdMid.out ⟨A', n', c', K', nm', NV', ns', at', g1, g2, g3, g4⟩ hG hP (Nat.le_refl _) (Nat.le_succ _) h0.lt h1.lt (by omega) (by omega)
  have b0' := b0.set_ 0 (.int .i64 (posV none))
  have b0'' := b0'.far (p := ⟨W.heap.size + 1, 0, none⟩) (show W.heap.size ≠ W.heap.size + 1 by omega) (.bool (okV none))
  have b1' := (b1.far (p := ⟨W.heap.size, 0, none⟩) (show W.heap.size + 1 ≠ W.heap.size by omega) (.int .i64 (posV none))).set_ 0 (.bool (okV none))
  refine leaves_cons (f := 52) (args := #[.pointer (some ⟨W.heap.size, 0, none⟩), .pointer (some ⟨W.heap.size + 1, 0, none⟩)]) (by simp) (by simp [go_sem]) ?_
  refine (end_idle W.heap.size (W.heap.size + 1) _).mono ?_
  rintro e' u' w'' ⟨rfl, rfl, rfl⟩
  exact ⟨_, res_run t0 t1 l _ _ _ _ _ (b0''.cell 0) (b1'.cell 0), hz⟩
end
end Go.Proofs.YtmdogklgbifacaaDoor.Ps
