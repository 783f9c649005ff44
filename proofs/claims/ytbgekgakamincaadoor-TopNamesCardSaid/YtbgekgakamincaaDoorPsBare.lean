/- Commands compared without their offsets. -/
import Derived.Test.YtbgekgakamincaaDoorPsA
import Derived.Test.YtbgekgakamincaaDoorPsLine
namespace Go.Proofs.YtbgekgakamincaaDoor.Pr
open Go.RowKit Go.Proofs.YtbgekgakamincaaDoor.Lx Go.Proofs.YtbgekgakamincaaDoor.Ps
set_option linter.unusedVariables false

theorem key_bare : ∀ (a b : List Cm), ((a.map bareC).map keyA = (b.map bareC).map keyA) ↔ a.map keyC = b.map keyC := by
  intro a b
  have hf : ∀ l : List Cm, (l.map bareC).map keyA = (l.map keyC).map fun k => (k.1, k.2.1, k.2.2, (0 : Int)) := by
    intro l; rw [List.map_map, List.map_map]; rfl
  rw [hf a, hf b]
  constructor
  · intro h
    refine (List.map_inj_right (fun x y e => ?_)).1 h
    simp only [Prod.mk.injEq, and_true] at e
    exact Prod.ext e.1 (Prod.ext e.2.1 e.2.2)
  · intro h; rw [h]
theorem same_bare (a b : List Cm) : sameC (a.map bareC) (b.map bareC) = decide (a.map keyC = b.map keyC) := by
  unfold sameC
  rw [decide_eq_decide]
  exact key_bare a b
theorem rprint_ok {l : List Cm} (h : (rprintL l).2 = 0) : validB l = true ∧ (outL l).length ≤ 8000 ∧ tokL l ≤ 2000 ∧ rprintL l = (outL l, 0) := by
  rcases rprint_cases l with ⟨x1, x2⟩ | ⟨x1, x2, x3⟩ | x
  · rw [x2] at h; cases h
  · rw [x3] at h; cases h
  · exact x
end Go.Proofs.YtbgekgakamincaaDoor.Pr
