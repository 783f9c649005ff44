/- What a script without diagnostics reads is valid; the forms' first words. -/
import Derived.Test.YtbgekgakamincaaDoorPsLoop2
import Derived.Test.YtbgekgakamincaaDoorPsBare
import Derived.Test.YtbgekgakamincaaDoorPsCan3
namespace Go.Proofs.YtbgekgakamincaaDoor.Ps
open Go.RowKit Go.Proofs.YtbgekgakamincaaDoor.Lx Go.Proofs.YtbgekgakamincaaDoor.Pr
set_option linter.unusedVariables false

theorem keyC_of_R {xs : List Cm} {cs : List PC} (h : xs.map keyQ = cs.map keyR) : xs.map keyC = cs.map keyP := by
  have h1 : xs.map keyC = (xs.map keyQ).map (fun x => (x.1, x.2.1, x.2.2.1)) := by rw [List.map_map]; rfl
  have h2 : cs.map keyP = (cs.map keyR).map (fun x => (x.1, x.2.1, x.2.2.1)) := by rw [List.map_map]; rfl
  rw [h1, h, ← h2]
theorem valid_of {xs : List Cm} {l : List UInt8} (h : xs.map keyQ = (PARSE l).1.map keyR) (h2 : (PARSE l).2 = []) : validB xs = true := by
  obtain ⟨g1, g2, _⟩ := parse_good h2 (good_reads h2).1
  have hk := keyC_of_R h
  rw [valid_key, hk, List.length_map, List.all_map]
  rw [Bool.and_eq_true]
  refine ⟨decide_eq_true g1, List.all_eq_true.2 (fun c hc => g2 c hc)⟩
theorem bare_key (xs : List Cm) : (xs.map bareC).map keyC = xs.map keyC := by rw [List.map_map]; rfl
theorem valid_bare (xs : List Cm) : validB (xs.map bareC) = validB xs := by rw [valid_key, valid_key, bare_key]
theorem bare_bare (xs : List Cm) : (xs.map bareC).map bareC = xs.map bareC := by rw [List.map_map]; rfl
theorem same_refl (xs : List Cm) : sameC xs xs = true := decide_eq_true rfl
theorem key_at {xs : List Cm} {cs : List PC} (h : xs.map keyQ = cs.map keyR) {k : Nat} (hk : k < xs.length) (hc : k < cs.length) : xs[k].kind = (cs[k].kind : Nat) ∧ xs[k].pos = (cs[k].pos : Nat) := by
  have h1 : (xs.map keyQ)[k]? = (cs.map keyR)[k]? := by rw [h]
  rw [List.getElem?_map, List.getElem?_map, List.getElem?_eq_getElem hk, List.getElem?_eq_getElem hc] at h1
  injection h1 with h1
  exact ⟨congrArg (·.1) h1, congrArg (fun x => x.2.2.2) h1⟩
theorem key_len {xs : List Cm} {cs : List PC} (h : xs.map keyQ = cs.map keyR) : xs.length = cs.length := by
  have := congrArg List.length h
  rwa [List.length_map, List.length_map] at this
theorem part_head {j : Nat} (h1 : 1 ≤ j) (h2 : j < 12) : (formB (j : Nat)).size ≤ 1000 ∧ ∃ ps, partsL [] (formB (j : Nat)).data.toList = headW j :: ps := by
  refine ⟨?_, (partsL [] (formB (j : Nat)).data.toList).tail, ?_⟩
  · rcases kinds11 h1 h2 with rfl | rfl | rfl | rfl | rfl | rfl | rfl | rfl | rfl | rfl | rfl <;> exact of_decide_eq_true (by kernel_rfl)
  · rcases kinds11 h1 h2 with rfl | rfl | rfl | rfl | rfl | rfl | rfl | rfl | rfl | rfl | rfl <;> kernel_rfl
end Go.Proofs.YtbgekgakamincaaDoor.Ps
