/- The canonical text hangs on the commands; a script's tokens with other gaps. -/
import Derived.Test.YtbgekgakamincaaDoorPsCan2
namespace Go.Proofs.YtbgekgakamincaaDoor.Pr
open Go.RowKit Go.Proofs.YtbgekgakamincaaDoor.Lx Go.Proofs.YtbgekgakamincaaDoor.Ps
set_option linter.unusedVariables false

theorem keys_back {l xs : List Cm} (hv : validB l = true) (h : xs.map keyQ = (cmdsAt 0 l).map keyR) : xs.map keyC = l.map keyC := by
  have h1 : xs.map keyC = (xs.map keyQ).map (fun x => (x.1, x.2.1, x.2.2.1)) := by rw [List.map_map]; rfl
  have h2 : (cmdsAt 0 l).map keyP = ((cmdsAt 0 l).map keyR).map (fun x => (x.1, x.2.1, x.2.2.1)) := by rw [List.map_map]; rfl
  rw [h1, h, ← h2]
  exact cmdsAt_key l 0 (valid_all hv).2
theorem out_key (l : List Cm) : outL l = (l.map keyC).flatMap fun k => lineL k.1 k.2.1.data.toList k.2.2 ++ [10] := by
  unfold outL
  rw [List.flatMap_map]
  rfl
theorem valid_key (l : List Cm) : validB l = (decide ((l.map keyC).length ≤ 300) && (l.map keyC).all fun k => cmdB k.1 k.2.1 k.2.2) := by
  unfold validB
  rw [List.length_map, List.all_map]
  rfl
theorem print_key {a b : List Cm} (h : a.map keyC = b.map keyC) : printL a = printL b := by
  have h1 : outL a = outL b := by rw [out_key, out_key, h]
  have h2 : validB a = validB b := by rw [valid_key, valid_key, h]
  unfold printL
  rw [h1, h2]
/-- Tokens, each with a gap. -/
def gapR (g : Nat → List UInt8) : Nat → List Tok → List (Tok × List UInt8)
  | _, [] => []
  | i, t :: ts => (t, g i) :: gapR g (i + 1) ts
theorem gapR_len (g : Nat → List UInt8) : ∀ (ts : List Tok) (i : Nat), (gapR g i ts).length = ts.length
  | [], i => rfl
  | t :: ts, i => by simp only [gapR, List.length_cons, gapR_len g ts]
theorem gapR_good (g : Nat → List UInt8) (hg : ∀ i, GoodG (g i) ∧ g i ≠ []) : ∀ (ts : List Tok) (i : Nat), (∀ t ∈ ts, ∃ k, GoodT t k) → GoodS (gapR g i ts)
  | [], i, _ => trivial
  | t :: ts, i, h => by
    obtain ⟨k, hk⟩ := h t (List.mem_cons_self ..)
    obtain ⟨g1, g2⟩ := hg i
    refine ⟨⟨k, hk, fun d u e => ?_⟩, .inr g1, gapR_good g hg ts (i + 1) (fun u hu => h u (List.mem_cons_of_mem _ hu))⟩
    have e' : g i ++ gtx (gapR g (i + 1) ts) = d :: u := e
    cases hq : g i with
    | nil => exact absurd hq g2
    | cons c r =>
      rw [hq] at e'
      injection e' with e1 _
      subst e1
      exact g1.head k c r hk.k2 hq
theorem gapR_er (g : Nat → List UInt8) : ∀ (ts : List Tok) (i p : Nat), (tksAt p (gapR g i ts)).map er = ts.map er
  | [], i, p => rfl
  | t :: ts, i, p => by
    simp only [gapR, tksAt, List.map_cons, gapR_er g ts]
    rfl
theorem gapR_snoc (g : Nat → List UInt8) : ∀ (ts : List Tok) (t : Tok) (i : Nat), gtx (gapR g i (ts ++ [t])) = gtx (gapR g i ts) ++ (textL t ++ g (i + ts.length))
  | [], t, i => by simp [gapR, gtx]
  | u :: ts, t, i => by
    simp only [List.cons_append, gapR, gtx, gapR_snoc g ts t (i + 1), List.append_assoc, List.length_cons]
    rw [show i + 1 + ts.length = i + (ts.length + 1) by omega]
end Go.Proofs.YtbgekgakamincaaDoor.Pr
