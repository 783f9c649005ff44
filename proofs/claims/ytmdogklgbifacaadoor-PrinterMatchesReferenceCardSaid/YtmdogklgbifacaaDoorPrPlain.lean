/- The printer in plain Lean: lines of commands. -/
import Derived.Test.YtmdogklgbifacaaDoorPrCmdR
import Derived.Test.YtmdogklgbifacaaDoorPrNum
namespace Go.Proofs.YtmdogklgbifacaaDoor.Pr
open Go.RowKit Go.Proofs.YtmdogklgbifacaaDoor.Lx
set_option linter.unusedVariables false

/-- The printer's form of a kind. -/
def formP (k : Nat) : List UInt8 :=
  if k = 1 then [109, 101, 115, 104, 32, 100, 97, 116, 97, 32, 35, 32, 114, 97, 110, 103, 101, 32, 35]
  else if k = 2 then [114, 111, 111, 116, 32, 78, 32, 97, 116, 32, 35, 32, 35]
  else if k = 3 then [110, 111, 100, 101, 32, 78, 32, 97, 116, 32, 35, 32, 35, 32, 37, 32, 98, 97, 116, 116, 101, 114, 121, 32, 35]
  else if k = 4 then [97, 116, 32, 35, 32, 109, 111, 118, 101, 32, 78, 32, 35, 32, 35]
  else if k = 5 then [97, 116, 32, 35, 32, 102, 97, 105, 108, 32, 78]
  else if k = 6 then [97, 116, 32, 35, 32, 115, 116, 97, 114, 116, 32, 78]
  else if k = 7 then [97, 116, 32, 35, 32, 114, 101, 97, 100, 32, 78, 32, 35]
  else if k = 8 then [97, 116, 32, 35, 32, 106, 97, 109, 32, 35, 32, 35, 32, 114, 97, 100, 105, 117, 115, 32, 35, 32, 99, 104, 97, 110, 110, 101, 108, 32, 35, 32, 102, 111, 114, 32, 35]
  else if k = 9 then [97, 116, 32, 35, 32, 114, 101, 112, 108, 97, 121, 32, 35, 32, 97, 116, 32, 35, 32, 35]
  else if k = 10 then [97, 116, 32, 35, 32, 112, 114, 111, 103, 114, 97, 109, 32, 35, 32, 115, 105, 122, 101, 32, 35]
  else if k = 11 then [114, 117, 110, 32, 35]
  else []
/-- The digits of a number. -/
def dg (v : Int) : List UInt8 := Lib.decDigits v.natAbs
/-- What stands behind a part of a form. -/
def wrF (nm : List UInt8) : List UInt8 → List Int → List UInt8
  | [], _ => []
  | c :: r, ns => if c = 78 then nm ++ wrF nm r ns else if c = 37 then driftL (ns.headD 0) ++ wrF nm r ns.tail else if c = 35 then dg (ns.headD 0) ++ wrF nm r ns.tail else c :: wrF nm r ns
/-- The line of a command, without its line feed. -/
def lineL (k : Int) (nm : List UInt8) (ns : List Int) : List UInt8 := wrF nm (formP k.toNat) ns ++ [59]
def kind11 (k : Int) : Prop := k = 1 ∨ k = 2 ∨ k = 3 ∨ k = 4 ∨ k = 5 ∨ k = 6 ∨ k = 7 ∨ k = 8 ∨ k = 9 ∨ k = 10 ∨ k = 11
theorem numsB_get : ∀ (ns : List Int) (k : Int) (i : Nat), numsB k i ns = true → ∀ j (h : j < ns.length), numB k (i + j) ns[j] = true
  | [], k, i, h, j, hj => absurd hj (by simp)
  | v :: r, k, i, h, 0, hj => by simp only [numsB, Bool.and_eq_true] at h; exact h.1
  | v :: r, k, i, h, j + 1, hj => by
    simp only [numsB, Bool.and_eq_true] at h
    have := numsB_get r k (i + 1) h.2 j (by simpa using hj)
    rw [show i + (j + 1) = i + 1 + j by omega]
    exact this
structure OkC (k : Int) (nm : ByteArray) (ns : List Int) : Prop where
  kind : kind11 k
  len : (ns.length : Int) = (shapeOf k).2
  named : (shapeOf k).1 = true → nameB nm = true
  bare : (shapeOf k).1 = false → nm.size = 0
  nums : ∀ j (h : j < ns.length), numB k j ns[j] = true
theorem okC_of {k : Int} {nm : ByteArray} {ns : List Int} (h : cmdB k nm ns = true) : OkC k nm ns := by
  unfold cmdB at h
  simp only [Bool.and_eq_true, decide_eq_true_eq, Bool.or_eq_true, Bool.not_eq_true'] at h
  obtain ⟨⟨h1, h2⟩, h3, h4⟩ := h
  refine ⟨?_, h1, ?_, ?_, fun j hj => by have := numsB_get ns k 0 h4 j hj; rwa [Nat.zero_add] at this⟩
  · by_cases hk : k = 1 ∨ k = 2 ∨ k = 3 ∨ k = 4 ∨ k = 5 ∨ k = 6 ∨ k = 7 ∨ k = 8 ∨ k = 9 ∨ k = 10 ∨ k = 11
    · exact hk
    · rw [shape_none hk] at h1; exact absurd h1 (by simp only; omega)
  · intro hn
    rcases h3 with h3 | h3
    · rw [hn] at h3; cases h3
    · exact h3
  · intro hn
    rw [hn, beq_iff_eq] at h2
    exact Classical.not_not.1 (of_decide_eq_false h2.symm)
theorem num_range {k : Int} {j : Nat} {v : Int} (h : numB k j v = true) : -1000000000 ≤ v ∧ v ≤ 1000000000 ∧ (¬ (k = 3 ∧ j = 2) → 0 ≤ v) := by
  unfold numB at h
  simp only [Bool.and_eq_true, decide_eq_true_eq, Bool.or_eq_true] at h
  obtain ⟨h1, h2 | ⟨h2, h3, h4⟩⟩ := h
  · exact ⟨by omega, h1, fun _ => h2⟩
  · exact ⟨h4, h1, fun hn => absurd ⟨h2, h3⟩ hn⟩
theorem name_size {nm : ByteArray} (h : nameB nm = true) : nm.size ≤ 12 := by
  unfold nameB at h
  simp only [Bool.and_eq_true, decide_eq_true_eq] at h
  exact h.1.2.1
theorem OkC.name12 {k : Int} {nm : ByteArray} {ns : List Int} (h : OkC k nm ns) : nm.size ≤ 12 := by
  cases hs : (shapeOf k).1 with
  | true => exact name_size (h.named hs)
  | false => rw [h.bare hs]; omega
end Go.Proofs.YtmdogklgbifacaaDoor.Pr
