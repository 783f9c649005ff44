/- The plain laws of the tree of pages: levels, roots, proofs as lists; no program in sight. -/
import Derived.Test.YthaibmkieflafaaDigPlain
namespace Go.Proofs.Ythaibmkieflafaa.Tr
set_option linter.unusedVariables false
open Go.Proofs.Ythaibmkieflafaa.Dig

def leaf (p : List UInt8) : UInt64 := dadd (dsum [0]) p
/-- The level after a level. -/
def nxt : List UInt64 → List UInt64
  | a :: b :: l => pair a b :: nxt l
  | l => l
theorem nxt_length : ∀ l : List UInt64, (nxt l).length = (l.length + 1) / 2
  | [] => rfl
  | [_] => by simp [nxt]
  | a :: b :: l => by
    simp only [nxt, List.length_cons, nxt_length l]
    omega
/-- One step at level n, place i: what the pair makes of x and of the digest beside it. -/
def mix (i : Nat) (x d : UInt64) : UInt64 := if i % 2 = 1 then pair d x else pair x d
/-- The place beside. -/
def sib (i : Nat) : Nat := i ^^^ 1
theorem sib_even {k : Nat} : sib (2 * k) = 2 * k + 1 := by
  apply Nat.eq_of_testBit_eq
  intro j
  rw [sib, Nat.testBit_xor]
  rcases j with _ | j
  · simp [Nat.testBit_zero]
  · rw [Nat.testBit_succ, Nat.testBit_succ, Nat.testBit_succ]
    have h1 : 2 * k / 2 = k := by omega
    have h2 : (2 * k + 1) / 2 = k := by omega
    rw [h1, h2]
    simp
theorem sib_odd {k : Nat} : sib (2 * k + 1) = 2 * k := by
  apply Nat.eq_of_testBit_eq
  intro j
  rw [sib, Nat.testBit_xor]
  rcases j with _ | j
  · simp [Nat.testBit_zero]
  · rw [Nat.testBit_succ, Nat.testBit_succ, Nat.testBit_succ]
    have h1 : 2 * k / 2 = k := by omega
    have h2 : (2 * k + 1) / 2 = k := by omega
    rw [h1, h2]
    simp
theorem sib_of (i : Nat) : sib i = if i % 2 = 1 then i - 1 else i + 1 := by
  by_cases h : i % 2 = 1
  · obtain ⟨k, rfl⟩ : ∃ k, i = 2 * k + 1 := ⟨i / 2, by omega⟩
    rw [sib_odd, if_pos h]; omega
  · obtain ⟨k, rfl⟩ : ∃ k, i = 2 * k := ⟨i / 2, by omega⟩
    rw [sib_even, if_neg h]
theorem nxt_get : ∀ (l : List UInt64) (i : Nat), i < l.length → (nxt l)[i / 2]? = if h : sib i < l.length then some (mix i (l.getD i 0) (l.getD (sib i) 0)) else l[i]?
  | [], i, h => absurd h (by simp)
  | [a], i, h => by
    obtain rfl : i = 0 := by simpa using h
    rw [dif_neg (by rw [sib_of]; simp)]
    rfl
  | a :: b :: l, i, h => by
    rcases i with _ | _ | i
    · rw [dif_pos (by rw [sib_of]; simp)]
      rfl
    · rw [dif_pos (by rw [sib_of]; simp)]
      rfl
    · have hs : sib (i + 2) = sib i + 2 := by rw [sib_of, sib_of]; by_cases e : i % 2 = 1 <;> simp [e] <;> omega
      have hm : (i + 2) % 2 = i % 2 := by omega
      have := nxt_get l i (by simpa using h)
      rw [show (i + 1 + 1) / 2 = i / 2 + 1 by omega, hs]
      simp only [nxt, List.getElem?_cons_succ, List.length_cons, List.getD_cons_succ, mix, hm, Nat.add_lt_add_iff_right] at this ⊢
      exact this

/-- The root of a level. -/
def top (l : List UInt64) : UInt64 := if h : l.length ≤ 1 then l.headD 0 else top (nxt l)
termination_by l.length
decreasing_by rw [nxt_length]; omega
/-- The digests that prove place i of a level. -/
def prf (l : List UInt64) (i : Nat) : List UInt64 :=
  if h : l.length ≤ 1 then [] else (if sib i < l.length then [l.getD (sib i) 0] else []) ++ prf (nxt l) (i / 2)
termination_by l.length
decreasing_by rw [nxt_length]; omega
/-- What a proof leads to. -/
def up (n i : Nat) (x : UInt64) (pr : List UInt64) : Option UInt64 :=
  if h : n ≤ 1 then (if pr = [] then some x else none)
  else if sib i < n then (match pr with | [] => none | d :: pr => up ((n + 1) / 2) (i / 2) (mix i x d) pr)
  else up ((n + 1) / 2) (i / 2) x pr
termination_by n
/-- How many digests a proof has. -/
def want (n i : Nat) : Nat := if h : n ≤ 1 then 0 else (if sib i < n then 1 else 0) + want ((n + 1) / 2) (i / 2)
termination_by n

theorem up_prf (l : List UInt64) (i : Nat) (h : i < l.length) : up l.length i (l.getD i 0) (prf l i) = some (top l) := by
  by_cases h1 : l.length ≤ 1
  · unfold up prf top
    rw [dif_pos h1, dif_pos h1, dif_pos h1, if_pos rfl]
    obtain rfl : i = 0 := by omega
    cases l <;> rfl
  · have ih := up_prf (nxt l) (i / 2) (by rw [nxt_length]; omega)
    have hg := nxt_get l i h
    have hg' : (nxt l).getD (i / 2) 0 = if sib i < l.length then mix i (l.getD i 0) (l.getD (sib i) 0) else l.getD i 0 := by
      rw [List.getD_eq_getElem?_getD, hg]
      by_cases hs : sib i < l.length
      · rw [dif_pos hs, if_pos hs]; rfl
      · rw [dif_neg hs, if_neg hs, List.getD_eq_getElem?_getD]
    rw [nxt_length, hg'] at ih
    unfold up prf top
    rw [dif_neg h1, dif_neg h1, dif_neg h1]
    by_cases hs : sib i < l.length
    · rw [if_pos hs] at ih ⊢
      rw [if_pos hs]
      exact ih
    · rw [if_neg hs] at ih ⊢
      rw [if_neg hs]
      exact ih
termination_by l.length
decreasing_by rw [nxt_length]; omega

theorem mix_inj {i : Nat} {x y d : UInt64} : mix i x d = mix i y d ↔ x = y := by
  unfold mix
  split
  · exact pair_snd
  · exact pair_fst
theorem mix_injd {i : Nat} {x d e : UInt64} : mix i x d = mix i x e ↔ d = e := by
  unfold mix
  split
  · exact pair_fst
  · exact pair_snd
/-- Two pages with the same proof for the same root have the same leaf. -/
theorem up_inj {r : UInt64} (n i : Nat) (x y : UInt64) (pr : List UInt64) (h : up n i x pr = some r) (h' : up n i y pr = some r) : x = y := by
  unfold up at h h'
  by_cases h1 : n ≤ 1
  · rw [dif_pos h1] at h h'
    by_cases hp : pr = []
    · rw [if_pos hp] at h h'
      injection h with h
      injection h' with h'
      rw [h, h']
    · rw [if_neg hp] at h; cases h
  · rw [dif_neg h1] at h h'
    by_cases hs : sib i < n
    · rw [if_pos hs] at h h'
      cases pr with
      | nil => cases h
      | cons d pr => exact mix_inj.1 (up_inj _ _ _ _ pr h h')
    · rw [if_neg hs] at h h'
      exact up_inj _ _ _ _ pr h h'
termination_by n
/-- A proof leads somewhere exactly if it is as long as wanted. -/
theorem up_some (n i : Nat) (x : UInt64) (pr : List UInt64) : (up n i x pr).isSome = decide (pr.length = want n i) := by
  unfold up want
  by_cases h1 : n ≤ 1
  · rw [dif_pos h1, dif_pos h1]
    cases pr <;> simp
  · rw [dif_neg h1, dif_neg h1]
    by_cases hs : sib i < n
    · rw [if_pos hs, if_pos hs]
      cases pr with
      | nil => simp; omega
      | cons d pr =>
        show (up _ _ _ pr).isSome = _
        rw [up_some]
        simp only [List.length_cons]
        congr 1
        apply propext
        omega
    · rw [if_neg hs, if_neg hs, up_some, Nat.zero_add]
termination_by n
theorem prf_length (l : List UInt64) (i : Nat) : (prf l i).length = want l.length i := by
  unfold prf want
  by_cases h1 : l.length ≤ 1
  · rw [dif_pos h1, dif_pos h1]; rfl
  · rw [dif_neg h1, dif_neg h1, List.length_append, prf_length (nxt l), nxt_length]
    by_cases hs : sib i < l.length
    · rw [if_pos hs, if_pos hs]; rfl
    · rw [if_neg hs, if_neg hs]; rfl
termination_by l.length
decreasing_by rw [nxt_length]; omega
/-- Exactly one digest of a proof is another one: it leads elsewhere. -/
theorem up_one {r : UInt64} (n i : Nat) (x : UInt64) (pr : List UInt64) (j : Nat) (hj : j < pr.length) (d : UInt64) (hd : d ≠ pr.getD j 0) (h : up n i x pr = some r) : up n i x (pr.set j d) ≠ some r := by
  intro h'
  unfold up at h h'
  by_cases h1 : n ≤ 1
  · rw [dif_pos h1] at h
    by_cases hp : pr = []
    · subst hp; simp at hj
    · rw [if_neg hp] at h; cases h
  · rw [dif_neg h1] at h h'
    by_cases hs : sib i < n
    · rw [if_pos hs] at h h'
      cases pr with
      | nil => cases h
      | cons e pr =>
        rcases j with _ | j
        · have := up_inj _ _ _ _ pr h h'
          exact hd (mix_injd.1 this).symm
        · exact up_one _ _ _ pr j (by simpa using hj) d (by simpa using hd) h h'
    · rw [if_neg hs] at h h'
      exact up_one _ _ _ pr j hj d hd h h'
termination_by n
end Go.Proofs.Ythaibmkieflafaa.Tr
