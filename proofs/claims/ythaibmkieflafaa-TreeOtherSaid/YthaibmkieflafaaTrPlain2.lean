/- The levels of a tree, one after the other: plain laws. -/
import Derived.Test.YthaibmkieflafaaTrPlain
namespace Go.Proofs.Ythaibmkieflafaa.Tr
set_option linter.unusedVariables false
open Go.Proofs.Ythaibmkieflafaa.Dig

/-- Level number k. -/
def lev (l : List UInt64) : Nat → List UInt64
  | 0 => l
  | k + 1 => nxt (lev l k)
theorem lev_nxt (l : List UInt64) : ∀ k, lev (nxt l) k = lev l (k + 1)
  | 0 => rfl
  | k + 1 => by show nxt (lev (nxt l) k) = nxt (lev l (k + 1)); rw [lev_nxt l k]
/-- How many levels. -/
def hgt (l : List UInt64) : Nat := if h : l.length ≤ 1 then 1 else hgt (nxt l) + 1
termination_by l.length
decreasing_by rw [nxt_length]; omega
theorem hgt_one {l : List UInt64} (h : l.length ≤ 1) : hgt l = 1 := by rw [hgt, dif_pos h]
theorem hgt_more {l : List UInt64} (h : ¬ l.length ≤ 1) : hgt l = hgt (nxt l) + 1 := by rw [hgt, dif_neg h]
theorem hgt_pos (l : List UInt64) : 0 < hgt l := by
  by_cases h : l.length ≤ 1
  · rw [hgt_one h]; omega
  · rw [hgt_more h]; omega
theorem lev_pos {l : List UInt64} (h : 0 < l.length) : ∀ k, 0 < (lev l k).length
  | 0 => h
  | k + 1 => by show 0 < (nxt (lev l k)).length; rw [nxt_length]; have := lev_pos h k; omega
/-- The place of a level: below the last one there is more than one element. -/
theorem hgt_lev (l : List UInt64) (k : Nat) (h : k + 1 < hgt l) : ¬ (lev l k).length ≤ 1 ∧ hgt (lev l k) = hgt l - k := by
  induction k with
  | zero =>
    refine ⟨fun h1 => ?_, by simp [lev]⟩
    have := hgt_one (l := l) h1
    omega
  | succ k ih =>
    obtain ⟨h1, h2⟩ := ih (by omega)
    have h3 := hgt_more h1
    have h4 : hgt (lev l (k + 1)) = hgt l - (k + 1) := by show hgt (nxt (lev l k)) = _; omega
    refine ⟨fun h5 => ?_, h4⟩
    rw [hgt_one h5] at h4; omega
theorem lev_last (l : List UInt64) (k : Nat) (h : k + 1 = hgt l) : (lev l k).length ≤ 1 := by
  cases k with
  | zero =>
    by_cases h1 : l.length ≤ 1
    · exact h1
    · have := hgt_more h1; have := hgt_pos (nxt l); omega
  | succ k =>
    obtain ⟨h1, h2⟩ := hgt_lev l k (by omega)
    have h3 := hgt_more h1
    show (nxt (lev l k)).length ≤ 1
    apply Classical.byContradiction
    intro h4
    have := hgt_more h4
    have := hgt_pos (nxt (nxt (lev l k)))
    omega
theorem lev_len1 (l : List UInt64) (k : Nat) (h : (lev l k).length ≤ 1) (hk : k < hgt l) : k + 1 = hgt l := by
  rcases Nat.lt_or_ge (k + 1) (hgt l) with h1 | h1
  · exact absurd h (hgt_lev l k h1).1
  · omega
theorem lev_more (l : List UInt64) (k : Nat) (h : ¬ (lev l k).length ≤ 1) (hk : k < hgt l) : k + 1 < hgt l := by
  rcases Nat.lt_or_ge (k + 1) (hgt l) with h1 | h1
  · exact h1
  · exact absurd (lev_last l k (by omega)) h
theorem top_lev (l : List UInt64) : ∀ k, k < hgt l → top (lev l k) = top l
  | 0, _ => rfl
  | k + 1, h => by
    obtain ⟨h1, _⟩ := hgt_lev l k h
    rw [← top_lev l k (by omega)]
    conv => rhs; rw [top, dif_neg h1]
    rfl
theorem top_last (l : List UInt64) (k : Nat) (h : k + 1 = hgt l) : (lev l k).headD 0 = top l := by
  rw [← top_lev l k (by omega)]
  rw [top, dif_pos (lev_last l k h)]
/-- What Root holds when k levels have come. -/
def rt (l : List UInt64) : Nat → UInt64
  | 0 => 0
  | k + 1 => (lev l k).headD 0
theorem rt_all (l : List UInt64) : rt l (hgt l) = top l := by
  have := hgt_pos l
  obtain ⟨k, hk⟩ : ∃ k, k + 1 = hgt l := ⟨hgt l - 1, by omega⟩
  rw [← hk]
  exact top_last l k hk
/-- What Proof holds when k levels have come. -/
def prk (l : List UInt64) (i : Nat) : Nat → List UInt64
  | 0 => []
  | k + 1 => prk l i k ++ (if sib (i / 2 ^ k) < (lev l k).length then [(lev l k).getD (sib (i / 2 ^ k)) 0] else [])
theorem prk_nxt (l : List UInt64) (i : Nat) : ∀ k, prk l i (k + 1) = (if sib i < l.length then [l.getD (sib i) 0] else []) ++ prk (nxt l) (i / 2) k
  | 0 => by simp [prk, lev]
  | k + 1 => by
    rw [prk, prk_nxt l i k, prk, List.append_assoc, lev_nxt, Nat.div_div_eq_div_mul, Nat.pow_succ, Nat.mul_comm 2]
theorem prk_all (l : List UInt64) (i : Nat) (h : i < l.length) : prk l i (hgt l) = prf l i := by
  by_cases h1 : l.length ≤ 1
  · rw [hgt_one h1, prf, dif_pos h1]
    obtain rfl : i = 0 := by omega
    rw [prk_nxt, if_neg (by rw [sib_of]; simp; omega)]
    rfl
  · rw [hgt_more h1, prk_nxt, prf, dif_neg h1, prk_all (nxt l) (i / 2) (by rw [nxt_length]; omega)]
termination_by l.length
decreasing_by rw [nxt_length]; omega
theorem lev_le (l : List UInt64) {m : Nat} (h : l.length ≤ m) : ∀ k, (lev l k).length ≤ m
  | 0 => h
  | k + 1 => by show (nxt (lev l k)).length ≤ m; rw [nxt_length]; have := lev_le l h k; omega
theorem prk_le (l : List UInt64) (i : Nat) : ∀ k, (prk l i k).length ≤ k
  | 0 => Nat.le_refl _
  | k + 1 => by rw [prk, List.length_append]; have := prk_le l i k; split <;> simp <;> omega
theorem hgt_le (l : List UInt64) : hgt l ≤ l.length + 1 := by
  by_cases h1 : l.length ≤ 1
  · rw [hgt_one h1]; omega
  · rw [hgt_more h1]
    have := hgt_le (nxt l)
    have := nxt_length l
    omega
termination_by l.length
decreasing_by rw [nxt_length]; omega
/-- The level after a level, pair by pair. -/
theorem nxt_take (l : List UInt64) : ∀ k, 2 * k ≤ l.length → (nxt l).take k = nxt (l.take (2 * k))
  | 0, _ => by simp [nxt]
  | k + 1, h => by
    match l, h with
    | a :: b :: l, h =>
      have := nxt_take l k (by simp at h; omega)
      rw [show 2 * (k + 1) = 2 * k + 1 + 1 by omega]
      simp only [nxt, List.take_succ_cons, this]
    | [a], h => simp at h; omega
    | [], h => simp at h
/-- How many pairs (or rests) a level has. -/
def prs (m : Nat) : Nat := (m + 1) / 2
theorem nxt_at2 (l : List UInt64) (k : Nat) (h : 2 * k + 1 < l.length) : (nxt l)[k]? = some (pair (l.getD (2 * k) 0) (l.getD (2 * k + 1) 0)) := by
  have := nxt_get l (2 * k) (by omega)
  rw [sib_even, dif_pos h, show 2 * k / 2 = k by omega] at this
  rw [this, mix, if_neg (by omega)]
theorem nxt_at1 (l : List UInt64) (k : Nat) (h : 2 * k + 1 = l.length) : (nxt l)[k]? = some (l.getD (2 * k) 0) := by
  have := nxt_get l (2 * k) (by omega)
  rw [sib_even, dif_neg (by omega), show 2 * k / 2 = k by omega] at this
  rw [this, List.getD_eq_getElem?_getD, List.getElem?_eq_getElem (by omega)]
  rfl
theorem take_snoc {α : Type} (l : List α) (k : Nat) (x : α) (h : l[k]? = some x) : l.take (k + 1) = l.take k ++ [x] := by
  rw [List.take_add_one, h]; rfl
end Go.Proofs.Ythaibmkieflafaa.Tr
