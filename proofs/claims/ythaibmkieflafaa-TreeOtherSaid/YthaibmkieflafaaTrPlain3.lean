/- Plain laws of the tree for the statements: halves, one leaf turned, how long a proof is. -/
import Derived.Test.YthaibmkieflafaaTrPlain2
namespace Go.Proofs.Ythaibmkieflafaa.Tr
set_option linter.unusedVariables false
open Go.Proofs.Ythaibmkieflafaa.Dig

theorem nxt_append : ∀ (k : Nat) (a b : List UInt64), a.length = 2 * k → nxt (a ++ b) = nxt a ++ nxt b
  | 0, a, b, h => by
    obtain rfl : a = [] := List.eq_nil_of_length_eq_zero (by omega)
    rfl
  | k + 1, a, b, h => by
    match a, h with
    | x :: y :: a, h =>
      simp only [List.cons_append, nxt]
      rw [nxt_append k a b (by simp at h; omega)]
    | [x], h => simp at h; omega
    | [], h => simp at h
theorem top_more {l : List UInt64} (h : ¬ l.length ≤ 1) : top l = top (nxt l) := by rw [top, dif_neg h]
/-- The root of two halves. -/
theorem top_halves : ∀ (k : Nat) (a b : List UInt64), a.length = 2 ^ k → b.length = 2 ^ k → top (a ++ b) = pair (top a) (top b)
  | 0, a, b, ha, hb => by
    obtain ⟨x, rfl⟩ := List.length_eq_one_iff.1 ha
    obtain ⟨y, rfl⟩ := List.length_eq_one_iff.1 hb
    rw [show [x] ++ [y] = [x, y] from rfl, top_more (by simp), show nxt [x, y] = [pair x y] from rfl]
    rw [top, dif_pos (by simp), top, dif_pos (by simp), top, dif_pos (by simp)]
    rfl
  | k + 1, a, b, ha, hb => by
    have hp : 0 < 2 ^ k := Nat.pos_of_ne_zero (by simp)
    rw [Nat.pow_succ] at ha hb
    rw [top_more (by rw [List.length_append]; omega), nxt_append (2 ^ k) a b (by omega), top_more (l := a) (by omega), top_more (l := b) (by omega)]
    exact top_halves k _ _ (by rw [nxt_length]; omega) (by rw [nxt_length]; omega)
/-- The root where one page follows. -/
theorem top_one : ∀ (k : Nat) (a : List UInt64) (x : UInt64), a.length = 2 ^ k → top (a ++ [x]) = pair (top a) x
  | 0, a, x, ha => by
    obtain ⟨y, rfl⟩ := List.length_eq_one_iff.1 ha
    have := top_halves 0 [y] [x] rfl rfl
    rw [this]
    conv => lhs; rw [show top [x] = x by rw [top, dif_pos (by simp)]; rfl]
  | k + 1, a, x, ha => by
    have hp : 0 < 2 ^ k := Nat.pos_of_ne_zero (by simp)
    rw [Nat.pow_succ] at ha
    rw [top_more (by rw [List.length_append, show [x].length = 1 from rfl]; omega), nxt_append (2 ^ k) a [x] (by omega), top_more (l := a) (by omega)]
    exact top_one k _ x (by rw [nxt_length]; omega)

theorem nxt_set : ∀ (l : List UInt64) (i : Nat) (x : UInt64), ∃ y, nxt (l.set i x) = (nxt l).set (i / 2) y
  | [], i, x => ⟨0, by simp [nxt]⟩
  | [a], i, x => by
    rcases i with _ | i
    · exact ⟨x, rfl⟩
    · exact ⟨a, by
        rcases i with _ | i
        · simp [nxt]
        · rw [show (i + 1 + 1) / 2 = i / 2 + 1 by omega]; simp [nxt]⟩
  | a :: b :: l, i, x => by
    rcases i with _ | _ | i
    · exact ⟨pair x b, rfl⟩
    · exact ⟨pair a x, rfl⟩
    · obtain ⟨y, hy⟩ := nxt_set l i x
      refine ⟨y, ?_⟩
      rw [show (i + 1 + 1) / 2 = i / 2 + 1 by omega]
      simp only [List.set_cons_succ, nxt, hy]
theorem sib_ne (i : Nat) : sib i ≠ i := by rw [sib_of]; split <;> omega
theorem prf_set (l : List UInt64) (i : Nat) (x : UInt64) : prf (l.set i x) i = prf l i := by
  by_cases h : l.length ≤ 1
  · rw [prf, dif_pos (by simpa using h), prf, dif_pos h]
  · obtain ⟨y, hy⟩ := nxt_set l i x
    rw [prf, dif_neg (by simpa using h), prf.eq_def l i, dif_neg h, hy, prf_set (nxt l) (i / 2) y, List.length_set]
    have hs := sib_ne i
    rw [show (l.set i x).getD (sib i) 0 = l.getD (sib i) 0 by
      rw [List.getD_eq_getElem?_getD, List.getD_eq_getElem?_getD, List.getElem?_set_ne (Ne.symm hs)]]
termination_by l.length
decreasing_by rw [nxt_length]; omega
/-- Another leaf at a place: its proof is the same one, and leads to the new root. -/
theorem up_set (l : List UInt64) (i : Nat) (hi : i < l.length) (x : UInt64) : up l.length i x (prf l i) = some (top (l.set i x)) := by
  have := up_prf (l.set i x) i (by simpa using hi)
  rw [prf_set, List.length_set, show (l.set i x).getD i 0 = x by rw [List.getD_eq_getElem?_getD, List.getElem?_set_self hi]; rfl] at this
  exact this
theorem top_set {l : List UInt64} {i : Nat} (hi : i < l.length) {x : UInt64} (hx : x ≠ l.getD i 0) : top (l.set i x) ≠ top l := by
  intro h
  have h1 := up_prf l i hi
  have h2 := up_set l i hi x
  rw [h] at h2
  exact hx (up_inj _ _ _ _ _ h2 h1)
theorem up_not {l : List UInt64} {i : Nat} (hi : i < l.length) {x : UInt64} (hx : x ≠ l.getD i 0) : up l.length i x (prf l i) ≠ some (top l) := by
  intro h
  exact hx (up_inj _ _ _ _ _ h (up_prf l i hi))

/-- At most k digests where there are at most 2 to the k elements. -/
theorem want_pow : ∀ (k n i : Nat), n ≤ 2 ^ k → want n i ≤ k
  | 0, n, i, h => by rw [want.eq_def, dif_pos (by simpa using h)]; omega
  | k + 1, n, i, h => by
    by_cases h1 : n ≤ 1
    · rw [want.eq_def, dif_pos h1]; omega
    · rw [want.eq_def, dif_neg h1]
      rw [Nat.pow_succ] at h
      have := want_pow k ((n + 1) / 2) (i / 2) (by omega)
      split <;> omega
/-- The statement's own test for a digest at a level. -/
theorem sib_test {n i : Nat} (hi : i < n) : decide (sib i < n) = (decide (n % 2 = 0) || decide (i ≠ n - 1)) := by
  rw [Bool.eq_iff_iff]
  simp only [Bool.or_eq_true, decide_eq_true_eq, sib_of]
  split <;> omega
end Go.Proofs.Ythaibmkieflafaa.Tr
