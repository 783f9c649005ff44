/- The lexer in plain Lean: evaluation on constants; what its tokens keep to. -/
import Derived.KernelRfl
import Derived.Test.YtmdogklgbifacaaDoorLxLex
namespace Go.Proofs.YtmdogklgbifacaaDoor.Lx
set_option linter.unusedVariables false

def spansF : Nat → List UInt8 → Nat → List Span
  | 0, _, _ => []
  | _ + 1, [], _ => []
  | n + 1, c :: r, p => ⟨p, cls c, ⟨((c :: r).take (spanLen (c :: r))).toArray⟩⟩ :: spansF n ((c :: r).drop (spanLen (c :: r))) (p + spanLen (c :: r))
theorem spansF_eq : ∀ (n : Nat) (l : List UInt8) (p : Nat), l.length ≤ n → spans l p = spansF n l p
  | 0, l, p, h => by
    obtain rfl : l = [] := List.eq_nil_of_length_eq_zero (by omega)
    rw [spans_nil]; rfl
  | n + 1, [], p, h => by rw [spans_nil]; rfl
  | n + 1, c :: r, p, h => by
    have h1 := spanLen_pos c r
    rw [spans_cons, spansF_eq n _ _ (by rw [List.length_drop]; simp only [List.length_cons] at *; omega)]
    rfl
def LEXF (l : List UInt8) : LexR := if 8000 < l.length then ⟨[], 2, 0⟩ else resOf (lexE [] (spansF l.length l 0))
theorem LEX_F (l : List UInt8) : LEX l = LEXF l := by
  unfold LEX LEXF
  rw [spansF_eq l.length l 0 (Nat.le_refl _)]

theorem spans_pos : ∀ (n : Nat) (l : List UInt8) (p : Nat), l.length ≤ n → ∀ x ∈ spans l p, p ≤ x.pos ∧ x.pos < p + l.length
  | n, [], p, _, x, hx => by rw [spans_nil] at hx; cases hx
  | 0, c :: r, p, h, _, _ => absurd h (by simp)
  | n + 1, c :: r, p, h, x, hx => by
    have h1 := spanLen_pos c r
    have h2 := spanLen_le (c :: r)
    rw [spans_cons] at hx
    rcases List.mem_cons.1 hx with rfl | hx
    · simp only [List.length_cons]; omega
    · have := spans_pos n _ _ (by rw [List.length_drop]; simp only [List.length_cons] at *; omega) x hx
      rw [List.length_drop] at this
      omega
/-- A token that the lexer gives: its offset, its number. -/
def okT (m : Nat) (t : Tok) : Prop := t.pos < m ∧ t.n ≤ 1000000000
theorem tokenOf_ok {k : Nat} {l : List UInt8} {t : Tok} (h : tokenOf k l = .ok t) : t.n ≤ 1000000000 := by
  unfold tokenOf at h
  split at h
  · split at h
    · cases h
    · injection h with h; subst h; exact Nat.zero_le _
  · split at h
    · split at h
      · cases h
      · split at h
        · cases h
        · injection h with h; subst h; show num l ≤ _; omega
    · injection h with h; subst h; exact Nat.zero_le _
theorem lexE_ok {m : Nat} : ∀ (xs : List Span) (acc ts : List Tok), (∀ x ∈ xs, x.pos < m) → (∀ t ∈ acc, okT m t) → lexE acc xs = .ok ts → ∀ t ∈ ts, okT m t
  | [], acc, ts, _, ha, h => by
    simp only [lexE] at h
    injection h with h
    subst h
    exact ha
  | x :: xs, acc, ts, hx, ha, h => by
    simp only [lexE] at h
    cases hs : stepS acc x with
    | error e => rw [hs] at h; cases h
    | ok a =>
      rw [hs] at h
      refine lexE_ok xs a ts (fun y hy => hx y (List.mem_cons_of_mem _ hy)) ?_ h
      unfold stepS at hs
      split at hs
      · injection hs with hs; subst hs; exact ha
      · split at hs
        · cases hs
        · split at hs
          · cases hs
          · split at hs
            · cases hs
            · rename_i t ht
              injection hs with hs
              subst hs
              intro u hu
              rcases List.mem_append.1 hu with hu | hu
              · exact ha u hu
              · simp only [List.mem_singleton] at hu
                subst hu
                have h1 := tokenOf_ok ht
                exact ⟨hx x (List.mem_cons_self ..), h1⟩
theorem lexE_len : ∀ (xs : List Span) (acc ts : List Tok), acc.length ≤ 2000 → lexE acc xs = .ok ts → ts.length ≤ 2000
  | [], acc, ts, ha, h => by
    simp only [lexE] at h
    injection h with h
    subst h
    exact ha
  | x :: xs, acc, ts, ha, h => by
    simp only [lexE] at h
    cases hs : stepS acc x with
    | error e => rw [hs] at h; cases h
    | ok a =>
      rw [hs] at h
      exact lexE_len xs a ts (stepS_len hs ha) h
theorem LEX_ok (l : List UInt8) : ∀ t ∈ (LEX l).toks, okT l.length t := by
  unfold LEX
  split
  · intro t ht; cases ht
  · cases h : lexE [] (spans l 0) with
    | error e => intro t ht; cases ht
    | ok ts =>
      exact lexE_ok (spans l 0) [] ts (fun x hx => by have := spans_pos _ l 0 (Nat.le_refl _) x hx; omega) (fun t ht => by cases ht) h
theorem LEX_len (l : List UInt8) : (LEX l).toks.length ≤ 2000 := by
  unfold LEX
  split
  · simp
  · cases h : lexE [] (spans l 0) with
    | error e => exact Nat.zero_le _
    | ok ts => exact lexE_len (spans l 0) [] ts (Nat.zero_le _) h
theorem LEX_long {l : List UInt8} (h : (LEX l).err = 0) : l.length ≤ 8000 := by
  unfold LEX at h
  split at h
  · cases h
  · omega

theorem bytes_of_list {a b : ByteArray} (h : a.toList = b.toList) : a = b := by
  rw [Lib.toList_data, Lib.toList_data] at h
  exact ByteArray.ext (Array.ext' h)
def eqT (d : Nat) (x y : Tok) : Bool := decide (x.kind = y.kind) && (decide (x.text = y.text) && (decide (x.n = y.n) && decide (x.pos + d = y.pos)))
def sameB (d : Nat) : List Tok → List Tok → Bool
  | [], [] => true
  | x :: xs, y :: ys => eqT d x y && sameB d xs ys
  | _, _ => false
def likeT (x y : Tok) : Bool := decide (x.kind = y.kind) && (decide (x.text = y.text) && decide (x.n = y.n))
def alikeB : List Tok → List Tok → Bool
  | [], [] => true
  | x :: xs, y :: ys => likeT x y && alikeB xs ys
  | _, _ => false
end Go.Proofs.YtmdogklgbifacaaDoor.Lx
