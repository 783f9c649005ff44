/- The lexer in plain Lean: classes of bytes, spans, tokens. -/
import Derived.Lib.AtoiAll
namespace Go.Proofs.YtmdogklgbifacaaDoor.Lx
set_option linter.unusedVariables false

/-- The class of a byte. -/
def cls (c : UInt8) : Nat :=
  if c.toNat = 32 ∨ c.toNat = 9 ∨ c.toNat = 10 then 1
  else if c.toNat = 35 then 2
  else if 97 ≤ c.toNat ∧ c.toNat ≤ 122 then 3
  else if 48 ≤ c.toNat ∧ c.toNat ≤ 57 then 4
  else if c.toNat = 59 then 5
  else 0
theorem cls_le (c : UInt8) : cls c ≤ 5 := by unfold cls; (repeat' split) <;> omega
/-- What goes on: a comment, a name, a number. -/
def inCom (c : UInt8) : Bool := decide (c.toNat ≠ 10)
def inNam (c : UInt8) : Bool := decide (cls c = 3) || (decide (cls c = 4) || decide (c.toNat = 95))
def inNum (c : UInt8) : Bool := decide (cls c = 4)
def run (p : UInt8 → Bool) (l : List UInt8) : Nat := (l.takeWhile p).length
theorem run_le (p : UInt8 → Bool) (l : List UInt8) : run p l ≤ l.length := by
  unfold run; exact (List.takeWhile_prefix p).length_le
theorem runs_at (p : UInt8 → Bool) : ∀ (l : List UInt8) (k : Nat) (h : k < run p l), p (l[k]'(Nat.lt_of_lt_of_le h (run_le p l))) = true
  | [], k, h => absurd h (by simp [run])
  | c :: r, k, h => by
    unfold run at h
    by_cases hc : p c = true
    · rw [List.takeWhile_cons_of_pos hc, List.length_cons] at h
      cases k with
      | zero => exact hc
      | succ k => exact runs_at p r k (by unfold run; omega)
    · rw [List.takeWhile_cons_of_neg hc] at h
      simp at h
theorem runs_end (p : UInt8 → Bool) : ∀ (l : List UInt8) (h : run p l < l.length), p (l[run p l]) = false
  | [], h => absurd h (by simp)
  | c :: r, h => by
    by_cases hc : p c = true
    · have e : run p (c :: r) = run p r + 1 := by unfold run; rw [List.takeWhile_cons_of_pos hc, List.length_cons]
      have h' : run p r < r.length := by rw [e, List.length_cons] at h; omega
      have := runs_end p r h'
      simp only [e, List.getElem_cons_succ]
      exact this
    · have e : run p (c :: r) = 0 := by unfold run; rw [List.takeWhile_cons_of_neg hc]; rfl
      simp only [e, List.getElem_cons_zero]
      simpa using hc

/-- How many bytes the span has that begins with the first byte. -/
def spanLen : List UInt8 → Nat
  | [] => 0
  | c :: r => if cls c = 2 then run inCom (c :: r) else if cls c = 3 then run inNam (c :: r) else if cls c = 4 then run inNum (c :: r) else 1
theorem run_pos {p : UInt8 → Bool} {c : UInt8} {r : List UInt8} (h : p c = true) : 1 ≤ run p (c :: r) := by
  unfold run; rw [List.takeWhile_cons_of_pos h, List.length_cons]; omega
theorem com_of {c : UInt8} (h : cls c = 2) : inCom c = true := by
  unfold inCom; unfold cls at h
  rw [decide_eq_true_eq]
  intro h2
  rw [if_pos (by omega)] at h
  omega
theorem nam_of {c : UInt8} (h : cls c = 3) : inNam c = true := by unfold inNam; simp [h]
theorem num_of {c : UInt8} (h : cls c = 4) : inNum c = true := by unfold inNum; simp [h]
theorem spanLen_pos (c : UInt8) (r : List UInt8) : 1 ≤ spanLen (c :: r) := by
  simp only [spanLen]
  split
  · rename_i h; exact run_pos (com_of h)
  · split
    · rename_i h; exact run_pos (nam_of h)
    · split
      · rename_i h; exact run_pos (num_of h)
      · omega
theorem spanLen_le (l : List UInt8) : spanLen l ≤ l.length := by
  cases l with
  | nil => simp [spanLen]
  | cons c r =>
    simp only [spanLen]
    split
    · exact run_le _ _
    · split
      · exact run_le _ _
      · split
        · exact run_le _ _
        · simp

structure Span where
  pos : Nat
  cls : Nat
  text : ByteArray
/-- The spans of a text that begins at an offset. -/
def spans (l : List UInt8) (p : Nat) : List Span :=
  match l with
  | [] => []
  | c :: r => ⟨p, cls c, ⟨((c :: r).take (spanLen (c :: r))).toArray⟩⟩ :: spans ((c :: r).drop (spanLen (c :: r))) (p + spanLen (c :: r))
termination_by l.length
decreasing_by
  have := spanLen_pos c r
  simp only [List.length_drop, List.length_cons]
  omega
theorem spans_nil (p : Nat) : spans [] p = [] := by rw [spans]
theorem spans_cons (c : UInt8) (r : List UInt8) (p : Nat) : spans (c :: r) p = ⟨p, cls c, ⟨((c :: r).take (spanLen (c :: r))).toArray⟩⟩ :: spans ((c :: r).drop (spanLen (c :: r))) (p + spanLen (c :: r)) := by
  rw [spans]
theorem spans_len : ∀ (n : Nat) (l : List UInt8) (p : Nat), l.length ≤ n → (spans l p).length ≤ l.length
  | 0, l, p, h => by
    obtain rfl : l = [] := List.eq_nil_of_length_eq_zero (by omega)
    rw [spans_nil]; simp
  | n + 1, [], p, h => by rw [spans_nil]; simp
  | n + 1, c :: r, p, h => by
    have h1 := spanLen_pos c r
    have h2 := spanLen_le (c :: r)
    rw [spans_cons, List.length_cons]
    have := spans_len n ((c :: r).drop (spanLen (c :: r))) (p + spanLen (c :: r)) (by rw [List.length_drop]; simp only [List.length_cons] at *; omega)
    rw [List.length_drop] at this
    simp only [List.length_cons] at *
    omega

/-- A token. -/
structure Tok where
  kind : Nat
  text : ByteArray
  n : Nat
  pos : Nat
/-- What the lexer hands back: tokens, the error's number (0: none), its offset. -/
structure LexR where
  toks : List Tok
  err : Nat
  pos : Nat
/-- The value of digits. -/
def numFrom (a : Nat) (l : List UInt8) : Nat := l.foldl (fun a c => 10 * a + (c.toNat - 48)) a
def num (l : List UInt8) : Nat := numFrom 0 l
/-- The token of a span, at offset 0, or an error. -/
def tokenOf (k : Nat) (l : List UInt8) : Except Nat Tok :=
  if k = 3 then (if 12 < l.length then .error 3 else .ok ⟨1, ⟨l.toArray⟩, 0, 0⟩)
  else if k = 4 then
    (if 1 < l.length ∧ l.head?.map (·.toNat) = some 48 then .error 7
     else if 1000000000 < num l then .error 3 else .ok ⟨2, ⟨#[]⟩, num l, 0⟩)
  else .ok ⟨3, ⟨l.toArray⟩, 0, 0⟩
/-- One span more. -/
def stepS (acc : List Tok) (x : Span) : Except (Nat × Nat) (List Tok) :=
  if x.cls = 1 ∨ x.cls = 2 then .ok acc
  else if x.cls = 0 then .error (7, x.pos)
  else if acc.length = 2000 then .error (2, x.pos)
  else match tokenOf x.cls x.text.data.toList with
    | .error e => .error (e, x.pos)
    | .ok t => .ok (acc ++ [{ t with pos := x.pos }])
/-- The lexer over spans, some tokens being there. -/
def lexE (acc : List Tok) : List Span → Except (Nat × Nat) (List Tok)
  | [] => .ok acc
  | x :: xs => match stepS acc x with
    | .error e => .error e
    | .ok a => lexE a xs
theorem lexE_append : ∀ (xs ys : List Span) (acc : List Tok), lexE acc (xs ++ ys) = match lexE acc xs with | .error e => .error e | .ok a => lexE a ys
  | [], ys, acc => rfl
  | x :: xs, ys, acc => by
    simp only [List.cons_append, lexE]
    cases stepS acc x with
    | error e => rfl
    | ok a => exact lexE_append xs ys a
theorem lexE_snoc (xs : List Span) (x : Span) (acc a : List Tok) (h : lexE acc xs = .ok a) : lexE acc (xs ++ [x]) = stepS a x := by
  rw [lexE_append, h]
  simp only [lexE]
  cases stepS a x <;> rfl
theorem stepS_len {acc a : List Tok} {x : Span} (h : stepS acc x = .ok a) (hl : acc.length ≤ 2000) : a.length ≤ 2000 := by
  unfold stepS at h
  split at h
  · injection h with h; subst h; exact hl
  · split at h
    · cases h
    · split at h
      · cases h
      · split at h
        · cases h
        · injection h with h
          subst h
          rw [List.length_append, List.length_singleton]
          omega
/-- The lexer. -/
def resOf : Except (Nat × Nat) (List Tok) → LexR
  | .ok t => ⟨t, 0, 0⟩
  | .error e => ⟨[], e.1, e.2⟩
def LEX (l : List UInt8) : LexR := if 8000 < l.length then ⟨[], 2, 0⟩ else resOf (lexE [] (spans l 0))

/-- A span of a script that is not too long. -/
def okS (x : Span) : Prop := x.cls ≤ 5 ∧ x.text.data.toList ≠ [] ∧ (x.cls = 4 → ∀ c ∈ x.text.data.toList, Lx.cls c = 4) ∧ x.text.size ≤ 8000 ∧ x.pos ≤ 8000
theorem mem_tw (p : UInt8 → Bool) : ∀ (l : List UInt8) (d : UInt8), d ∈ l.takeWhile p → p d = true
  | [], d, h => by simp at h
  | c :: r, d, h => by
    by_cases hc : p c = true
    · rw [List.takeWhile_cons_of_pos hc] at h
      rcases List.mem_cons.1 h with rfl | h
      · exact hc
      · exact mem_tw p r d h
    · rw [List.takeWhile_cons_of_neg hc] at h
      cases h
theorem take_run (p : UInt8 → Bool) (l : List UInt8) : l.take (run p l) = l.takeWhile p :=
  (List.prefix_iff_eq_take.1 (List.takeWhile_prefix p)).symm
theorem okS_head {c : UInt8} {r : List UInt8} {p : Nat} (h : p + (c :: r).length ≤ 8000) : okS ⟨p, cls c, ⟨((c :: r).take (spanLen (c :: r))).toArray⟩⟩ := by
  have h1 := spanLen_pos c r
  have h2 := spanLen_le (c :: r)
  refine ⟨cls_le c, ?_, ?_, ?_, ?_⟩
  · show (c :: r).take (spanLen (c :: r)) ≠ []
    intro e
    have := congrArg List.length e
    rw [List.length_take] at this
    simp only [List.length_cons, List.length_nil] at *
    omega
  · intro h4 d hd
    have h4' : cls c = 4 := h4
    have e : spanLen (c :: r) = run inNum (c :: r) := by
      simp only [spanLen]
      rw [if_neg (by omega), if_neg (by omega), if_pos h4']
    have hd' : d ∈ (c :: r).take (spanLen (c :: r)) := hd
    rw [e, take_run] at hd'
    have := mem_tw inNum _ _ hd'
    simpa [inNum] using this
  · show ((c :: r).take (spanLen (c :: r))).length ≤ 8000
    rw [List.length_take]
    omega
  · show p ≤ 8000
    omega
open Go.Lib in
theorem parse_digits : ∀ (l : List UInt8) (a : Nat), (∀ c ∈ l, cls c = 4) → parseUint10 a l = if numFrom a l < 18446744073709551616 then .ok (numFrom a l) else (if l = [] then .ok a else .range)
  | [], a, _ => by simp [parseUint10, numFrom]
  | c :: r, a, h => by
    have hc : 48 ≤ c.toNat ∧ c.toNat ≤ 57 := by
      have := h c (List.mem_cons_self ..)
      unfold cls at this
      repeat' split at this
      all_goals first | omega | assumption
    have hmono : ∀ (l : List UInt8) (a : Nat), a ≤ numFrom a l := by
      intro l
      induction l with
      | nil => intro a; simp [numFrom]
      | cons c r ih => intro a; exact Nat.le_trans (by omega) (ih (10 * a + (c.toNat - 48)))
    have e : numFrom a (c :: r) = numFrom (10 * a + (c.toNat - 48)) r := rfl
    have e2 : a * 10 + (c.toNat - 48) = 10 * a + (c.toNat - 48) := by omega
    have hm := hmono r (10 * a + (c.toNat - 48))
    simp only [parseUint10]
    rw [if_pos hc, e]
    by_cases h1 : 1844674407370955162 ≤ a
    · rw [if_pos h1, if_neg (by omega), if_neg (by simp)]
    · rw [if_neg h1, e2]
      by_cases h2 : 18446744073709551616 ≤ 10 * a + (c.toNat - 48)
      · rw [if_pos h2, if_neg (by omega), if_neg (by simp)]
      · rw [if_neg h2, parse_digits r _ (fun c hc => h c (List.mem_cons_of_mem _ hc))]
        by_cases h3 : numFrom (10 * a + (c.toNat - 48)) r < 18446744073709551616
        · rw [if_pos h3, if_pos h3]
        · rw [if_neg h3, if_neg h3]
          cases r with
          | nil => exact absurd (show numFrom (10 * a + (c.toNat - 48)) [] < _ from by show 10 * a + (c.toNat - 48) < _; omega) h3
          | cons d r => simp

open Go.Lib in
theorem atoi_digits {l : List UInt8} (h0 : l ≠ []) (h : ∀ c ∈ l, cls c = 4) : atoiAll l = if num l < 9223372036854775808 then .ok (num l : Int) else .range := by
  cases l with
  | nil => exact absurd rfl h0
  | cons c r =>
    have hc : 48 ≤ c.toNat ∧ c.toNat ≤ 57 := by
      have := h c (List.mem_cons_self ..)
      unfold cls at this
      repeat' split at this
      all_goals first | omega | assumption
    unfold atoiAll
    simp only
    rw [if_neg (show ¬ (c.toNat = 43 ∨ c.toNat = 45) by omega)]
    have hp : parseMag (c :: r) = if num (c :: r) < 18446744073709551616 then .ok (num (c :: r)) else .range := by
      unfold parseMag
      rw [if_neg (by simp), parse_digits _ _ h, if_neg (show ¬ (c :: r) = [] by simp)]
      rfl
    rw [hp]
    by_cases h1 : num (c :: r) < 18446744073709551616
    · rw [if_pos h1]
      simp only
      by_cases h2 : num (c :: r) < 9223372036854775808
      · rw [if_pos h2, if_neg (by omega), if_neg (by omega), if_neg (by omega)]
      · rw [if_neg h2, if_pos (by omega)]
    · rw [if_neg h1, if_neg (show ¬ num (c :: r) < 9223372036854775808 by omega)]
end Go.Proofs.YtmdogklgbifacaaDoor.Lx
