/- The lexer in plain Lean: classes of bytes for the reference, gaps, ends, decimals, the texts of tokens. The lexer in plain Lean: evaluation on constants; what its tokens keep to. The lexer in plain Lean: how texts that are joined are cut into spans and tokens. The lexer in plain Lean: errors, two scripts. The lexer in plain Lean: gaps that are inserted. The lexer in plain Lean: tokens that are written again; the texts at their offsets. The lexer in plain Lean: tokens' texts, each followed by a gap. -/
import Derived.Lib.ItoaNum
import Derived.Lib.Strings
import Derived.Test.YtbgekgakamincaaDoorLxA
import Derived.Test.YtbgekgakamincaaDoorBas
import Derived.KernelRfl

/- The lexer in plain Lean: classes of bytes for the reference, gaps, ends, decimals, the texts of tokens. -/
namespace Go.Proofs.YtbgekgakamincaaDoor.Lx
open Go.RowKit
set_option linter.unusedVariables false

def isL (c : UInt8) : Bool := decide (cls c = 3)
def isD (c : UInt8) : Bool := decide (cls c = 4)
def isB (c : UInt8) : Bool := isL c || (isD c || decide (cls c = 5))
theorem isL_iff (c : UInt8) : isL c = (decide (97 ≤ c.toNat) && decide (c.toNat ≤ 122)) := by
  unfold isL cls
  rw [Bool.eq_iff_iff]
  simp only [decide_eq_true_eq, Bool.and_eq_true]
  constructor
  · intro h
    (repeat' split at h) <;> first | omega | assumption
  · intro h
    rw [if_neg (by omega), if_neg (by omega), if_pos h]
theorem isD_iff (c : UInt8) : isD c = (decide (48 ≤ c.toNat) && decide (c.toNat ≤ 57)) := by
  unfold isD cls
  rw [Bool.eq_iff_iff]
  simp only [decide_eq_true_eq, Bool.and_eq_true]
  constructor
  · intro h
    (repeat' split at h) <;> first | omega | assumption
  · intro h
    rw [if_neg (by omega), if_neg (by omega), if_neg (by omega), if_pos h]
theorem isP_iff (c : UInt8) : cls c = 5 ↔ c.toNat = 59 := by
  unfold cls
  constructor
  · intro h
    (repeat' split at h) <;> first | omega | assumption
  · intro h
    rw [if_neg (by omega), if_neg (by omega), if_neg (by omega), if_neg (by omega), if_pos h]
/-- How many bytes of gaps a text begins with. -/
def gapLen (l : List UInt8) : Nat :=
  match l with
  | [] => 0
  | c :: r => if cls c = 1 ∨ cls c = 2 then spanLen (c :: r) + gapLen ((c :: r).drop (spanLen (c :: r))) else 0
termination_by l.length
decreasing_by
  have := spanLen_pos c r
  simp only [List.length_drop, List.length_cons]
  omega
theorem gapLen_nil : gapLen [] = 0 := by rw [gapLen]
theorem gapLen_cons (c : UInt8) (r : List UInt8) : gapLen (c :: r) = if cls c = 1 ∨ cls c = 2 then spanLen (c :: r) + gapLen ((c :: r).drop (spanLen (c :: r))) else 0 := by rw [gapLen]
theorem spanLen_blank {c : UInt8} (h : cls c = 1) (r : List UInt8) : spanLen (c :: r) = 1 := by
  simp only [spanLen]; rw [if_neg (by omega), if_neg (by omega), if_neg (by omega)]
theorem spanLen_com {c : UInt8} (h : cls c = 2) (r : List UInt8) : spanLen (c :: r) = run inCom (c :: r) := by
  simp only [spanLen]; rw [if_pos h]
theorem blank_iff (c : UInt8) : cls c = 1 ↔ (c.toNat = 32 ∨ c.toNat = 9 ∨ c.toNat = 10) := by
  unfold cls
  constructor
  · intro h
    (repeat' split at h) <;> first | omega | assumption
  · intro h
    rw [if_pos h]
theorem com_iff (c : UInt8) : cls c = 2 ↔ c.toNat = 35 := by
  unfold cls
  constructor
  · intro h
    (repeat' split at h) <;> first | omega | assumption
  · intro h
    rw [if_neg (by omega), if_pos h]
/-- How many bytes the token, or the wrong byte, has. -/
def endLen : List UInt8 → Nat
  | [] => 1
  | c :: r => if cls c = 3 then run inNam (c :: r) else if cls c = 4 then run inNum (c :: r) else 1
theorem endLen_span {c : UInt8} (h : cls c ≠ 2) (r : List UInt8) : endLen (c :: r) = spanLen (c :: r) := by
  simp only [endLen, spanLen]; rw [if_neg h]
theorem inNam_of (c : UInt8) : inNam c = (isL c || (isD c || decide (c.toNat = 95))) := rfl
theorem inNum_of (c : UInt8) : inNum c = isD c := rfl
/-- What goes on, by the first byte. -/
def onB (a b : Bool) (c : UInt8) : Bool := (a && (isL c || (isD c || decide (c.toNat = 95)))) || (b && isD c)
theorem endLen_run {c : UInt8} {r : List UInt8} (m : Nat) (hm : endLen (c :: r) = m) : 1 ≤ m ∧ m ≤ (c :: r).length ∧ (∀ k, 1 ≤ k → (h : k < m) → (h' : k < (c :: r).length) → onB (isL c) (isD c) (c :: r)[k] = true) ∧ ((h : m < (c :: r).length) → onB (isL c) (isD c) (c :: r)[m] = false) := by
  by_cases h3 : cls c = 3
  · have e : endLen (c :: r) = run inNam (c :: r) := by simp only [endLen]; rw [if_pos h3]
    have hL : isL c = true := by unfold isL; simp [h3]
    have hD : isD c = false := by unfold isD; simp [h3]
    rw [e] at hm
    rw [hL, hD]
    have ho : ∀ d, onB true false d = inNam d := fun d => by rw [inNam_of]; unfold onB; simp
    refine ⟨by rw [← hm]; exact run_pos (nam_of h3), by rw [← hm]; exact run_le _ _, fun k hk h h' => ?_, fun h => ?_⟩
    · rw [ho]; exact runs_at inNam _ k (by rw [hm]; exact h)
    · rw [ho]
      have := runs_end inNam (c :: r) (by rw [hm]; exact h)
      simp only [hm] at this
      exact this
  · by_cases h4 : cls c = 4
    · have e : endLen (c :: r) = run inNum (c :: r) := by simp only [endLen]; rw [if_neg h3, if_pos h4]
      have hL : isL c = false := by unfold isL; simp [h4]
      have hD : isD c = true := by unfold isD; simp [h4]
      rw [e] at hm
      rw [hL, hD]
      have ho : ∀ d, onB false true d = inNum d := fun d => by rw [inNum_of]; unfold onB; simp
      refine ⟨by rw [← hm]; exact run_pos (num_of h4), by rw [← hm]; exact run_le _ _, fun k hk h h' => ?_, fun h => ?_⟩
      · rw [ho]; exact runs_at inNum _ k (by rw [hm]; exact h)
      · rw [ho]
        have := runs_end inNum (c :: r) (by rw [hm]; exact h)
        simp only [hm] at this
        exact this
    · have e : endLen (c :: r) = 1 := by simp only [endLen]; rw [if_neg h3, if_neg h4]
      have hL : isL c = false := by unfold isL; simp [h3]
      have hD : isD c = false := by unfold isD; simp [h4]
      rw [hL, hD]
      refine ⟨by omega, by simp only [List.length_cons]; omega, fun k hk h h' => absurd h (by omega), fun h => rfl⟩
/-- The value of digits, but at most 1000000001. -/
def capv (l : List UInt8) : Nat := min (num l) 1000000001
theorem num_snoc (l : List UInt8) (c : UInt8) : num (l ++ [c]) = 10 * num l + (c.toNat - 48) := by
  unfold num numFrom; rw [List.foldl_append]; rfl
theorem capv_snoc (l : List UInt8) (c : UInt8) : capv (l ++ [c]) = min (10 * capv l + (c.toNat - 48)) 1000000001 := by
  unfold capv; rw [num_snoc]; omega
theorem w8_digit (c : UInt8) (h : cls c = 4) : ((c.toNat : Int) - 48) % 256 = ((c.toNat - 48 : Nat) : Int) := by
  have := (isD_iff c).symm
  unfold isD at this
  rw [h] at this
  simp only [decide_true, Bool.and_eq_true, decide_eq_true_eq] at this
  have h2 := UInt8.toNat_lt c
  omega
def dgt (k : Nat) : UInt8 := UInt8.ofNat (48 + k % 10)
theorem dec_small {k : Nat} (h : k < 10) : Lib.decDigits k = [dgt k] := by
  rw [Lib.decDigits, dif_pos h]; unfold dgt; rw [Nat.mod_eq_of_lt h]
theorem dec_big {k : Nat} (h : ¬ k < 10) : Lib.decDigits k = Lib.decDigits (k / 10) ++ [dgt k] := by
  rw [Lib.decDigits, dif_neg h]; rfl
theorem dgt_nat (k : Nat) : ((dgt k).toNat : Int) = 48 + (k : Int) % 10 := by
  unfold dgt
  rw [UInt8.toNat_ofNat_of_lt' (by simp [UInt8.size]; omega)]
  omega
theorem str_eta (s : ByteArray) : (⟨s.data.toList.toArray⟩ : ByteArray) = s := ByteArray.ext (Array.toArray_toList)
/-- The text of a token. -/
def textB (t : Tok) : ByteArray := if t.kind = 2 then ⟨(Lib.decDigits t.n).toArray⟩ else t.text
end Go.Proofs.YtbgekgakamincaaDoor.Lx

/- The lexer in plain Lean: evaluation on constants; what its tokens keep to. -/
namespace Go.Proofs.YtbgekgakamincaaDoor.Lx
set_option linter.unusedVariables false

def spansF : Nat → List UInt8 → Nat → List Span
  | 0, _, _ => []
  | _ + 1, [], _ => []
  | n + 1, c :: r, p => ⟨p, cls c, ⟨((c :: r).take (spanLen (c :: r))).toArray⟩⟩ :: spansF n ((c :: r).drop (spanLen (c :: r))) (p + spanLen (c :: r))
theorem spansF_eq : ∀ (n : Nat) (l : List UInt8) (p : Nat), l.length ≤ n → spans l p = spansF n l p
  | 0, l, p, h => by
    obtain rfl : l = [] := List.eq_nil_of_length_eq_zero (by omega)
    rw [spans_nil]; rfl
  | n + 1, [], p, h => by rw [spans_nil]; rfl
  | n + 1, c :: r, p, h => by
    have h1 := spanLen_pos c r
    rw [spans_cons, spansF_eq n _ _ (by rw [List.length_drop]; simp only [List.length_cons] at *; omega)]
    rfl
def LEXF (l : List UInt8) : LexR := if 8000 < l.length then ⟨[], 2, 0⟩ else resOf (lexE [] (spansF l.length l 0))
theorem LEX_F (l : List UInt8) : LEX l = LEXF l := by
  unfold LEX LEXF
  rw [spansF_eq l.length l 0 (Nat.le_refl _)]

theorem spans_pos : ∀ (n : Nat) (l : List UInt8) (p : Nat), l.length ≤ n → ∀ x ∈ spans l p, p ≤ x.pos ∧ x.pos < p + l.length
  | n, [], p, _, x, hx => by rw [spans_nil] at hx; cases hx
  | 0, c :: r, p, h, _, _ => absurd h (by simp)
  | n + 1, c :: r, p, h, x, hx => by
    have h1 := spanLen_pos c r
    have h2 := spanLen_le (c :: r)
    rw [spans_cons] at hx
    rcases List.mem_cons.1 hx with rfl | hx
    · simp only [List.length_cons]; omega
    · have := spans_pos n _ _ (by rw [List.length_drop]; simp only [List.length_cons] at *; omega) x hx
      rw [List.length_drop] at this
      omega
/-- A token that the lexer gives: its offset, its number. -/
def okT (m : Nat) (t : Tok) : Prop := t.pos < m ∧ t.n ≤ 1000000000
theorem tokenOf_ok {k : Nat} {l : List UInt8} {t : Tok} (h : tokenOf k l = .ok t) : t.n ≤ 1000000000 := by
  unfold tokenOf at h
  split at h
  · split at h
    · cases h
    · injection h with h; subst h; exact Nat.zero_le _
  · split at h
    · split at h
      · cases h
      · split at h
        · cases h
        · injection h with h; subst h; show num l ≤ _; omega
    · injection h with h; subst h; exact Nat.zero_le _
theorem lexE_ok {m : Nat} : ∀ (xs : List Span) (acc ts : List Tok), (∀ x ∈ xs, x.pos < m) → (∀ t ∈ acc, okT m t) → lexE acc xs = .ok ts → ∀ t ∈ ts, okT m t
  | [], acc, ts, _, ha, h => by
    simp only [lexE] at h
    injection h with h
    subst h
    exact ha
  | x :: xs, acc, ts, hx, ha, h => by
    simp only [lexE] at h
    cases hs : stepS acc x with
    | error e => rw [hs] at h; cases h
    | ok a =>
      rw [hs] at h
      refine lexE_ok xs a ts (fun y hy => hx y (List.mem_cons_of_mem _ hy)) ?_ h
      unfold stepS at hs
      split at hs
      · injection hs with hs; subst hs; exact ha
      · split at hs
        · cases hs
        · split at hs
          · cases hs
          · split at hs
            · cases hs
            · rename_i t ht
              injection hs with hs
              subst hs
              intro u hu
              rcases List.mem_append.1 hu with hu | hu
              · exact ha u hu
              · simp only [List.mem_singleton] at hu
                subst hu
                have h1 := tokenOf_ok ht
                exact ⟨hx x (List.mem_cons_self ..), h1⟩
theorem lexE_len : ∀ (xs : List Span) (acc ts : List Tok), acc.length ≤ 2000 → lexE acc xs = .ok ts → ts.length ≤ 2000
  | [], acc, ts, ha, h => by
    simp only [lexE] at h
    injection h with h
    subst h
    exact ha
  | x :: xs, acc, ts, ha, h => by
    simp only [lexE] at h
    cases hs : stepS acc x with
    | error e => rw [hs] at h; cases h
    | ok a =>
      rw [hs] at h
      exact lexE_len xs a ts (stepS_len hs ha) h
theorem LEX_ok (l : List UInt8) : ∀ t ∈ (LEX l).toks, okT l.length t := by
  unfold LEX
  split
  · intro t ht; cases ht
  · cases h : lexE [] (spans l 0) with
    | error e => intro t ht; cases ht
    | ok ts =>
      exact lexE_ok (spans l 0) [] ts (fun x hx => by have := spans_pos _ l 0 (Nat.le_refl _) x hx; omega) (fun t ht => by cases ht) h
theorem LEX_len (l : List UInt8) : (LEX l).toks.length ≤ 2000 := by
  unfold LEX
  split
  · simp
  · cases h : lexE [] (spans l 0) with
    | error e => exact Nat.zero_le _
    | ok ts => exact lexE_len (spans l 0) [] ts (Nat.zero_le _) h
theorem LEX_long {l : List UInt8} (h : (LEX l).err = 0) : l.length ≤ 8000 := by
  unfold LEX at h
  split at h
  · cases h
  · omega

theorem bytes_of_list {a b : ByteArray} (h : a.toList = b.toList) : a = b := by
  rw [Lib.toList_data, Lib.toList_data] at h
  exact ByteArray.ext (Array.ext' h)
def eqT (d : Nat) (x y : Tok) : Bool := decide (x.kind = y.kind) && (decide (x.text = y.text) && (decide (x.n = y.n) && decide (x.pos + d = y.pos)))
def sameB (d : Nat) : List Tok → List Tok → Bool
  | [], [] => true
  | x :: xs, y :: ys => eqT d x y && sameB d xs ys
  | _, _ => false
def likeT (x y : Tok) : Bool := decide (x.kind = y.kind) && (decide (x.text = y.text) && decide (x.n = y.n))
def alikeB : List Tok → List Tok → Bool
  | [], [] => true
  | x :: xs, y :: ys => likeT x y && alikeB xs ys
  | _, _ => false
end Go.Proofs.YtbgekgakamincaaDoor.Lx

/- The lexer in plain Lean: how texts that are joined are cut into spans and tokens. -/
namespace Go.Proofs.YtbgekgakamincaaDoor.Lx
set_option linter.unusedVariables false

/-- What one list of tokens yields, then another. -/
def catT (a : Except (Nat × Nat) (List Tok)) (b : Nat → Except (Nat × Nat) (List Tok)) : Except (Nat × Nat) (List Tok) :=
  match a with
  | .error e => .error e
  | .ok x => match b x.length with
    | .error e => .error e
    | .ok y => .ok (x ++ y)
/-- The tokens of one span, n tokens being there. -/
def tokS (n : Nat) (x : Span) : Except (Nat × Nat) (List Tok) :=
  if x.cls = 1 ∨ x.cls = 2 then .ok []
  else if x.cls = 0 then .error (7, x.pos)
  else if n = 2000 then .error (2, x.pos)
  else match tokenOf x.cls x.text.data.toList with
    | .error e => .error (e, x.pos)
    | .ok t => .ok [{ t with pos := x.pos }]
def lexT (n : Nat) : List Span → Except (Nat × Nat) (List Tok)
  | [] => .ok []
  | x :: xs => catT (tokS n x) (fun k => lexT (n + k) xs)
theorem catT_ok {x : List Tok} {b : Nat → Except (Nat × Nat) (List Tok)} : catT (.ok x) b = match b x.length with | .error e => .error e | .ok y => .ok (x ++ y) := rfl
theorem catT_err {e : Nat × Nat} {b : Nat → Except (Nat × Nat) (List Tok)} : catT (.error e) b = .error e := rfl
theorem catT_nil {a : Except (Nat × Nat) (List Tok)} : catT a (fun _ => .ok []) = a := by
  cases a with
  | error e => rfl
  | ok x => rw [catT_ok]; simp
theorem catT_none {b : Nat → Except (Nat × Nat) (List Tok)} : catT (.ok []) b = b 0 := by
  rw [catT_ok]
  show (match b 0 with | .error e => _ | .ok y => _) = _
  cases b 0 <;> rfl
theorem catT_assoc {a : Except (Nat × Nat) (List Tok)} {b c : Nat → Except (Nat × Nat) (List Tok)} : catT (catT a b) c = catT a (fun k => catT (b k) (fun j => c (k + j))) := by
  cases a with
  | error e => rfl
  | ok x =>
    rw [catT_ok, catT_ok]
    cases hb : b x.length with
    | error e => rfl
    | ok y =>
      simp only
      rw [catT_ok, List.length_append]
      simp only [catT]
      cases hc : c (x.length + y.length) with
      | error e => rfl
      | ok z => simp [List.append_assoc]
theorem lexT_append : ∀ (xs ys : List Span) (n : Nat), lexT n (xs ++ ys) = catT (lexT n xs) (fun k => lexT (n + k) ys)
  | [], ys, n => by
    show lexT n ys = catT (.ok []) _
    rw [catT_none]
    rfl
  | x :: xs, ys, n => by
    show catT (tokS n x) (fun k => lexT (n + k) (xs ++ ys)) = catT (catT (tokS n x) (fun k => lexT (n + k) xs)) _
    rw [catT_assoc]
    congr 1
    funext k
    rw [lexT_append xs ys (n + k)]
    congr 1
    funext j
    rw [Nat.add_assoc]
theorem stepS_T (acc : List Tok) (x : Span) : stepS acc x = match tokS acc.length x with | .error e => .error e | .ok y => .ok (acc ++ y) := by
  unfold stepS tokS
  split
  · simp
  · split
    · rfl
    · split
      · rfl
      · cases tokenOf x.cls x.text.data.toList <;> rfl
theorem lexE_T : ∀ (xs : List Span) (acc : List Tok), lexE acc xs = match lexT acc.length xs with | .error e => .error e | .ok y => .ok (acc ++ y)
  | [], acc => by simp [lexE, lexT]
  | x :: xs, acc => by
    simp only [lexE]
    rw [stepS_T]
    rw [lexT]
    cases tokS acc.length x with
    | error e => rfl
    | ok y =>
      simp only
      rw [lexE_T xs (acc ++ y), List.length_append, catT_ok]
      cases lexT (acc.length + y.length) xs with
      | error e => rfl
      | ok z => simp [List.append_assoc]
theorem LEX_T (l : List UInt8) (h : l.length ≤ 8000) : LEX l = resOf (lexT 0 (spans l 0)) := by
  have H : lexE [] (spans l 0) = lexT 0 (spans l 0) := by
    rw [lexE_T, List.length_nil]
    cases lexT 0 (spans l 0) <;> rfl
  unfold LEX
  rw [if_neg (by omega), H]

/-- The offsets of tokens moved. -/
def mv (d : Nat) (ts : List Tok) : List Tok := ts.map fun t => { t with pos := t.pos + d }
def mvS (d : Nat) (xs : List Span) : List Span := xs.map fun x => { x with pos := x.pos + d }
def mvE (d : Nat) : Except (Nat × Nat) (List Tok) → Except (Nat × Nat) (List Tok)
  | .error e => .error (e.1, e.2 + d)
  | .ok ts => .ok (mv d ts)
theorem spans_mv : ∀ (n : Nat) (l : List UInt8) (p d : Nat), l.length ≤ n → spans l (p + d) = mvS d (spans l p)
  | n, [], p, d, _ => by rw [spans_nil, spans_nil]; rfl
  | 0, c :: r, p, d, h => absurd h (by simp)
  | n + 1, c :: r, p, d, h => by
    have h1 := spanLen_pos c r
    rw [spans_cons, spans_cons, show p + d + spanLen (c :: r) = p + spanLen (c :: r) + d by omega, spans_mv n _ _ d (by rw [List.length_drop]; simp only [List.length_cons] at *; omega)]
    rfl
theorem tokS_mv (n d : Nat) (x : Span) : tokS n { x with pos := x.pos + d } = mvE d (tokS n x) := by
  unfold tokS
  dsimp only
  split
  · rfl
  · split
    · rfl
    · split
      · rfl
      · cases tokenOf x.cls x.text.data.toList <;> rfl
theorem catT_mv (d : Nat) (a : Except (Nat × Nat) (List Tok)) (b : Nat → Except (Nat × Nat) (List Tok)) : catT (mvE d a) (fun k => mvE d (b k)) = mvE d (catT a b) := by
  cases a with
  | error e => rfl
  | ok x =>
    have hl : (mv d x).length = x.length := by unfold mv; simp
    show catT (.ok (mv d x)) _ = _
    rw [catT_ok, catT_ok, hl]
    cases b x.length with
    | error e => rfl
    | ok y => simp [mvE, mv]
theorem lexT_mv (d : Nat) : ∀ (xs : List Span) (n : Nat), lexT n (mvS d xs) = mvE d (lexT n xs)
  | [], n => rfl
  | x :: xs, n => by
    show catT (tokS n { x with pos := x.pos + d }) (fun k => lexT (n + k) (mvS d xs)) = mvE d (catT (tokS n x) (fun k => lexT (n + k) xs))
    rw [tokS_mv, ← catT_mv]
    congr 1
    funext k
    exact lexT_mv d xs (n + k)

/-- How many bytes spans have. -/
def spLen (xs : List Span) : Nat := (xs.map fun x => x.text.size).foldr (· + ·) 0
theorem spLen_cons (x : Span) (xs : List Span) : spLen (x :: xs) = x.text.size + spLen xs := rfl

theorem run_take (p : UInt8 → Bool) : ∀ (l : List UInt8) (q : Nat), run p l ≤ q → run p (l.take q) = run p l
  | [], q, _ => by simp [run]
  | c :: r, 0, h => by
    by_cases hc : p c = true
    · have := run_pos (r := r) hc; omega
    · unfold run; rw [List.take_zero, List.takeWhile_cons_of_neg hc]; rfl
  | c :: r, q + 1, h => by
    by_cases hc : p c = true
    · have e : run p (c :: r) = run p r + 1 := by unfold run; rw [List.takeWhile_cons_of_pos hc, List.length_cons]
      have e2 : run p (c :: r.take q) = run p (r.take q) + 1 := by unfold run; rw [List.takeWhile_cons_of_pos hc, List.length_cons]
      rw [List.take_succ_cons, e, e2, run_take p r q (by omega)]
    · unfold run; rw [List.take_succ_cons, List.takeWhile_cons_of_neg hc, List.takeWhile_cons_of_neg hc]
theorem run_append (p : UInt8 → Bool) : ∀ (l m : List UInt8), (run p l < l.length ∨ ∀ d r, m = d :: r → p d = false) → run p (l ++ m) = run p l
  | [], m, h => by
    rcases h with h | h
    · simp [run] at h
    · cases m with
      | nil => rfl
      | cons d r => unfold run; rw [List.nil_append, List.takeWhile_cons_of_neg (by rw [h d r rfl]; decide)]; rfl
  | c :: l, m, h => by
    by_cases hc : p c = true
    · have e : run p (c :: l) = run p l + 1 := by unfold run; rw [List.takeWhile_cons_of_pos hc, List.length_cons]
      have e2 : run p (c :: (l ++ m)) = run p (l ++ m) + 1 := by unfold run; rw [List.takeWhile_cons_of_pos hc, List.length_cons]
      rw [List.cons_append, e, e2, run_append p l m (by rw [e, List.length_cons] at h; rcases h with h | h; exact .inl (by omega); exact .inr h)]
    · unfold run; rw [List.cons_append, List.takeWhile_cons_of_neg hc, List.takeWhile_cons_of_neg hc]
theorem spanLen_take (l : List UInt8) (q : Nat) (h : spanLen l ≤ q) (h0 : 1 ≤ q) : spanLen (l.take q) = spanLen l := by
  cases l with
  | nil => simp
  | cons c r =>
    obtain ⟨q', rfl⟩ : ∃ q', q = q' + 1 := ⟨q - 1, by omega⟩
    rw [List.take_succ_cons]
    simp only [spanLen] at h ⊢
    split
    · rename_i hc; rw [if_pos hc] at h; exact run_take inCom (c :: r) (q' + 1) h
    · rename_i hc; rw [if_neg hc] at h
      split
      · rename_i hc; rw [if_pos hc] at h; exact run_take inNam (c :: r) (q' + 1) h
      · rename_i hc; rw [if_neg hc] at h
        split
        · rename_i hc; rw [if_pos hc] at h; exact run_take inNum (c :: r) (q' + 1) h
        · rfl
/-- Does a byte go on with a span of a class? -/
def ext (k : Nat) (d : UInt8) : Bool := if k = 2 then inCom d else if k = 3 then inNam d else if k = 4 then inNum d else false
theorem spanLen_append (c : UInt8) (r m : List UInt8) (h : spanLen (c :: r) < (c :: r).length ∨ ∀ d t, m = d :: t → ext (cls c) d = false) : spanLen (c :: r ++ m) = spanLen (c :: r) := by
  rw [List.cons_append]
  simp only [spanLen] at h ⊢
  unfold ext at h
  split
  · rename_i hc; simp only [if_pos hc] at h; exact run_append inCom (c :: r) m h
  · rename_i hc; simp only [if_neg hc] at h
    split
    · rename_i hc; simp only [if_pos hc] at h; exact run_append inNam (c :: r) m h
    · rename_i hc; simp only [if_neg hc] at h
      split
      · rename_i hc; simp only [if_pos hc] at h; exact run_append inNum (c :: r) m h
      · rfl

/-- The class of the last span. -/
def lastC (l : List UInt8) : Nat :=
  match l with
  | [] => 1
  | c :: r => if spanLen (c :: r) < (c :: r).length then lastC ((c :: r).drop (spanLen (c :: r))) else cls c
termination_by l.length
decreasing_by
  have := spanLen_pos c r
  simp only [List.length_drop, List.length_cons]
  omega
theorem lastC_nil : lastC [] = 1 := by rw [lastC]
theorem lastC_cons (c : UInt8) (r : List UInt8) : lastC (c :: r) = if spanLen (c :: r) < (c :: r).length then lastC ((c :: r).drop (spanLen (c :: r))) else cls c := by rw [lastC]
/-- JOINED TEXTS, where the second one does not go on with the last span of the first one. -/
theorem spans_append : ∀ (n : Nat) (l m : List UInt8) (p : Nat), l.length ≤ n → (∀ d t, m = d :: t → ext (lastC l) d = false) → spans (l ++ m) p = spans l p ++ spans m (p + l.length)
  | n, [], m, p, _, _ => by rw [spans_nil]; simp
  | 0, c :: r, m, p, h, _ => absurd h (by simp)
  | n + 1, c :: r, m, p, h, hx => by
    have h1 := spanLen_pos c r
    have h2 := spanLen_le (c :: r)
    have hs : spanLen (c :: r ++ m) = spanLen (c :: r) := by
      refine spanLen_append c r m ?_
      rcases Nat.lt_or_ge (spanLen (c :: r)) (c :: r).length with h3 | h3
      · exact .inl h3
      · refine .inr fun d t e => ?_
        have := hx d t e
        rw [lastC_cons, if_neg (by omega)] at this
        exact this
    have ih : spans ((c :: r).drop (spanLen (c :: r)) ++ m) (p + spanLen (c :: r)) = spans ((c :: r).drop (spanLen (c :: r))) (p + spanLen (c :: r)) ++ spans m (p + spanLen (c :: r) + ((c :: r).drop (spanLen (c :: r))).length) := by
      refine spans_append n _ m _ (by rw [List.length_drop]; simp only [List.length_cons] at *; omega) fun d t e => ?_
      rcases Nat.lt_or_ge (spanLen (c :: r)) (c :: r).length with h3 | h3
      · have := hx d t e
        rw [lastC_cons, if_pos h3] at this
        exact this
      · rw [List.drop_of_length_le h3, lastC_nil]; rfl
    have e1 : spans (c :: r ++ m) p = ⟨p, cls c, ⟨((c :: r ++ m).take (spanLen (c :: r ++ m))).toArray⟩⟩ :: spans ((c :: r ++ m).drop (spanLen (c :: r ++ m))) (p + spanLen (c :: r ++ m)) := by
      rw [List.cons_append, spans_cons]
    rw [e1, hs, List.take_append_of_le_length h2, List.drop_append_of_le_length h2, ih, spans_cons, List.cons_append, List.length_drop, show p + spanLen (c :: r) + ((c :: r).length - spanLen (c :: r)) = p + (c :: r).length by omega]
/-- The spans up to a boundary. -/
theorem spans_prefix : ∀ (xs ys : List Span) (l : List UInt8) (p : Nat), spans l p = xs ++ ys → spans (l.take (spLen xs)) p = xs ∧ spans (l.drop (spLen xs)) (p + spLen xs) = ys ∧ spLen xs ≤ l.length
  | [], ys, l, p, h => ⟨by show spans (l.take 0) p = []; rw [List.take_zero, spans_nil], h, Nat.zero_le _⟩
  | x :: xs, ys, [], p, h => by rw [spans_nil] at h; cases h
  | x :: xs, ys, c :: r, p, h => by
    have h1 := spanLen_pos c r
    have h2 := spanLen_le (c :: r)
    rw [spans_cons, List.cons_append] at h
    injection h with hx ht
    have hsz : x.text.size = spanLen (c :: r) := by
      rw [← hx]
      show ((c :: r).take (spanLen (c :: r))).length = _
      rw [List.length_take]; omega
    obtain ⟨i1, i2, i3⟩ := spans_prefix xs ys _ _ ht
    rw [List.length_drop] at i3
    have hle : spLen (x :: xs) ≤ (c :: r).length := by rw [spLen_cons, hsz]; omega
    refine ⟨?_, ?_, hle⟩
    · rw [spLen_cons, hsz]
      obtain ⟨t', e⟩ : ∃ t', (c :: r).take (spanLen (c :: r) + spLen xs) = c :: t' := ⟨r.take (spanLen (c :: r) + spLen xs - 1), by
        rw [show spanLen (c :: r) + spLen xs = (spanLen (c :: r) + spLen xs - 1) + 1 by omega, List.take_succ_cons]; rfl⟩
      have hs : spanLen (c :: t') = spanLen (c :: r) := by rw [← e]; exact spanLen_take _ _ (by omega) (by omega)
      rw [e, spans_cons, hs, ← e, List.take_take, Nat.min_eq_left (by omega), List.drop_take, Nat.add_sub_cancel_left, hx, i1]
    · rw [spLen_cons, hsz, ← List.drop_drop, ← Nat.add_assoc]
      exact i2
end Go.Proofs.YtbgekgakamincaaDoor.Lx

/- The lexer in plain Lean: errors, two scripts. -/
namespace Go.Proofs.YtbgekgakamincaaDoor.Lx
set_option linter.unusedVariables false

theorem tokS_err {n : Nat} {x : Span} {e p : Nat} (h : tokS n x = .error (e, p)) : p = x.pos ∧ x.cls ≠ 1 ∧ x.cls ≠ 2 ∧ (e = 2 ∨ e = 3 ∨ e = 7) ∧ (e = 2 → n = 2000) := by
  unfold tokS at h
  split at h
  · cases h
  · rename_i h12
    split at h
    · injection h with h; injection h with h1 h2; subst h1; subst h2
      exact ⟨rfl, fun h => h12 (.inl h), fun h => h12 (.inr h), .inr (.inr rfl), fun h => absurd h (by decide)⟩
    · split at h
      · rename_i hn
        injection h with h; injection h with h1 h2; subst h1; subst h2
        exact ⟨rfl, fun h => h12 (.inl h), fun h => h12 (.inr h), .inl rfl, fun _ => hn⟩
      · split at h
        · rename_i e' he
          injection h with h; injection h with h1 h2; subst h1; subst h2
          rcases tokenOf_err he with h3 | h3
          · exact ⟨rfl, fun h => h12 (.inl h), fun h => h12 (.inr h), .inr (.inl h3), fun h => by omega⟩
          · exact ⟨rfl, fun h => h12 (.inl h), fun h => h12 (.inr h), .inr (.inr h3), fun h => by omega⟩
        · cases h
theorem lexT_err : ∀ (xs : List Span) (n e p : Nat), lexT n xs = .error (e, p) → ∃ X x Y A, xs = X ++ x :: Y ∧ lexT n X = .ok A ∧ tokS (n + A.length) x = .error (e, p)
  | [], n, e, p, h => by cases h
  | x :: xs, n, e, p, h => by
    rw [lexT] at h
    cases ht : tokS n x with
    | error d =>
      rw [ht, catT_err] at h
      injection h with h
      subst h
      exact ⟨[], x, xs, [], rfl, rfl, ht⟩
    | ok y =>
      rw [ht, catT_ok] at h
      cases hr : lexT (n + y.length) xs with
      | ok z => rw [hr] at h; cases h
      | error d =>
        rw [hr] at h
        injection h with h
        subst h
        obtain ⟨X, u, Y, A, e1, e2, e3⟩ := lexT_err xs _ _ _ hr
        refine ⟨x :: X, u, Y, y ++ A, by rw [e1]; rfl, ?_, by rw [List.length_append, ← Nat.add_assoc]; exact e3⟩
        rw [lexT, ht, catT_ok, e2]
theorem LEX_good {l : List UInt8} (h : (LEX l).err = 0) : l.length ≤ 8000 ∧ lexT 0 (spans l 0) = .ok (LEX l).toks ∧ (LEX l).pos = 0 := by
  have hl := LEX_long h
  have e := LEX_T l hl
  cases ht : lexT 0 (spans l 0) with
  | ok ts => rw [ht] at e; rw [e]; exact ⟨hl, rfl, rfl⟩
  | error d =>
    rw [ht] at e
    rw [e] at h
    obtain ⟨d1, d2⟩ := d
    obtain ⟨X, x, Y, A, _, _, h3⟩ := lexT_err _ _ _ _ ht
    have := (tokS_err h3).2.2.2.1
    have h' : d1 = 0 := h
    omega
theorem LEX_bad {l : List UInt8} (hl : l.length ≤ 8000) (h : (LEX l).err ≠ 0) : lexT 0 (spans l 0) = .error ((LEX l).err, (LEX l).pos) := by
  have e := LEX_T l hl
  cases ht : lexT 0 (spans l 0) with
  | ok ts => rw [ht] at e; rw [e] at h; exact absurd rfl h
  | error d => rw [ht] at e; rw [e]; rfl
theorem LEX_of {l : List UInt8} (hl : l.length ≤ 8000) {r : Except (Nat × Nat) (List Tok)} (h : lexT 0 (spans l 0) = r) : LEX l = resOf r := by rw [LEX_T l hl, h]

/-- A span in the middle: its offset, its class, its text. -/
theorem spans_at {X Y : List Span} {x : Span} {l : List UInt8} {p : Nat} (h : spans l p = X ++ x :: Y) :
    x.pos = p + spLen X ∧ ∃ c r, l.drop (spLen X) = c :: r ∧ x.cls = cls c ∧ x.text.size = spanLen (c :: r) ∧ x.text.data.toList = (c :: r).take (spanLen (c :: r)) := by
  obtain ⟨h1, h2, h3⟩ := spans_prefix X (x :: Y) l p h
  cases hd : l.drop (spLen X) with
  | nil => rw [hd, spans_nil] at h2; cases h2
  | cons c r =>
    rw [hd, spans_cons] at h2
    injection h2 with h2 h4
    subst h2
    refine ⟨rfl, c, r, rfl, rfl, ?_, rfl⟩
    have := spanLen_le (c :: r)
    show ((c :: r).take (spanLen (c :: r))).length = _
    rw [List.length_take]
    omega
/-- The last span's class. -/
theorem lastC_of : ∀ (X : List Span) (x : Span) (l : List UInt8) (p : Nat), spans l p = X ++ [x] → lastC l = x.cls
  | X, x, [], p, h => by rw [spans_nil] at h; cases X <;> cases h
  | [], x, c :: r, p, h => by
    have h2 := spanLen_le (c :: r)
    rw [spans_cons] at h
    injection h with hx ht
    rw [lastC_cons, if_neg ?_, ← hx]
    intro hlt
    cases hd : (c :: r).drop (spanLen (c :: r)) with
    | nil =>
      have := congrArg List.length hd
      rw [List.length_drop] at this
      simp only [List.length_nil] at this
      omega
    | cons d t => rw [hd, spans_cons] at ht; cases ht
  | y :: X, x, c :: r, p, h => by
    have h2 := spanLen_le (c :: r)
    rw [spans_cons, List.cons_append] at h
    injection h with hx ht
    rw [lastC_cons, if_pos ?_]
    · exact lastC_of X x _ _ ht
    · refine Nat.lt_of_not_le fun hge => ?_
      rw [List.drop_of_length_le hge, spans_nil] at ht
      cases X <;> cases ht
theorem ext_blank {k : Nat} (h : k ≠ 2) : ext k 32 = false := by
  unfold ext
  rw [if_neg h]
  split
  · decide
  · split
    · decide
    · rfl
theorem ext_line (k : Nat) : ext k 10 = false := by
  unfold ext
  split
  · decide
  · split
    · decide
    · split
      · decide
      · rfl
theorem spLen_append : ∀ (xs ys : List Span), spLen (xs ++ ys) = spLen xs + spLen ys
  | [], ys => by show spLen ys = 0 + spLen ys; omega
  | x :: xs, ys => by rw [List.cons_append, spLen_cons, spLen_cons, spLen_append xs ys]; omega
/-- AN ERROR: the text before it has none; what follows the wrong token is of no account. -/
theorem err_law {l : List UInt8} (hl : l.length ≤ 8000) (h : (LEX l).err ≠ 0) :
    (LEX l).pos < l.length ∧ (LEX l).pos + endLen (l.drop (LEX l).pos) ≤ l.length ∧ (LEX l).toks = [] ∧
    (∃ A, LEX (l.take (LEX l).pos) = ⟨A, 0, 0⟩ ∧ ((LEX l).err = 2 → A.length = 2000)) ∧
    ∀ m, (l.take ((LEX l).pos + endLen (l.drop (LEX l).pos)) ++ 32 :: m).length ≤ 8000 → LEX (l.take ((LEX l).pos + endLen (l.drop (LEX l).pos)) ++ 32 :: m) = ⟨[], (LEX l).err, (LEX l).pos⟩ := by
  have hb := LEX_bad hl h
  have htk : (LEX l).toks = [] := by rw [LEX_of hl hb]; rfl
  obtain ⟨e, p, he⟩ : ∃ e p, (LEX l).err = e ∧ (LEX l).pos = p := ⟨_, _, rfl, rfl⟩
  rw [he.1, he.2] at hb
  rw [he.1, he.2, htk]
  obtain ⟨X, x, Y, A, e1, e2, e3⟩ := lexT_err _ _ _ _ hb
  obtain ⟨q1, q2, q3, q4, q5⟩ := tokS_err e3
  obtain ⟨s1, c, r, s2, s3, s4, s5⟩ := spans_at e1
  obtain ⟨p1, p2, p3⟩ := spans_prefix _ _ _ _ e1
  have hp : spLen X = p := by rw [q1, s1]; omega
  have hend : endLen (l.drop p) = spanLen (c :: r) := by
    rw [← hp, s2]
    exact endLen_span (by rw [← s3]; exact q3) r
  have hlen := congrArg List.length s2
  rw [List.length_drop, hp] at hlen
  have h2 := spanLen_le (c :: r)
  rw [hend]
  simp only [List.length_cons] at hlen h2
  refine ⟨by omega, by omega, rfl, ⟨A, ?_, ?_⟩, fun m hm => ?_⟩
  · rw [← hp]
    exact LEX_of (r := .ok A) (by rw [List.length_take]; omega) (by rw [p1, e2])
  · intro h'
    have := q5 h'
    omega
  · refine LEX_of hm (r := .error (e, p)) ?_
    have e1' : spans l 0 = (X ++ [x]) ++ Y := by rw [e1]; simp
    obtain ⟨u1, u2, u3⟩ := spans_prefix _ _ _ _ e1'
    have hlx : spLen (X ++ [x]) = p + spanLen (c :: r) := by
      rw [spLen_append, hp, spLen_cons, s4]; rfl
    rw [hlx] at u1
    rw [spans_append _ _ _ 0 (Nat.le_refl _) ?_, u1, lexT_append, lexT_append, e2, catT_ok]
    · simp only [lexT]
      rw [catT_nil, e3]
      rfl
    · intro d t hdt
      injection hdt with h1 _
      subst h1
      rw [lastC_of _ _ _ _ u1]
      exact ext_blank q3

/-- Spans without an error, more tokens being there ahead. -/
theorem lexT_more : ∀ (xs : List Span) (k n : Nat) (B : List Tok), lexT k xs = .ok B → k ≤ n → n ≤ 2000 → (n + B.length ≤ 2000 → lexT n xs = .ok B) ∧ (2000 < n + B.length → ∃ x ∈ xs, lexT n xs = .error (2, x.pos))
  | [], k, n, B, h, hk, hn => by
    simp only [lexT] at h
    injection h with h
    subst h
    exact ⟨fun _ => rfl, fun h => by simp only [List.length_nil] at h; omega⟩
  | x :: xs, k, n, B, h, hk, hn => by
    rw [lexT] at h
    cases ht : tokS k x with
    | error d => rw [ht, catT_err] at h; cases h
    | ok y =>
      rw [ht, catT_ok] at h
      cases hr : lexT (k + y.length) xs with
      | error d => rw [hr] at h; cases h
      | ok z =>
        rw [hr] at h
        injection h with h
        subst h
        have H : (n = 2000 ∧ y ≠ [] ∧ tokS n x = .error (2, x.pos)) ∨ (tokS n x = .ok y ∧ n + y.length ≤ 2000) := by
          unfold tokS at ht ⊢
          split at ht
          · rename_i h12
            injection ht with ht
            subst ht
            right
            rw [if_pos h12]
            exact ⟨rfl, by simpa using hn⟩
          · rename_i h12
            split at ht
            · cases ht
            · rename_i h0
              split at ht
              · cases ht
              · rename_i hk2
                split at ht
                · cases ht
                · rename_i t htt
                  injection ht with ht
                  subst ht
                  rw [if_neg h12, if_neg h0]
                  by_cases h2 : n = 2000
                  · left; exact ⟨h2, by simp, by rw [if_pos h2]⟩
                  · right
                    rw [if_neg h2]
                    exact ⟨rfl, by simp only [List.length_cons, List.length_nil]; omega⟩
        rw [List.length_append]
        rcases H with ⟨h1, h2, h3⟩ | ⟨h1, h2⟩
        · have hy : 1 ≤ y.length := by cases y with | nil => exact absurd rfl h2 | cons _ _ => simp
          refine ⟨fun h => by omega, fun _ => ⟨x, List.mem_cons_self .., ?_⟩⟩
          rw [lexT, h3, catT_err]
        · obtain ⟨i1, i2⟩ := lexT_more xs _ (n + y.length) z hr (by omega) h2
          refine ⟨fun h => ?_, fun h => ?_⟩
          · rw [lexT, h1, catT_ok, i1 (by omega)]
          · obtain ⟨u, hu, hu2⟩ := i2 (by omega)
            exact ⟨u, List.mem_cons_of_mem _ hu, by rw [lexT, h1, catT_ok, hu2]⟩
theorem spans_from (l : List UInt8) (d : Nat) : spans l d = mvS d (spans l 0) := by
  have := spans_mv _ l 0 d (Nat.le_refl _)
  rw [Nat.zero_add] at this
  exact this
theorem mv_len (d : Nat) (ts : List Tok) : (mv d ts).length = ts.length := List.length_map ..
/-- TWO SCRIPTS joined by a line feed. -/
theorem two_law {a b : List UInt8} {A B : List Tok} (ha : LEX a = ⟨A, 0, 0⟩) (hb : LEX b = ⟨B, 0, 0⟩) (hl : (a ++ 10 :: b).length ≤ 8000) :
    (A.length + B.length ≤ 2000 → LEX (a ++ 10 :: b) = ⟨A ++ mv (a.length + 1) B, 0, 0⟩) ∧ (2000 < A.length + B.length → ∃ p, a.length < p ∧ LEX (a ++ 10 :: b) = ⟨[], 2, p⟩) := by
  have h1 := (LEX_good (l := a) (by rw [ha])).2.1
  have h2 := (LEX_good (l := b) (by rw [hb])).2.1
  have hA := LEX_len a
  rw [ha] at h1 hA
  rw [hb] at h2
  have hs : spans (a ++ 10 :: b) 0 = spans a 0 ++ (⟨a.length, 1, ⟨#[10]⟩⟩ :: mvS (a.length + 1) (spans b 0)) := by
    rw [spans_append _ a (10 :: b) 0 (Nat.le_refl _) ?_, Nat.zero_add, spans_cons, ← spans_from]
    · rfl
    · intro d t h
      injection h with h _
      subst h
      exact ext_line _
  have hg : ∀ n, tokS n ⟨a.length, 1, ⟨#[10]⟩⟩ = .ok [] := fun n => by unfold tokS; rw [if_pos (.inl rfl)]
  have h3 : lexT 0 (mvS (a.length + 1) (spans b 0)) = .ok (mv (a.length + 1) B) := by rw [lexT_mv, h2]; rfl
  obtain ⟨m1, m2⟩ := lexT_more _ _ A.length _ h3 (Nat.zero_le _) hA
  rw [mv_len] at m1 m2
  have hE : lexT 0 (spans (a ++ 10 :: b) 0) = catT (.ok A) (fun k => lexT k (mvS (a.length + 1) (spans b 0))) := by
    rw [hs, lexT_append, h1]
    congr 1
    funext k
    rw [lexT, hg, catT_none, Nat.zero_add, Nat.add_zero]
  refine ⟨fun h => ?_, fun h => ?_⟩
  · refine LEX_of hl (r := .ok (A ++ mv (a.length + 1) B)) ?_
    rw [hE, catT_ok, m1 h]
  · obtain ⟨x, hx, he⟩ := m2 h
    refine ⟨x.pos, ?_, LEX_of hl (r := .error (2, x.pos)) (by rw [hE, catT_ok, he])⟩
    rw [← spans_from] at hx
    have := (spans_pos _ _ _ (Nat.le_refl _) x hx).1
    omega
theorem sameB_mv (d : Nat) : ∀ (ts : List Tok), sameB d ts (mv d ts) = true
  | [] => rfl
  | t :: ts => by
    show (eqT d t { t with pos := t.pos + d } && sameB d ts (mv d ts)) = true
    rw [sameB_mv d ts, Bool.and_true]
    unfold eqT
    simp
end Go.Proofs.YtbgekgakamincaaDoor.Lx

/- The lexer in plain Lean: gaps that are inserted. -/
namespace Go.Proofs.YtbgekgakamincaaDoor.Lx
set_option linter.unusedVariables false

theorem tokS_ok {n : Nat} {x : Span} {y : List Tok} (h : tokS n x = .ok y) : (y = [] ∧ (x.cls = 1 ∨ x.cls = 2)) ∨ (∃ t, y = [{ t with pos := x.pos }] ∧ tokenOf x.cls x.text.data.toList = .ok t ∧ x.cls ≠ 0 ∧ x.cls ≠ 1 ∧ x.cls ≠ 2 ∧ n ≠ 2000) := by
  unfold tokS at h
  split at h
  · rename_i h12
    injection h with h
    exact .inl ⟨h.symm, h12⟩
  · rename_i h12
    split at h
    · cases h
    · rename_i h0
      split at h
      · cases h
      · rename_i hn
        split at h
        · cases h
        · rename_i t ht
          injection h with h
          exact .inr ⟨t, h.symm, ht, h0, fun h => h12 (.inl h), fun h => h12 (.inr h), hn⟩
theorem lexT_gap : ∀ (xs : List Span) (n : Nat), (∀ x ∈ xs, x.cls = 1 ∨ x.cls = 2) → lexT n xs = .ok []
  | [], n, _ => rfl
  | x :: xs, n, h => by
    have : tokS n x = .ok [] := by unfold tokS; rw [if_pos (h x (List.mem_cons_self ..))]
    rw [lexT, this, catT_none]
    exact lexT_gap xs _ fun y hy => h y (List.mem_cons_of_mem _ hy)
theorem gap_mv {xs : List Span} (d : Nat) (h : ∀ x ∈ xs, x.cls = 1 ∨ x.cls = 2) : ∀ x ∈ mvS d xs, x.cls = 1 ∨ x.cls = 2 := by
  intro x hx
  obtain ⟨y, hy, rfl⟩ := List.mem_map.1 hx
  exact h y hy
theorem lexT_find : ∀ (xs : List Span) (n k : Nat) (ts : List Tok), lexT n xs = .ok ts → (hk : k < ts.length) → ∃ X x Y, xs = X ++ x :: Y ∧ lexT n X = .ok (ts.take k) ∧ lexT (n + k) (x :: Y) = .ok (ts.drop k) ∧ x.cls ≠ 1 ∧ x.cls ≠ 2 ∧ ts[k].pos = x.pos
  | [], n, k, ts, h, hk => by
    simp only [lexT] at h
    injection h with h
    subst h
    exact absurd hk (by simp)
  | x :: xs, n, k, ts, h, hk => by
    have h' := h
    rw [lexT] at h
    cases ht : tokS n x with
    | error d => rw [ht, catT_err] at h; cases h
    | ok y =>
      rw [ht, catT_ok] at h
      cases hr : lexT (n + y.length) xs with
      | error d => rw [hr] at h; cases h
      | ok z =>
        rw [hr] at h
        injection h with h
        subst h
        rcases tokS_ok ht with ⟨rfl, hc⟩ | ⟨t, rfl, _, c0, c1, c2, _⟩
        · obtain ⟨X, u, Y, e1, e2, e3, e4⟩ := lexT_find xs n k z hr hk
          refine ⟨x :: X, u, Y, by rw [e1]; rfl, ?_, e3, e4⟩
          rw [lexT, ht, catT_none]
          exact e2
        · cases k with
          | zero => exact ⟨[], x, xs, rfl, rfl, h', c1, c2, rfl⟩
          | succ k =>
            have hk' : k < z.length := by simpa using hk
            obtain ⟨X, u, Y, e1, e2, e3, e4⟩ := lexT_find xs (n + 1) k z hr hk'
            refine ⟨x :: X, u, Y, by rw [e1]; rfl, ?_, ?_, e4⟩
            · rw [lexT, ht, catT_ok]
              show (match lexT (n + 1) X with | .error e => (Except.error e : Except (Nat × Nat) (List Tok)) | .ok y => .ok ([{ t with pos := x.pos }] ++ y)) = _
              rw [e2]
              rfl
            · rw [show n + (k + 1) = n + 1 + k by omega]
              exact e3
/-- What follows a span does not go on with it. -/
theorem munch (c : UInt8) (r : List UInt8) (h : spanLen (c :: r) < (c :: r).length) : ext (cls c) ((c :: r)[spanLen (c :: r)]) = false := by
  have key : ∀ (q : Nat) (h : q < (c :: r).length) (p : UInt8 → Bool), q = run p (c :: r) → p ((c :: r)[q]) = false := fun q h p e => by
    subst e; exact runs_end p (c :: r) h
  unfold ext
  split
  · rename_i hc
    exact key _ h inCom (by simp only [spanLen]; rw [if_pos hc])
  · rename_i hc
    split
    · rename_i hc3
      exact key _ h inNam (by simp only [spanLen]; rw [if_neg hc, if_pos hc3])
    · rename_i hc3
      split
      · rename_i hc4
        exact key _ h inNum (by simp only [spanLen]; rw [if_neg hc, if_neg hc3, if_pos hc4])
      · rfl
theorem boundary {X Y : List Span} {x : Span} {l : List UInt8} {p : Nat} (h : spans l p = X ++ x :: Y) :
    ∃ d t, l.drop (spLen X) = d :: t ∧ ext (lastC (l.take (spLen X))) d = false ∧ x.cls = cls d := by
  obtain ⟨_, d, t, hd, hc, _, _⟩ := spans_at h
  refine ⟨d, t, hd, ?_, hc⟩
  rcases List.eq_nil_or_concat X with rfl | ⟨X', y, rfl⟩
  · show ext (lastC (l.take 0)) d = false
    rw [List.take_zero, lastC_nil]; rfl
  · rw [List.concat_eq_append] at h hd ⊢
    rw [List.append_assoc] at h
    have h' : spans l p = X' ++ y :: (x :: Y) := h
    obtain ⟨_, c, r, h1, h2, h3, _⟩ := spans_at h'
    have h4 : spans l p = (X' ++ [y]) ++ x :: Y := by rw [h']; simp
    obtain ⟨p1, _, _⟩ := spans_prefix _ _ _ _ h4
    rw [lastC_of _ _ _ _ p1, h2]
    have hl : spLen (X' ++ [y]) = spLen X' + spanLen (c :: r) := by rw [spLen_append, spLen_cons, h3]; rfl
    rw [hl, ← List.drop_drop, h1] at hd
    have hlt : spanLen (c :: r) < (c :: r).length := by
      have := congrArg List.length hd
      rw [List.length_drop] at this
      have h0 : 0 < (d :: t).length := Nat.succ_pos _
      omega
    have := munch c r hlt
    have e : (c :: r)[spanLen (c :: r)] = d := by
      have := List.drop_eq_getElem_cons hlt
      rw [hd] at this
      injection this with this
      exact this.symm
    rw [e] at this
    exact this
theorem ext_two {d : UInt8} (h : ext 2 d = false) : cls d = 1 := by
  have h : inCom d = false := h
  unfold inCom at h
  rw [decide_eq_false_iff_not, Classical.not_not] at h
  unfold cls
  rw [if_pos (by omega)]
theorem spLen_all : ∀ (n : Nat) (l : List UInt8) (p : Nat), l.length ≤ n → spLen (spans l p) = l.length
  | n, [], p, _ => by rw [spans_nil]; rfl
  | 0, c :: r, p, h => absurd h (by simp)
  | n + 1, c :: r, p, h => by
    have h1 := spanLen_pos c r
    have h2 := spanLen_le (c :: r)
    rw [spans_cons, spLen_cons, spLen_all n _ _ (by rw [List.length_drop]; simp only [List.length_cons] at *; omega), List.length_drop]
    show ((c :: r).take (spanLen (c :: r))).length + _ = _
    rw [List.length_take]
    omega
theorem run_full (p : UInt8 → Bool) : ∀ (l m : List UInt8), run p l = l.length → run p (l ++ m) = l.length + run p m
  | [], m, h => by simp
  | c :: l, m, h => by
    by_cases hc : p c = true
    · have e : run p (c :: l) = run p l + 1 := by unfold run; rw [List.takeWhile_cons_of_pos hc, List.length_cons]
      have e2 : run p (c :: (l ++ m)) = run p (l ++ m) + 1 := by unfold run; rw [List.takeWhile_cons_of_pos hc, List.length_cons]
      rw [e, List.length_cons] at h
      rw [List.cons_append, e2, run_full p l m (by omega), List.length_cons]
      omega
    · exfalso
      have : run p (c :: l) = 0 := by unfold run; rw [List.takeWhile_cons_of_neg hc]; rfl
      rw [this, List.length_cons] at h
      omega

/-- A gap that serves everywhere. -/
structure GoodG (g : List UInt8) : Prop where
  head : ∀ k d t, k ≠ 2 → g = d :: t → ext k d = false
  last : lastC g = 1
  gap : ∀ x ∈ spans g 0, x.cls = 1 ∨ x.cls = 2
  rest : ∀ x ∈ spans (g.drop (run inCom g)) 0, x.cls = 1 ∨ x.cls = 2
theorem GoodG.at {g : List UInt8} (h : GoodG g) (p n : Nat) : lexT n (spans g p) = .ok [] := by
  rw [spans_from]; exact lexT_gap _ _ (gap_mv p h.gap)
theorem gap_mid {l g ms : List UInt8} {X Y : List Span} {x : Span} {k : Nat} {ts us : List Tok} (hg : GoodG g) (hs : spans l 0 = X ++ x :: Y) (h1 : x.cls ≠ 1) (hX : lexT 0 X = .ok ts) (hY : lexT ts.length (x :: Y) = .ok us) :
    lexT 0 (spans (l.take (spLen X) ++ (g ++ l.drop (spLen X))) 0) = .ok (ts ++ mv g.length us) := by
  obtain ⟨d, t, b1, b2, b3⟩ := boundary hs
  obtain ⟨p1, p2, p3⟩ := spans_prefix _ _ _ _ hs
  have hk : lastC (l.take (spLen X)) ≠ 2 := fun e => by
    rw [e] at b2
    exact h1 (b3.trans (ext_two b2))
  have hlen : (l.take (spLen X)).length = spLen X := by rw [List.length_take]; omega
  have e1 : spans (l.take (spLen X) ++ (g ++ l.drop (spLen X))) 0 = X ++ (spans g (spLen X) ++ mvS g.length (x :: Y)) := by
    rw [spans_append _ _ _ 0 (Nat.le_refl _) ?_, p1, hlen, Nat.zero_add, spans_append _ g _ _ (Nat.le_refl _) ?_]
    · congr 2
      rw [Nat.zero_add] at p2
      rw [← p2]
      exact spans_mv _ _ _ _ (Nat.le_refl _)
    · intro d t _
      rw [hg.last]; rfl
    · intro d' t' e
      cases hgc : g with
      | nil =>
        rw [hgc, List.nil_append, b1] at e
        injection e with e _
        rw [← e]; exact b2
      | cons a b =>
        rw [hgc, List.cons_append] at e
        injection e with e _
        rw [← e]
        exact hg.head _ a b hk hgc
  rw [e1, lexT_append, hX, catT_ok, lexT_append, hg.at, catT_none, Nat.zero_add, Nat.add_zero, lexT_mv, hY]
  rfl
theorem gap_end {l g : List UInt8} {ts : List Tok} (hg : GoodG g) (hts : lexT 0 (spans l 0) = .ok ts) : lexT 0 (spans (l ++ g) 0) = .ok ts := by
  by_cases h2 : lastC l = 2
  · rcases List.eq_nil_or_concat (spans l 0) with h | ⟨X, x, h⟩
    · cases l with
      | nil => rw [lastC_nil] at h2; cases h2
      | cons c r => rw [spans_cons] at h; cases h
    · rw [List.concat_eq_append] at h
      have hx : x.cls = 2 := by rw [← lastC_of _ _ _ _ h]; exact h2
      obtain ⟨d, t, b1, b2, b3⟩ := boundary h
      obtain ⟨_, c, r, s2, s3, s4, _⟩ := spans_at h
      have hcr : d :: t = c :: r := b1.symm.trans s2
      injection hcr with hcr1 hcr2
      subst hcr1
      subst hcr2
      obtain ⟨p1, p2, p3⟩ := spans_prefix _ _ _ _ h
      have hc : cls d = 2 := by rw [← s3]; exact hx
      have hall := spLen_all _ l 0 (Nat.le_refl _)
      have hsx : spLen [x] = x.text.size := rfl
      rw [h, spLen_append, hsx, s4] at hall
      have hlen := congrArg List.length s2
      rw [List.length_drop] at hlen
      have hrun : run inCom (d :: t) = (d :: t).length := by
        have : spanLen (d :: t) = run inCom (d :: t) := by simp only [spanLen]; rw [if_pos hc]
        omega
      have e0 : l ++ g = l.take (spLen X) ++ ((d :: t) ++ g) := by
        rw [← s2, ← List.append_assoc, List.take_append_drop]
      have e1 : spans ((d :: t) ++ g) (spLen X) = ⟨spLen X, 2, ⟨(((d :: t) ++ g).take ((d :: t).length + run inCom g)).toArray⟩⟩ :: spans (g.drop (run inCom g)) (spLen X + ((d :: t).length + run inCom g)) := by
        have hsp : spanLen (d :: (t ++ g)) = (d :: t).length + run inCom g := by
          rw [← run_full inCom (d :: t) g hrun]
          simp only [spanLen]; rw [if_pos hc]; rfl
        rw [List.cons_append, spans_cons, hsp, hc, ← List.cons_append, List.drop_append, List.drop_of_length_le (by omega), List.nil_append, Nat.add_sub_cancel_left]
      have hlen2 : (l.take (spLen X)).length = spLen X := by rw [List.length_take]; omega
      rw [e0, spans_append _ _ _ 0 (Nat.le_refl _) (fun d' t' e => by injection e with e _; rw [← e]; exact b2), p1, hlen2, Nat.zero_add, e1]
      rw [h, lexT_append] at hts
      cases hX : lexT 0 X with
      | error e => rw [hX, catT_err] at hts; cases hts
      | ok us =>
        rw [hX, catT_ok, lexT_gap [x] _ (fun y hy => by simp only [List.mem_singleton] at hy; subst hy; exact .inr hx)] at hts
        injection hts with hts
        rw [List.append_nil] at hts
        rw [lexT_append, hX, catT_ok, lexT_gap _ _ (fun y hy => ?_)]
        · show Except.ok (us ++ []) = _
          rw [List.append_nil, hts]
        · rcases List.mem_cons.1 hy with rfl | hy
          · exact .inr rfl
          · rw [spans_from] at hy
            exact gap_mv _ hg.rest y hy
  · rw [spans_append _ _ _ 0 (Nat.le_refl _) (fun d t e => hg.head _ d t h2 e), lexT_append, hts, catT_ok, hg.at]
    simp
/-- Where the gap is inserted. -/
def placeOf (l : List UInt8) (ts : List Tok) (k : Nat) : Nat := if h : k < ts.length then ts[k].pos else l.length
theorem gap_law {l g : List UInt8} {ts : List Tok} {k : Nat} (hg : GoodG g) (h : LEX l = ⟨ts, 0, 0⟩) (hk : k ≤ ts.length) :
    placeOf l ts k ≤ l.length ∧ ((l.take (placeOf l ts k) ++ (g ++ l.drop (placeOf l ts k))).length ≤ 8000 → LEX (l.take (placeOf l ts k) ++ (g ++ l.drop (placeOf l ts k))) = ⟨ts.take k ++ mv g.length (ts.drop k), 0, 0⟩) := by
  have hts := (LEX_good (l := l) (by rw [h])).2.1
  rw [h] at hts
  have hts : lexT 0 (spans l 0) = .ok ts := hts
  unfold placeOf
  by_cases hlt : k < ts.length
  · rw [dif_pos hlt]
    obtain ⟨X, x, Y, e1, e2, e3, e4, e5, e6⟩ := lexT_find _ _ _ _ hts hlt
    have hp : ts[k].pos = spLen X := by rw [e6, (spans_at e1).1, Nat.zero_add]
    obtain ⟨_, _, p3⟩ := spans_prefix _ _ _ _ e1
    rw [hp]
    refine ⟨p3, fun hlen => LEX_of hlen (r := .ok _) (gap_mid (ms := []) (k := k) hg e1 e4 e2 ?_)⟩
    rw [List.length_take, Nat.min_eq_left hk]
    rw [Nat.zero_add] at e3
    exact e3
  · rw [dif_neg hlt]
    refine ⟨Nat.le_refl _, fun hlen => ?_⟩
    rw [List.take_length, List.drop_length, List.append_nil] at hlen ⊢
    refine LEX_of hlen (r := .ok _) ?_
    rw [gap_end hg hts, List.take_of_length_le (by omega), List.drop_of_length_le (by omega)]
    show _ = Except.ok (ts ++ [])
    rw [List.append_nil]
end Go.Proofs.YtbgekgakamincaaDoor.Lx

/- The lexer in plain Lean: tokens that are written again; the texts at their offsets. -/
namespace Go.Proofs.YtbgekgakamincaaDoor.Lx
set_option linter.unusedVariables false

theorem dig_lt {c : UInt8} (h : cls c = 4) : c.toNat - 48 < 10 ∧ 48 ≤ c.toNat := by
  unfold cls at h
  split at h
  · cases h
  · split at h
    · cases h
    · split at h
      · cases h
      · split at h
        · rename_i h; omega
        · split at h <;> cases h
theorem dgt_of {c : UInt8} (h : cls c = 4) (k : Nat) (hk : k % 10 = c.toNat - 48) : dgt k = c := by
  have hr := dig_lt h
  apply UInt8.toNat_inj.1
  unfold dgt
  rw [hk]
  have : (UInt8.ofNat (48 + (c.toNat - 48))).toNat = (48 + (c.toNat - 48)) % 256 := rfl
  rw [this]
  omega
theorem num_one (c : UInt8) : num [c] = c.toNat - 48 := by
  have := num_snoc [] c
  rw [List.nil_append] at this
  rw [this]
  show 10 * 0 + _ = _
  omega
/-- Digits without a leading zero read back. -/
theorem dec_num : ∀ (n : Nat) (l : List UInt8), l.length = n → l ≠ [] → (∀ c ∈ l, cls c = 4) → (1 < l.length → l.head?.map (·.toNat) ≠ some 48) → Lib.decDigits (num l) = l ∧ (l.head?.map (·.toNat) ≠ some 48 → 1 ≤ num l)
  | 0, l, hn, h0, _, _ => absurd (List.eq_nil_of_length_eq_zero hn) h0
  | n + 1, l, hn, h0, hd, hz => by
    rcases List.eq_nil_or_concat l with rfl | ⟨l', c, rfl⟩
    · exact absurd rfl h0
    · rw [List.concat_eq_append] at *
      have hc : cls c = 4 := hd c (by simp)
      obtain ⟨hc1, hc2⟩ := dig_lt hc
      cases l' with
      | nil =>
        rw [List.nil_append, num_one]
        refine ⟨by rw [dec_small hc1, dgt_of hc _ (Nat.mod_eq_of_lt hc1)], fun h => ?_⟩
        have h : some c.toNat ≠ some 48 := h
        have : c.toNat ≠ 48 := fun e => h (by rw [e])
        omega
      | cons a r =>
        have hz' := hz (by simp)
        have hz2 : (a :: r).head?.map (·.toNat) ≠ some 48 := hz'
        rw [List.length_append] at hn
        obtain ⟨i1, i2⟩ := dec_num n (a :: r) (by simp only [List.length_cons, List.length_nil] at *; omega) (by simp) (fun d hd' => hd d (List.mem_append_left _ hd')) (fun _ => hz2)
        have i2 := i2 hz2
        rw [num_snoc]
        refine ⟨?_, fun _ => by omega⟩
        rw [dec_big (by omega), show (10 * num (a :: r) + (c.toNat - 48)) / 10 = num (a :: r) by omega, i1, dgt_of hc _ (by omega)]

/-- The text of a token. -/
def textL (t : Tok) : List UInt8 := (textB t).data.toList
theorem cls4 {l : List UInt8} {c : UInt8} {r : List UInt8} (hc : cls c = 4) (e : l = (c :: r).take (spanLen (c :: r))) : ∀ d ∈ l, cls d = 4 := by
  intro d hd
  have hs : spanLen (c :: r) = run inNum (c :: r) := by simp only [spanLen]; rw [if_neg (by omega), if_neg (by omega), if_pos hc]
  rw [e, hs] at hd
  obtain ⟨i, hi, rfl⟩ := List.mem_iff_getElem.1 hd
  rw [List.length_take] at hi
  rw [List.getElem_take]
  have := runs_at inNum (c :: r) i (by omega)
  unfold inNum at this
  exact of_decide_eq_true this
/-- A token that came from a span. -/
structure GoodT (t : Tok) (k : Nat) : Prop where
  spn : spans (textL t) 0 = [⟨0, k, textB t⟩]
  tok : tokenOf k (textL t) = .ok { t with pos := 0 }
  k0 : k ≠ 0
  k1 : k ≠ 1
  k2 : k ≠ 2
theorem good_tok {l : List UInt8} {p : Nat} {X Y : List Span} {x : Span} {t : Tok} (hs : spans l p = X ++ x :: Y) (ht : tokenOf x.cls x.text.data.toList = .ok t) (h0 : x.cls ≠ 0) (h1 : x.cls ≠ 1) (h2 : x.cls ≠ 2) :
    GoodT { t with pos := x.pos } x.cls ∧ textB { t with pos := x.pos } = x.text := by
  obtain ⟨s1, c, r, s2, s3, s4, s5⟩ := spans_at hs
  have h := spanLen_pos c r
  have hle := spanLen_le (c :: r)
  have hself : spans x.text.data.toList 0 = [⟨0, x.cls, x.text⟩] := by
    obtain ⟨_, p2, _⟩ := spans_prefix X (x :: Y) l p hs
    rw [s2, spans_cons] at p2
    injection p2 with p2 _
    have q := spans_prefix [⟨0, cls c, ⟨((c :: r).take (spanLen (c :: r))).toArray⟩⟩] (spans ((c :: r).drop (spanLen (c :: r))) (0 + spanLen (c :: r))) (c :: r) 0 (by rw [spans_cons]; rfl)
    have hz : spLen [⟨0, cls c, ⟨((c :: r).take (spanLen (c :: r))).toArray⟩⟩] = spanLen (c :: r) := by
      show ((c :: r).take (spanLen (c :: r))).length + 0 = _
      rw [List.length_take]; omega
    rw [hz] at q
    rw [s5, q.1, ← s3]
    have hx : x.text = ⟨((c :: r).take (spanLen (c :: r))).toArray⟩ := by rw [← p2]
    rw [hx]
  have hne : x.text.data.toList ≠ [] := by
    rw [s5]
    intro e
    have := congrArg List.length e
    rw [List.length_take] at this
    simp only [List.length_nil] at this
    omega
  have htx : textB { t with pos := x.pos } = x.text ∧ { t with pos := 0 } = t := by
    unfold tokenOf at ht
    split at ht
    · split at ht
      · cases ht
      · injection ht with ht
        subst ht
        refine ⟨?_, rfl⟩
        show (if (1 : Nat) = 2 then _ else _) = _
        rw [if_neg (by decide)]
    · split at ht
      · rename_i h4
        split at ht
        · cases ht
        · rename_i hz
          split at ht
          · cases ht
          · injection ht with ht
            subst ht
            refine ⟨?_, rfl⟩
            unfold textB
            rw [if_pos rfl]
            have := (dec_num _ x.text.data.toList rfl hne (cls4 (by rw [← s3]; exact h4) s5) (fun hl e => hz ⟨hl, e⟩)).1
            show (⟨(Lib.decDigits (num x.text.data.toList)).toArray⟩ : ByteArray) = _
            rw [this]
      · injection ht with ht
        subst ht
        refine ⟨?_, rfl⟩
        show (if (3 : Nat) = 2 then _ else _) = _
        rw [if_neg (by decide)]
  have hL : textL { t with pos := x.pos } = x.text.data.toList := by unfold textL; rw [htx.1]
  refine ⟨⟨by rw [hL, htx.1]; exact hself, ?_, h0, h1, h2⟩, htx.1⟩
  rw [hL, ht]
  show _ = Except.ok { t with pos := 0 }
  rw [htx.2]
theorem all_good : ∀ (xs X : List Span) (l : List UInt8) (p n : Nat) (ts : List Tok), spans l p = X ++ xs → lexT n xs = .ok ts → ∀ t ∈ ts, ∃ k, GoodT t k ∧ (textL t).length ≤ l.length
  | [], X, l, p, n, ts, hs, h, t, ht => by
    simp only [lexT] at h
    injection h with h
    subst h
    cases ht
  | x :: xs, X, l, p, n, ts, hs, h, t, ht => by
    rw [lexT] at h
    cases hy : tokS n x with
    | error d => rw [hy, catT_err] at h; cases h
    | ok y =>
      rw [hy, catT_ok] at h
      cases hr : lexT (n + y.length) xs with
      | error d => rw [hr] at h; cases h
      | ok z =>
        rw [hr] at h
        injection h with h
        subst h
        have ih := all_good xs (X ++ [x]) l p _ z (by rw [hs]; simp) hr
        rcases tokS_ok hy with ⟨rfl, _⟩ | ⟨u, rfl, hu, c0, c1, c2, _⟩
        · exact ih t ht
        · rcases List.mem_append.1 ht with ht | ht
          · simp only [List.mem_singleton] at ht
            subst ht
            obtain ⟨g1, g2⟩ := good_tok hs hu c0 c1 c2
            refine ⟨_, g1, ?_⟩
            obtain ⟨_, c, r, s2, _, s4, _⟩ := spans_at hs
            have h1 : (textL { u with pos := x.pos }).length = x.text.size := by unfold textL; rw [g2]; exact Array.length_toList
            have h2 := spanLen_le (c :: r)
            have h3 := congrArg List.length s2
            rw [List.length_drop] at h3
            omega
          · exact ih t ht

/-- The texts, each followed by a blank. -/
def wtext : List Tok → List UInt8
  | [] => []
  | t :: ts => textL t ++ 32 :: wtext ts
theorem wtext_spans {t : Tok} {k : Nat} (h : GoodT t k) (m : List UInt8) (p : Nat) : spans (textL t ++ 32 :: m) p = ⟨p, k, textB t⟩ :: ⟨p + (textL t).length, 1, ⟨#[32]⟩⟩ :: spans m (p + (textL t).length + 1) := by
  rw [spans_append _ (textL t) (32 :: m) p (Nat.le_refl _) ?_, spans_from (textL t) p, h.spn, spans_cons]
  · show (⟨0 + p, k, textB t⟩ : Span) :: _ = _
    rw [Nat.zero_add]
    rfl
  · intro d u e
    injection e with e _
    subst e
    rw [lastC_of [] _ _ 0 (by rw [h.spn]; rfl)]
    exact ext_blank h.k2
theorem wtext_lex : ∀ (ts : List Tok) (n p : Nat), (∀ t ∈ ts, ∃ k, GoodT t k) → n + ts.length ≤ 2000 → ∃ us, lexT n (spans (wtext ts) p) = .ok us ∧ alikeB ts us = true ∧ us.length = ts.length
  | [], n, p, _, _ => ⟨[], by show lexT n (spans [] p) = _; rw [spans_nil]; rfl, rfl, rfl⟩
  | t :: ts, n, p, h, hn => by
    obtain ⟨k, hk⟩ := h t (List.mem_cons_self ..)
    rw [List.length_cons] at hn
    obtain ⟨us, i1, i2, i3⟩ := wtext_lex ts (n + 1) (p + (textL t).length + 1) (fun u hu => h u (List.mem_cons_of_mem _ hu)) (by omega)
    have e1 : tokS n ⟨p, k, textB t⟩ = .ok [{ t with pos := p }] := by
      unfold tokS
      have := hk.tok
      unfold textL at this
      rw [if_neg (fun h => h.elim hk.k1 hk.k2), if_neg hk.k0, if_neg (by omega)]
      show (match tokenOf k (textB t).data.toList with | .error e => (Except.error (e, p) : Except (Nat × Nat) (List Tok)) | .ok t => .ok [{ t with pos := p }]) = _
      rw [this]
    have e2 : ∀ m q, tokS m ⟨q, 1, ⟨#[32]⟩⟩ = .ok [] := fun m q => by unfold tokS; rw [if_pos (.inl rfl)]
    refine ⟨{ t with pos := p } :: us, ?_, ?_, by rw [List.length_cons, List.length_cons, i3]⟩
    · show lexT n (spans (textL t ++ 32 :: wtext ts) p) = _
      rw [wtext_spans hk, lexT, e1, catT_ok]
      show (match lexT (n + 1) _ with | .error e => (Except.error e : Except (Nat × Nat) (List Tok)) | .ok y => .ok ([{ t with pos := p }] ++ y)) = _
      rw [lexT, e2, catT_none, Nat.add_zero, i1]
      rfl
    · show (likeT t { t with pos := p } && alikeB ts us) = true
      rw [i2, Bool.and_true]
      unfold likeT
      simp
theorem write_law {l : List UInt8} {ts : List Tok} (h : LEX l = ⟨ts, 0, 0⟩) : ((wtext ts).length ≤ 8000 → ∃ us, LEX (wtext ts) = ⟨us, 0, 0⟩ ∧ alikeB ts us = true) ∧ (8000 < (wtext ts).length → LEX (wtext ts) = ⟨[], 2, 0⟩) := by
  have hts := (LEX_good (l := l) (by rw [h])).2.1
  have hlen := LEX_len l
  rw [h] at hts hlen
  have hts : lexT 0 (spans l 0) = .ok ts := hts
  have hlen : ts.length ≤ 2000 := hlen
  refine ⟨fun hl => ?_, fun hl => by unfold LEX; rw [if_pos hl]⟩
  obtain ⟨us, i1, i2, _⟩ := wtext_lex ts 0 0 (fun t ht => (all_good _ [] l 0 0 ts rfl hts t ht).imp fun _ h => h.1) (by omega)
  exact ⟨us, LEX_of hl (r := .ok us) i1, i2⟩
theorem write_len {l : List UInt8} {ts : List Tok} (h : LEX l = ⟨ts, 0, 0⟩) : ∀ t ∈ ts, (textL t).length ≤ 8000 := by
  have hg := LEX_good (l := l) (by rw [h])
  have hts := hg.2.1
  rw [h] at hts
  intro t ht
  obtain ⟨_, _, h2⟩ := all_good _ [] l 0 0 ts rfl hts t ht
  exact Nat.le_trans h2 hg.1
theorem wtext_len : ∀ (ts : List Tok), (∀ t ∈ ts, (textL t).length ≤ 8000) → (wtext ts).length ≤ ts.length * 8001
  | [], _ => Nat.le_refl _
  | t :: ts, h => by
    have h1 := h t (List.mem_cons_self ..)
    have h2 := wtext_len ts fun u hu => h u (List.mem_cons_of_mem _ hu)
    show (textL t ++ 32 :: wtext ts).length ≤ _
    rw [List.length_append, List.length_cons, List.length_cons]
    omega
theorem wtext_append : ∀ (a b : List Tok), wtext (a ++ b) = wtext a ++ wtext b
  | [], b => rfl
  | t :: a, b => by
    show textL t ++ 32 :: wtext (a ++ b) = (textL t ++ 32 :: wtext a) ++ wtext b
    rw [wtext_append a b, List.append_assoc]; rfl
theorem wtext_snoc (ts : List Tok) (k : Nat) (hk : k < ts.length) : wtext (ts.take (k + 1)) = wtext (ts.take k) ++ (textL ts[k] ++ [32]) := by
  rw [List.take_succ_eq_append_getElem hk, wtext_append]
  rfl
end Go.Proofs.YtbgekgakamincaaDoor.Lx

/- The lexer in plain Lean: tokens' texts, each followed by a gap. -/
namespace Go.Proofs.YtbgekgakamincaaDoor.Lx
set_option linter.unusedVariables false

theorem lastC_get' {g : List UInt8} {k : Nat} (h : (spans g 0).getLast?.map (·.cls) = some k) : lastC g = k := by
  cases hs : (spans g 0).getLast? with
  | none => rw [hs] at h; cases h
  | some x =>
    rw [hs] at h
    injection h with h
    rw [← h]
    obtain ⟨X, e⟩ := List.getLast?_eq_some_iff.1 hs
    exact lastC_of X x g 0 e
theorem goodG_of {c : UInt8} {r : List UInt8} (hh : inNam c = false) (hn : inNum c = false) (hl : (spansF (c :: r).length (c :: r) 0).getLast?.map (·.cls) = some 1)
    (hg : (spansF (c :: r).length (c :: r) 0).all (fun x => decide (x.cls = 1 ∨ x.cls = 2)) = true)
    (hr : (spansF (c :: r).length ((c :: r).drop (run inCom (c :: r))) 0).all (fun x => decide (x.cls = 1 ∨ x.cls = 2)) = true) : GoodG (c :: r) := by
  refine ⟨fun k d t h e => ?_, ?_, fun x hx => ?_, fun x hx => ?_⟩
  · injection e with e _
    subst e
    unfold ext
    rw [if_neg h]
    split
    · exact hh
    · split
      · exact hn
      · rfl
  · refine lastC_get' ?_
    rw [spansF_eq _ _ _ (Nat.le_refl _)]
    exact hl
  · rw [spansF_eq _ _ _ (Nat.le_refl _)] at hx
    exact of_decide_eq_true (List.all_eq_true.1 hg x hx)
  · rw [spansF_eq (c :: r).length _ _ (by rw [List.length_drop]; omega)] at hx
    exact of_decide_eq_true (List.all_eq_true.1 hr x hx)
theorem good_blank : GoodG [32] := goodG_of (c := 32) (r := []) (by decide) (by decide) (by kernel_rfl) (by kernel_rfl) (by kernel_rfl)
theorem good_line : GoodG [10] := goodG_of (c := 10) (r := []) (by decide) (by decide) (by kernel_rfl) (by kernel_rfl) (by kernel_rfl)

/-- Texts and gaps. -/
def gtx : List (Tok × List UInt8) → List UInt8
  | [] => []
  | x :: r => textL x.1 ++ (x.2 ++ gtx r)
def GoodS : List (Tok × List UInt8) → Prop
  | [] => True
  | x :: r => (∃ k, GoodT x.1 k ∧ ∀ d u, x.2 ++ gtx r = d :: u → ext k d = false) ∧ (x.2 = [] ∨ GoodG x.2) ∧ GoodS r
/-- The tokens at their places. -/
def tksAt : Nat → List (Tok × List UInt8) → List Tok
  | _, [] => []
  | p, x :: r => { x.1 with pos := p } :: tksAt (p + (textL x.1).length + x.2.length) r
theorem tksAt_len : ∀ (r : List (Tok × List UInt8)) (p : Nat), (tksAt p r).length = r.length
  | [], _ => rfl
  | x :: r, p => by simp only [tksAt, List.length_cons, tksAt_len r]
theorem gtx_append : ∀ a b, gtx (a ++ b) = gtx a ++ gtx b
  | [], b => rfl
  | x :: a, b => by simp only [List.cons_append, gtx, gtx_append a b, List.append_assoc]
theorem tksAt_append : ∀ (a b : List (Tok × List UInt8)) (p : Nat), tksAt p (a ++ b) = tksAt p a ++ tksAt (p + (gtx a).length) b
  | [], b, p => rfl
  | x :: a, b, p => by
    simp only [List.cons_append, tksAt, gtx, List.length_append]
    rw [tksAt_append a b, show p + (textL x.1).length + x.2.length + (gtx a).length = p + ((textL x.1).length + (x.2.length + (gtx a).length)) by omega]
theorem gtx_spans {t : Tok} {k : Nat} {g m : List UInt8} (h : GoodT t k) (hh : ∀ d u, g ++ m = d :: u → ext k d = false) (hg : g = [] ∨ GoodG g) (p : Nat) :
    spans (textL t ++ (g ++ m)) p = ⟨p, k, textB t⟩ :: (spans g (p + (textL t).length) ++ spans m (p + (textL t).length + g.length)) := by
  rw [spans_append _ (textL t) (g ++ m) p (Nat.le_refl _) ?_, spans_from (textL t) p, h.spn]
  · show (⟨0 + p, k, textB t⟩ : Span) :: _ = _
    rw [Nat.zero_add]
    congr 1
    rcases hg with rfl | hg
    · rw [List.nil_append, spans_nil]; rfl
    · exact spans_append _ g m _ (Nat.le_refl _) (by intro d u _; rw [hg.last]; rfl)
  · intro d u e
    rw [lastC_of [] _ _ 0 (by rw [h.spn]; rfl)]
    exact hh d u e
theorem tokS_good {t : Tok} {k : Nat} (h : GoodT t k) (n p : Nat) : tokS n ⟨p, k, textB t⟩ = if n = 2000 then .error (2, p) else .ok [{ t with pos := p }] := by
  unfold tokS
  rw [if_neg (fun e => e.elim h.k1 h.k2), if_neg h.k0]
  by_cases hn : n = 2000
  · rw [if_pos hn, if_pos hn]
  · rw [if_neg hn, if_neg hn]
    have := h.tok
    unfold textL at this
    show (match tokenOf k (textB t).data.toList with | .error e => (Except.error (e, p) : Except (Nat × Nat) (List Tok)) | .ok t => .ok [{ t with pos := p }]) = _
    rw [this]
theorem gtx_lex : ∀ (r : List (Tok × List UInt8)) (n p : Nat), GoodS r → n ≤ 2000 → (n + r.length ≤ 2000 → lexT n (spans (gtx r) p) = .ok (tksAt p r)) ∧ (2000 < n + r.length → ∃ q, lexT n (spans (gtx r) p) = .error (2, q))
  | [], n, p, _, hn => ⟨fun _ => by show lexT n (spans [] p) = _; rw [spans_nil]; rfl, fun h => absurd h (by simpa using hn)⟩
  | x :: r, n, p, h, hn => by
    obtain ⟨⟨k, hk, hh⟩, hg, hr⟩ := h
    have hsp := gtx_spans hk hh hg p
    have hgap : lexT (n + 1) (spans x.2 (p + (textL x.1).length)) = .ok [] := by
      rcases hg with hg | hg
      · rw [hg, spans_nil]; rfl
      · exact hg.at _ _
    show (_ → lexT n (spans (textL x.1 ++ (x.2 ++ gtx r)) p) = _) ∧ (_ → ∃ q, lexT n (spans (textL x.1 ++ (x.2 ++ gtx r)) p) = _)
    rw [hsp, lexT, tokS_good hk, List.length_cons]
    by_cases h2 : n = 2000
    · rw [if_pos h2]
      exact ⟨fun h => by omega, fun _ => ⟨p, catT_err⟩⟩
    · rw [if_neg h2, catT_ok]
      obtain ⟨i1, i2⟩ := gtx_lex r (n + 1) (p + (textL x.1).length + x.2.length) hr (by omega)
      have e : lexT (n + [({ x.1 with pos := p } : Tok)].length) (spans x.2 (p + (textL x.1).length) ++ spans (gtx r) (p + (textL x.1).length + x.2.length)) = lexT (n + 1) (spans (gtx r) (p + (textL x.1).length + x.2.length)) := by
        show lexT (n + 1) _ = _
        rw [lexT_append, hgap, catT_none]
      rw [e]
      refine ⟨fun h => by rw [i1 (by omega)]; rfl, fun h => ?_⟩
      obtain ⟨q, hq⟩ := i2 (by omega)
      exact ⟨q, by rw [hq]⟩
/-- What the lexer makes of texts and gaps. -/
theorem gtx_LEX {r : List (Tok × List UInt8)} (h : GoodS r) : ((gtx r).length ≤ 8000 → r.length ≤ 2000 → LEX (gtx r) = ⟨tksAt 0 r, 0, 0⟩) ∧ (8000 < (gtx r).length ∨ 2000 < r.length → (LEX (gtx r)).err = 2) := by
  obtain ⟨h1, h2⟩ := gtx_lex r 0 0 h (by omega)
  refine ⟨fun hl hr => LEX_of hl (r := .ok (tksAt 0 r)) (h1 (by omega)), fun hx => ?_⟩
  by_cases hl : 8000 < (gtx r).length
  · unfold LEX; rw [if_pos hl]
  · rcases hx with hx | hx
    · exact absurd hx hl
    · obtain ⟨q, hq⟩ := h2 (by omega)
      rw [LEX_of (by omega) hq]; rfl

/-! ### Tokens that are made -/
def nameT (w : List UInt8) : Tok := ⟨1, ⟨w.toArray⟩, 0, 0⟩
def numT (m : Nat) : Tok := ⟨2, ⟨#[]⟩, m, 0⟩
def semiT : Tok := ⟨3, ⟨#[59]⟩, 0, 0⟩
theorem textL_name (w : List UInt8) : textL (nameT w) = w := rfl
theorem textL_num (m : Nat) : textL (numT m) = Lib.decDigits m := rfl
theorem textL_semi : textL semiT = [59] := rfl
theorem run_all (p : UInt8 → Bool) : ∀ (l : List UInt8), (∀ c ∈ l, p c = true) → run p l = l.length
  | [], _ => rfl
  | c :: r, h => by
    unfold run
    rw [List.takeWhile_cons_of_pos (h c (List.mem_cons_self ..)), List.length_cons, List.length_cons]
    have := run_all p r (fun d hd => h d (List.mem_cons_of_mem _ hd))
    unfold run at this
    rw [this]
theorem spans_one {c : UInt8} {r : List UInt8} (h : spanLen (c :: r) = (c :: r).length) : spans (c :: r) 0 = [⟨0, cls c, ⟨(c :: r).toArray⟩⟩] := by
  rw [spans_cons, h, List.drop_length, spans_nil, List.take_length]
theorem good_name {w : List UInt8} (h0 : w ≠ []) (hh : ∀ c, w.head? = some c → cls c = 3) (ha : ∀ c ∈ w, inNam c = true) (hl : w.length ≤ 12) : GoodT (nameT w) 3 := by
  cases w with
  | nil => exact absurd rfl h0
  | cons c r =>
    have hc := hh c rfl
    refine ⟨?_, ?_, by decide, by decide, by decide⟩
    · rw [textL_name, spans_one, hc]
      · rfl
      · simp only [spanLen]
        rw [if_neg (by omega), if_pos hc]
        exact run_all _ _ ha
    · rw [textL_name]
      unfold tokenOf
      rw [if_pos rfl, if_neg (by omega)]
      rfl
theorem dgt_cls (m : Nat) : cls (dgt m) = 4 := by
  have : m % 10 < 10 := Nat.mod_lt _ (by decide)
  unfold dgt
  rcases (show m % 10 = 0 ∨ m % 10 = 1 ∨ m % 10 = 2 ∨ m % 10 = 3 ∨ m % 10 = 4 ∨ m % 10 = 5 ∨ m % 10 = 6 ∨ m % 10 = 7 ∨ m % 10 = 8 ∨ m % 10 = 9 by omega) with h | h | h | h | h | h | h | h | h | h <;> rw [h] <;> decide
theorem dgt_val (m : Nat) : (dgt m).toNat - 48 = m % 10 := by have := dgt_nat m; omega
theorem dec_cls : ∀ (m : Nat), ∀ c ∈ Lib.decDigits m, cls c = 4 := by
  intro m
  induction m using Nat.strongRecOn with
  | ind m ih =>
    intro c hc
    by_cases h : m < 10
    · rw [dec_small h] at hc
      simp only [List.mem_singleton] at hc
      rw [hc]; exact dgt_cls m
    · rw [dec_big h] at hc
      rcases List.mem_append.1 hc with hc | hc
      · exact ih (m / 10) (by omega) c hc
      · simp only [List.mem_singleton] at hc
        rw [hc]; exact dgt_cls m
theorem num_dec : ∀ (m : Nat), num (Lib.decDigits m) = m := by
  intro m
  induction m using Nat.strongRecOn with
  | ind m ih =>
    by_cases h : m < 10
    · rw [dec_small h, num_one, dgt_val]; omega
    · rw [dec_big h, num_snoc, ih (m / 10) (by omega), dgt_val]; omega
theorem dec_ne (m : Nat) : Lib.decDigits m ≠ [] := by
  by_cases h : m < 10
  · rw [dec_small h]; simp
  · rw [dec_big h]; simp
theorem dec_head : ∀ (m : Nat), 1 ≤ m → (Lib.decDigits m).head?.map (·.toNat) ≠ some 48 := by
  intro m
  induction m using Nat.strongRecOn with
  | ind m ih =>
    intro h1
    by_cases h : m < 10
    · rw [dec_small h]
      have := dgt_val m
      simp only [List.head?_cons, Option.map_some, ne_eq, Option.some.injEq]
      omega
    · rw [dec_big h, List.head?_append]
      have := ih (m / 10) (by omega) (by omega)
      cases hh : (Lib.decDigits (m / 10)).head? with
      | none => exact absurd (List.head?_eq_none_iff.1 hh) (dec_ne _)
      | some c => rw [hh] at this; simpa using this
theorem dec_one {m : Nat} (h : 1 < (Lib.decDigits m).length) : 1 ≤ m := by
  rcases Nat.eq_zero_or_pos m with h0 | h0
  · rw [h0, dec_small (by decide)] at h; simp at h
  · exact h0
theorem good_num {m : Nat} (h : m ≤ 1000000000) : GoodT (numT m) 4 := by
  have hd := dec_cls m
  obtain ⟨c, r, hcr⟩ : ∃ c r, Lib.decDigits m = c :: r := by
    cases hh : Lib.decDigits m with
    | nil => exact absurd hh (dec_ne m)
    | cons c r => exact ⟨c, r, rfl⟩
  have hc : cls c = 4 := hd c (by rw [hcr]; exact List.mem_cons_self ..)
  refine ⟨?_, ?_, by decide, by decide, by decide⟩
  · rw [textL_num]
    have e : textB (numT m) = ⟨(Lib.decDigits m).toArray⟩ := rfl
    rw [e, hcr, spans_one, hc]
    simp only [spanLen]
    rw [if_neg (by omega), if_neg (by omega), if_pos hc]
    refine run_all _ _ (fun d hd2 => ?_)
    exact num_of (hd d (by rw [hcr]; exact hd2))
  · rw [textL_num]
    unfold tokenOf
    rw [if_neg (by decide), if_pos rfl, if_neg, num_dec, if_neg (by omega)]
    · rfl
    · rintro ⟨h1, h2⟩
      exact dec_head m (dec_one h1) h2
theorem good_semi : GoodT semiT 5 := by
  refine ⟨?_, rfl, by decide, by decide, by decide⟩
  rw [textL_semi]
  exact spans_one (c := 59) (r := []) (by decide)
end Go.Proofs.YtbgekgakamincaaDoor.Lx
