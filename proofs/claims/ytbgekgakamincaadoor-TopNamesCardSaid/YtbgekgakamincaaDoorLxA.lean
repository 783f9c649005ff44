/- The lexer in plain Lean: classes of bytes, spans, tokens. The small walks of package lexer. lexer.end at its three ways to go on. lexer.spans: the iterator over the spans of a script. lexer.token. lexer.Lex. -/
import Derived.Lib.AtoiAll
import Derived.Test.YtbgekgakamincaaDoorProg
import Derived.Test.YtbgekgakamincaaDoorShelf
import Derived.Lib.SmallJoins
import Derived.Test.YtbgekgakamincaaDoorBas
import Derived.RangeFuncNested
import Derived.RangeFuncBound
import Derived.RangeFuncCalls
import Derived.RangeFuncLeaves
import Derived.Shelf.Abstract
import Derived.Shelf.RegionOpen
import Derived.OwnWalkIn
import Derived.TacticsInMore
import Derived.LoopNIn
import Derived.LoopIn

/- The lexer in plain Lean: classes of bytes, spans, tokens. -/
namespace Go.Proofs.YtbgekgakamincaaDoor.Lx
set_option linter.unusedVariables false

/-- The class of a byte. -/
def cls (c : UInt8) : Nat :=
  if c.toNat = 32 ∨ c.toNat = 9 ∨ c.toNat = 10 then 1
  else if c.toNat = 35 then 2
  else if 97 ≤ c.toNat ∧ c.toNat ≤ 122 then 3
  else if 48 ≤ c.toNat ∧ c.toNat ≤ 57 then 4
  else if c.toNat = 59 then 5
  else 0
theorem cls_le (c : UInt8) : cls c ≤ 5 := by unfold cls; (repeat' split) <;> omega
/-- What goes on: a comment, a name, a number. -/
def inCom (c : UInt8) : Bool := decide (c.toNat ≠ 10)
def inNam (c : UInt8) : Bool := decide (cls c = 3) || (decide (cls c = 4) || decide (c.toNat = 95))
def inNum (c : UInt8) : Bool := decide (cls c = 4)
def run (p : UInt8 → Bool) (l : List UInt8) : Nat := (l.takeWhile p).length
theorem run_le (p : UInt8 → Bool) (l : List UInt8) : run p l ≤ l.length := by
  unfold run; exact (List.takeWhile_prefix p).length_le
theorem runs_at (p : UInt8 → Bool) : ∀ (l : List UInt8) (k : Nat) (h : k < run p l), p (l[k]'(Nat.lt_of_lt_of_le h (run_le p l))) = true
  | [], k, h => absurd h (by simp [run])
  | c :: r, k, h => by
    unfold run at h
    by_cases hc : p c = true
    · rw [List.takeWhile_cons_of_pos hc, List.length_cons] at h
      cases k with
      | zero => exact hc
      | succ k => exact runs_at p r k (by unfold run; omega)
    · rw [List.takeWhile_cons_of_neg hc] at h
      simp at h
theorem runs_end (p : UInt8 → Bool) : ∀ (l : List UInt8) (h : run p l < l.length), p (l[run p l]) = false
  | [], h => absurd h (by simp)
  | c :: r, h => by
    by_cases hc : p c = true
    · have e : run p (c :: r) = run p r + 1 := by unfold run; rw [List.takeWhile_cons_of_pos hc, List.length_cons]
      have h' : run p r < r.length := by rw [e, List.length_cons] at h; omega
      have := runs_end p r h'
      simp only [e, List.getElem_cons_succ]
      exact this
    · have e : run p (c :: r) = 0 := by unfold run; rw [List.takeWhile_cons_of_neg hc]; rfl
      simp only [e, List.getElem_cons_zero]
      simpa using hc

/-- How many bytes the span has that begins with the first byte. -/
def spanLen : List UInt8 → Nat
  | [] => 0
  | c :: r => if cls c = 2 then run inCom (c :: r) else if cls c = 3 then run inNam (c :: r) else if cls c = 4 then run inNum (c :: r) else 1
theorem run_pos {p : UInt8 → Bool} {c : UInt8} {r : List UInt8} (h : p c = true) : 1 ≤ run p (c :: r) := by
  unfold run; rw [List.takeWhile_cons_of_pos h, List.length_cons]; omega
theorem com_of {c : UInt8} (h : cls c = 2) : inCom c = true := by
  unfold inCom; unfold cls at h
  rw [decide_eq_true_eq]
  intro h2
  rw [if_pos (by omega)] at h
  omega
theorem nam_of {c : UInt8} (h : cls c = 3) : inNam c = true := by unfold inNam; simp [h]
theorem num_of {c : UInt8} (h : cls c = 4) : inNum c = true := by unfold inNum; simp [h]
theorem spanLen_pos (c : UInt8) (r : List UInt8) : 1 ≤ spanLen (c :: r) := by
  simp only [spanLen]
  split
  · rename_i h; exact run_pos (com_of h)
  · split
    · rename_i h; exact run_pos (nam_of h)
    · split
      · rename_i h; exact run_pos (num_of h)
      · omega
theorem spanLen_le (l : List UInt8) : spanLen l ≤ l.length := by
  cases l with
  | nil => simp [spanLen]
  | cons c r =>
    simp only [spanLen]
    split
    · exact run_le _ _
    · split
      · exact run_le _ _
      · split
        · exact run_le _ _
        · simp

structure Span where
  pos : Nat
  cls : Nat
  text : ByteArray
/-- The spans of a text that begins at an offset. -/
def spans (l : List UInt8) (p : Nat) : List Span :=
  match l with
  | [] => []
  | c :: r => ⟨p, cls c, ⟨((c :: r).take (spanLen (c :: r))).toArray⟩⟩ :: spans ((c :: r).drop (spanLen (c :: r))) (p + spanLen (c :: r))
termination_by l.length
decreasing_by
  have := spanLen_pos c r
  simp only [List.length_drop, List.length_cons]
  omega
theorem spans_nil (p : Nat) : spans [] p = [] := by rw [spans]
theorem spans_cons (c : UInt8) (r : List UInt8) (p : Nat) : spans (c :: r) p = ⟨p, cls c, ⟨((c :: r).take (spanLen (c :: r))).toArray⟩⟩ :: spans ((c :: r).drop (spanLen (c :: r))) (p + spanLen (c :: r)) := by
  rw [spans]
theorem spans_len : ∀ (n : Nat) (l : List UInt8) (p : Nat), l.length ≤ n → (spans l p).length ≤ l.length
  | 0, l, p, h => by
    obtain rfl : l = [] := List.eq_nil_of_length_eq_zero (by omega)
    rw [spans_nil]; simp
  | n + 1, [], p, h => by rw [spans_nil]; simp
  | n + 1, c :: r, p, h => by
    have h1 := spanLen_pos c r
    have h2 := spanLen_le (c :: r)
    rw [spans_cons, List.length_cons]
    have := spans_len n ((c :: r).drop (spanLen (c :: r))) (p + spanLen (c :: r)) (by rw [List.length_drop]; simp only [List.length_cons] at *; omega)
    rw [List.length_drop] at this
    simp only [List.length_cons] at *
    omega

/-- A token. -/
structure Tok where
  kind : Nat
  text : ByteArray
  n : Nat
  pos : Nat
/-- What the lexer hands back: tokens, the error's number (0: none), its offset. -/
structure LexR where
  toks : List Tok
  err : Nat
  pos : Nat
/-- The value of digits. -/
def numFrom (a : Nat) (l : List UInt8) : Nat := l.foldl (fun a c => 10 * a + (c.toNat - 48)) a
def num (l : List UInt8) : Nat := numFrom 0 l
/-- The token of a span, at offset 0, or an error. -/
def tokenOf (k : Nat) (l : List UInt8) : Except Nat Tok :=
  if k = 3 then (if 12 < l.length then .error 3 else .ok ⟨1, ⟨l.toArray⟩, 0, 0⟩)
  else if k = 4 then
    (if 1 < l.length ∧ l.head?.map (·.toNat) = some 48 then .error 7
     else if 1000000000 < num l then .error 3 else .ok ⟨2, ⟨#[]⟩, num l, 0⟩)
  else .ok ⟨3, ⟨l.toArray⟩, 0, 0⟩
/-- One span more. -/
def stepS (acc : List Tok) (x : Span) : Except (Nat × Nat) (List Tok) :=
  if x.cls = 1 ∨ x.cls = 2 then .ok acc
  else if x.cls = 0 then .error (7, x.pos)
  else if acc.length = 2000 then .error (2, x.pos)
  else match tokenOf x.cls x.text.data.toList with
    | .error e => .error (e, x.pos)
    | .ok t => .ok (acc ++ [{ t with pos := x.pos }])
/-- The lexer over spans, some tokens being there. -/
def lexE (acc : List Tok) : List Span → Except (Nat × Nat) (List Tok)
  | [] => .ok acc
  | x :: xs => match stepS acc x with
    | .error e => .error e
    | .ok a => lexE a xs
theorem lexE_append : ∀ (xs ys : List Span) (acc : List Tok), lexE acc (xs ++ ys) = match lexE acc xs with | .error e => .error e | .ok a => lexE a ys
  | [], ys, acc => rfl
  | x :: xs, ys, acc => by
    simp only [List.cons_append, lexE]
    cases stepS acc x with
    | error e => rfl
    | ok a => exact lexE_append xs ys a
theorem lexE_snoc (xs : List Span) (x : Span) (acc a : List Tok) (h : lexE acc xs = .ok a) : lexE acc (xs ++ [x]) = stepS a x := by
  rw [lexE_append, h]
  simp only [lexE]
  cases stepS a x <;> rfl
theorem stepS_len {acc a : List Tok} {x : Span} (h : stepS acc x = .ok a) (hl : acc.length ≤ 2000) : a.length ≤ 2000 := by
  unfold stepS at h
  split at h
  · injection h with h; subst h; exact hl
  · split at h
    · cases h
    · split at h
      · cases h
      · split at h
        · cases h
        · injection h with h
          subst h
          rw [List.length_append, List.length_singleton]
          omega
/-- The lexer. -/
def resOf : Except (Nat × Nat) (List Tok) → LexR
  | .ok t => ⟨t, 0, 0⟩
  | .error e => ⟨[], e.1, e.2⟩
def LEX (l : List UInt8) : LexR := if 8000 < l.length then ⟨[], 2, 0⟩ else resOf (lexE [] (spans l 0))

/-- A span of a script that is not too long. -/
def okS (x : Span) : Prop := x.cls ≤ 5 ∧ x.text.data.toList ≠ [] ∧ (x.cls = 4 → ∀ c ∈ x.text.data.toList, Lx.cls c = 4) ∧ x.text.size ≤ 8000 ∧ x.pos ≤ 8000
theorem mem_tw (p : UInt8 → Bool) : ∀ (l : List UInt8) (d : UInt8), d ∈ l.takeWhile p → p d = true
  | [], d, h => by simp at h
  | c :: r, d, h => by
    by_cases hc : p c = true
    · rw [List.takeWhile_cons_of_pos hc] at h
      rcases List.mem_cons.1 h with rfl | h
      · exact hc
      · exact mem_tw p r d h
    · rw [List.takeWhile_cons_of_neg hc] at h
      cases h
theorem take_run (p : UInt8 → Bool) (l : List UInt8) : l.take (run p l) = l.takeWhile p :=
  (List.prefix_iff_eq_take.1 (List.takeWhile_prefix p)).symm
theorem okS_head {c : UInt8} {r : List UInt8} {p : Nat} (h : p + (c :: r).length ≤ 8000) : okS ⟨p, cls c, ⟨((c :: r).take (spanLen (c :: r))).toArray⟩⟩ := by
  have h1 := spanLen_pos c r
  have h2 := spanLen_le (c :: r)
  refine ⟨cls_le c, ?_, ?_, ?_, ?_⟩
  · show (c :: r).take (spanLen (c :: r)) ≠ []
    intro e
    have := congrArg List.length e
    rw [List.length_take] at this
    simp only [List.length_cons, List.length_nil] at *
    omega
  · intro h4 d hd
    have h4' : cls c = 4 := h4
    have e : spanLen (c :: r) = run inNum (c :: r) := by
      simp only [spanLen]
      rw [if_neg (by omega), if_neg (by omega), if_pos h4']
    have hd' : d ∈ (c :: r).take (spanLen (c :: r)) := hd
    rw [e, take_run] at hd'
    have := mem_tw inNum _ _ hd'
    simpa [inNum] using this
  · show ((c :: r).take (spanLen (c :: r))).length ≤ 8000
    rw [List.length_take]
    omega
  · show p ≤ 8000
    omega
open Go.Lib in
theorem parse_digits : ∀ (l : List UInt8) (a : Nat), (∀ c ∈ l, cls c = 4) → parseUint10 a l = if numFrom a l < 18446744073709551616 then .ok (numFrom a l) else (if l = [] then .ok a else .range)
  | [], a, _ => by simp [parseUint10, numFrom]
  | c :: r, a, h => by
    have hc : 48 ≤ c.toNat ∧ c.toNat ≤ 57 := by
      have := h c (List.mem_cons_self ..)
      unfold cls at this
      repeat' split at this
      all_goals first | omega | assumption
    have hmono : ∀ (l : List UInt8) (a : Nat), a ≤ numFrom a l := by
      intro l
      induction l with
      | nil => intro a; simp [numFrom]
      | cons c r ih => intro a; exact Nat.le_trans (by omega) (ih (10 * a + (c.toNat - 48)))
    have e : numFrom a (c :: r) = numFrom (10 * a + (c.toNat - 48)) r := rfl
    have e2 : a * 10 + (c.toNat - 48) = 10 * a + (c.toNat - 48) := by omega
    have hm := hmono r (10 * a + (c.toNat - 48))
    simp only [parseUint10]
    rw [if_pos hc, e]
    by_cases h1 : 1844674407370955162 ≤ a
    · rw [if_pos h1, if_neg (by omega), if_neg (by simp)]
    · rw [if_neg h1, e2]
      by_cases h2 : 18446744073709551616 ≤ 10 * a + (c.toNat - 48)
      · rw [if_pos h2, if_neg (by omega), if_neg (by simp)]
      · rw [if_neg h2, parse_digits r _ (fun c hc => h c (List.mem_cons_of_mem _ hc))]
        by_cases h3 : numFrom (10 * a + (c.toNat - 48)) r < 18446744073709551616
        · rw [if_pos h3, if_pos h3]
        · rw [if_neg h3, if_neg h3]
          cases r with
          | nil => exact absurd (show numFrom (10 * a + (c.toNat - 48)) [] < _ from by show 10 * a + (c.toNat - 48) < _; omega) h3
          | cons d r => simp

open Go.Lib in
theorem atoi_digits {l : List UInt8} (h0 : l ≠ []) (h : ∀ c ∈ l, cls c = 4) : atoiAll l = if num l < 9223372036854775808 then .ok (num l : Int) else .range := by
  cases l with
  | nil => exact absurd rfl h0
  | cons c r =>
    have hc : 48 ≤ c.toNat ∧ c.toNat ≤ 57 := by
      have := h c (List.mem_cons_self ..)
      unfold cls at this
      repeat' split at this
      all_goals first | omega | assumption
    unfold atoiAll
    simp only
    rw [if_neg (show ¬ (c.toNat = 43 ∨ c.toNat = 45) by omega)]
    have hp : parseMag (c :: r) = if num (c :: r) < 18446744073709551616 then .ok (num (c :: r)) else .range := by
      unfold parseMag
      rw [if_neg (by simp), parse_digits _ _ h, if_neg (show ¬ (c :: r) = [] by simp)]
      rfl
    rw [hp]
    by_cases h1 : num (c :: r) < 18446744073709551616
    · rw [if_pos h1]
      simp only
      by_cases h2 : num (c :: r) < 9223372036854775808
      · rw [if_pos h2, if_neg (by omega), if_neg (by omega), if_neg (by omega)]
      · rw [if_neg h2, if_pos (by omega)]
    · rw [if_neg h1, if_neg (show ¬ num (c :: r) < 9223372036854775808 by omega)]
end Go.Proofs.YtbgekgakamincaaDoor.Lx

/- The small walks of package lexer. -/
namespace Go.Proofs.YtbgekgakamincaaDoor.Lx
open Go.RowKit
set_option linter.unusedVariables false

abbrev i64 (x : Int) : Value := .int .i64 x
abbrev r32 (c : UInt8) : Value := .int .i32 (c.toNat : Int)
theorem ret_i {a b : Int} (h : a = b) : Ending.returned (i64 a) = .returned (i64 b) := by rw [h]

theorem of_val (c : UInt8) (w : World) : Calls Tryd.prog 35 #[r32 c] w fun e w' => e = .returned (i64 (cls c : Nat)) ∧ w = w' := by
  obtain ⟨n, hn⟩ : ∃ n, c.toNat = n := ⟨_, rfl⟩
  have hc : cls c = (if n = 32 ∨ n = 9 ∨ n = 10 then 1 else if n = 35 then 2 else if 97 ≤ n ∧ n ≤ 122 then 3 else if 48 ≤ n ∧ n ≤ 57 then 4 else if n = 59 then 5 else 0) := by unfold cls; rw [hn]
  rw [hc]
  show Calls Tryd.prog 35 #[.int .i32 (c.toNat : Int)] w _
  rw [hn]
  clear hc hn
  by_cases h1 : n = 32 ∨ n = 9 ∨ n = 10
  · rw [if_pos h1]
    rcases h1 with rfl | rfl | rfl
    all_goals
      go_enter Tryd.func35, Tryd.ntmps35
      go_wp2_with fail
      go_ret
      exact ⟨rfl, rfl⟩
  · rw [if_neg h1]
    have a1 : ((n : Int) == 32) = false := by rw [beq_eq_false_iff_ne]; omega
    have a2 : ((n : Int) == 9) = false := by rw [beq_eq_false_iff_ne]; omega
    have a3 : ((n : Int) == 10) = false := by rw [beq_eq_false_iff_ne]; omega
    clear h1
    by_cases h2 : n = 35
    · subst h2
      rw [if_pos rfl]
      go_enter Tryd.func35, Tryd.ntmps35
      go_wp2_with fail
      go_ret
      exact ⟨rfl, rfl⟩
    · rw [if_neg h2]
      have a4 : ((n : Int) == 35) = false := by rw [beq_eq_false_iff_ne]; omega
      clear h2
      by_cases h3 : 97 ≤ n ∧ n ≤ 122
      · rw [if_pos h3]
        have b1 : (97 : Int) ≤ (n : Int) := by omega
        have b2 : (n : Int) ≤ 122 := by omega
        clear h3
        go_enter Tryd.func35, Tryd.ntmps35
        go_wp2_with fail
        go_ret
        exact ⟨rfl, rfl⟩
      · rw [if_neg h3]
        have h3' : ¬ ((97 : Int) ≤ (n : Int) ∧ (n : Int) ≤ 122) := by omega
        clear h3
        by_cases h4 : 48 ≤ n ∧ n ≤ 57
        · rw [if_pos h4]
          have b1 : ¬ (97 : Int) ≤ (n : Int) := by omega
          have b2 : (48 : Int) ≤ (n : Int) := by omega
          have b3 : (n : Int) ≤ 57 := by omega
          clear h4 h3'
          go_enter Tryd.func35, Tryd.ntmps35
          go_wp2_with fail
          go_ret
          exact ⟨rfl, rfl⟩
        · rw [if_neg h4]
          by_cases h5 : n = 59
          · subst h5
            rw [if_pos rfl]
            clear h4 h3'
            go_enter Tryd.func35, Tryd.ntmps35
            go_wp2_with fail
            go_ret
            exact ⟨rfl, rfl⟩
          · rw [if_neg h5]
            have a5 : ((n : Int) == 59) = false := by rw [beq_eq_false_iff_ne]; omega
            clear h5
            by_cases k1 : 97 ≤ n
            · have b1 : (97 : Int) ≤ (n : Int) := by omega
              have b2 : ¬ (n : Int) ≤ 122 := by omega
              have b3 : (48 : Int) ≤ (n : Int) := by omega
              have b4 : ¬ (n : Int) ≤ 57 := by omega
              clear h3' h4 k1
              go_enter Tryd.func35, Tryd.ntmps35
              go_wp2_with fail
              go_ret
              exact ⟨rfl, rfl⟩
            · by_cases k2 : 48 ≤ n
              · have b1 : ¬ (97 : Int) ≤ (n : Int) := by omega
                have b3 : (48 : Int) ≤ (n : Int) := by omega
                have b4 : ¬ (n : Int) ≤ 57 := by omega
                clear h3' h4 k1 k2
                go_enter Tryd.func35, Tryd.ntmps35
                go_wp2_with fail
                go_ret
                exact ⟨rfl, rfl⟩
              · have b1 : ¬ (97 : Int) ≤ (n : Int) := by omega
                have b3 : ¬ (48 : Int) ≤ (n : Int) := by omega
                clear h3' h4 k1 k2
                go_enter Tryd.func35, Tryd.ntmps35
                go_wp2_with fail
                go_ret
                exact ⟨rfl, rfl⟩

theorem inName_val (c : UInt8) (w : World) : Calls Tryd.prog 38 #[r32 c] w fun e w' => e = .returned (.bool (inNam c)) ∧ w = w' := by
  have HO := Lib.hid (of_val c)
  have hi : inNam c = (decide (cls c = 3) || (decide (cls c = 4) || decide (c.toNat = 95))) := rfl
  obtain ⟨k, hk⟩ : ∃ k, cls c = k := ⟨_, rfl⟩
  rw [hk] at HO hi
  obtain ⟨v, hv⟩ : ∃ v, inNam c = v := ⟨_, rfl⟩
  rw [hv] at hi ⊢
  have HI := Lib.hid hi
  clear hi hv hk
  by_cases h3 : k = 3
  · subst h3
    go_enter Tryd.func38, Tryd.ntmps38
    go_wp2_with fail
    refine (HO.out _).mono ?_
    rintro e w1 ⟨rfl, rfl⟩
    go_wp2_with fail
    go_ret
    exact ⟨rb (by rw [HI.out]; simp), rfl⟩
  · have e3 : ((k : Int) == 3) = false := by rw [beq_eq_false_iff_ne]; omega
    by_cases h4 : k = 4
    · subst h4
      clear h3
      go_enter Tryd.func38, Tryd.ntmps38
      go_wp2_with fail
      refine (HO.out _).mono ?_
      rintro e w1 ⟨rfl, rfl⟩
      go_wp2_with fail
      refine (HO.out _).mono ?_
      rintro e w1 ⟨rfl, rfl⟩
      go_wp2_with fail
      go_ret
      exact ⟨rb (by rw [HI.out]; simp), rfl⟩
    · have e4 : ((k : Int) == 4) = false := by rw [beq_eq_false_iff_ne]; omega
      have HK : Hid (v = decide (c.toNat = 95)) := by
        refine Lib.hid ?_
        rw [HI.out]; simp [h3, h4]
      clear h3 h4
      go_enter Tryd.func38, Tryd.ntmps38
      go_wp2_with fail
      refine (HO.out _).mono ?_
      rintro e w1 ⟨rfl, rfl⟩
      go_wp2_with fail
      refine (HO.out _).mono ?_
      rintro e w1 ⟨rfl, rfl⟩
      go_wp2_with fail
      go_ret
      refine ⟨rb ?_, rfl⟩
      rw [HK.out, Bool.eq_iff_iff]
      simp
      omega
theorem com_val (c : UInt8) (w : World) : Calls Tryd.prog 37 #[r32 c] w fun e w' => e = .returned (.bool (inCom c)) ∧ w = w' := by
  have hi : inCom c = decide (c.toNat ≠ 10) := rfl
  obtain ⟨v, hv⟩ : ∃ v, inCom c = v := ⟨_, rfl⟩
  rw [hv] at hi ⊢
  have HI := Lib.hid hi
  clear hi hv
  go_enter Tryd.func37, Tryd.ntmps37
  go_wp2_with fail
  go_ret
  refine ⟨rb ?_, rfl⟩
  rw [HI.out, Bool.eq_iff_iff]
  simp
  omega
theorem num_val (c : UInt8) (w : World) : Calls Tryd.prog 39 #[r32 c] w fun e w' => e = .returned (.bool (inNum c)) ∧ w = w' := by
  have HO := Lib.hid (of_val c)
  have hi : inNum c = decide (cls c = 4) := rfl
  obtain ⟨k, hk⟩ : ∃ k, cls c = k := ⟨_, rfl⟩
  rw [hk] at HO hi
  obtain ⟨v, hv⟩ : ∃ v, inNum c = v := ⟨_, rfl⟩
  rw [hv] at hi ⊢
  have HI := Lib.hid hi
  clear hi hv hk
  go_enter Tryd.func39, Tryd.ntmps39
  go_wp2_with fail
  refine (HO.out _).mono ?_
  rintro e w1 ⟨rfl, rfl⟩
  go_wp2_with fail
  go_ret
  refine ⟨rb ?_, rfl⟩
  rw [HI.out, Bool.eq_iff_iff]
  simp
  omega
end Go.Proofs.YtbgekgakamincaaDoor.Lx

/- lexer.end at its three ways to go on. -/
namespace Go.Proofs.YtbgekgakamincaaDoor.Lx
open Go.RowKit
set_option linter.unusedVariables false
theorem w32_byte (c : UInt8) : wrap32 (c.toNat : Int) = (c.toNat : Int) := by
  have := UInt8.toNat_lt c
  unfold wrap32; omega
theorem byte32 {f : FuncId} {c : UInt8} {v : Value} (h : ∀ w, Calls Tryd.prog f #[r32 c] w fun e w' => e = .returned v ∧ w = w') : ∀ w, Calls Tryd.prog f #[.int .i32 (wrap32 (c.toNat : Int))] w fun e w' => e = .returned v ∧ w = w' := by
  rw [w32_byte]; exact h

theorem end_com (s : ByteArray) (p : Nat) (hs : s.size ≤ maxLen) (hp : p ≤ s.size) (w : World) :
    Calls Tryd.prog 36 #[.string s, i64 (p : Nat), .func (.func 37) #[] #[]] w fun e w' => e = .returned (i64 ((p + run inCom (s.data.toList.drop p) : Nat) : Int)) ∧ w = w' := by
  unfold maxLen at hs
  have hl : s.data.toList.length = s.size := Array.length_toList
  have HL := Lib.hid hl; clear hl
  have hr := run_le inCom (s.data.toList.drop p)
  rw [List.length_drop, HL.out] at hr
  obtain ⟨T, hT⟩ : ∃ T, run inCom (s.data.toList.drop p) = T := ⟨_, rfl⟩
  rw [hT] at hr ⊢
  have HV := Lib.hid com_val
  have hT1 : Hid (∀ k, k < T → ∀ h : p + k < s.size, inCom s[p + k] = true) := Lib.hid (fun k hk h => by
    rw [← hT] at hk
    have := runs_at inCom _ k hk
    rw [List.getElem_drop] at this
    exact this)
  have hT2 : Hid (∀ h : p + T < s.size, inCom s[p + T] = false) := Lib.hid (fun h => by
    have := runs_end inCom (s.data.toList.drop p) (by rw [List.length_drop, HL.out, hT]; omega)
    simp only [hT, List.getElem_drop] at this
    exact this)
  clear hT
  go_enter Tryd.func36, Tryd.ntmps36
  go_wp2_with fail
  go_loop [1] (fun i => ∃ k : Nat, k ≤ T ∧ i = i64 ((p + k : Nat) : Int)) (fun i => s.size - (intOf i).toNat)
  case atStart => exact ⟨0, Nat.zero_le _, rfl⟩
  case round =>
    obtain ⟨k, hk, rfl⟩ := hrel
    by_cases hlt : p + k < s.size
    · have hc : ((p + k : Nat) : Int) < (s.size : Int) := by omega
      by_cases hkT : k < T
      · have hv := hT1.out k hkT hlt
        have HV2 := Lib.hid (byte32 (HV.out s[p + k]))
        rw [hv] at HV2
        clear hv
        go_wp2_with fail
        refine (HV2.out _).mono ?_
        rintro e w1 ⟨rfl, rfl⟩
        go_wp2_with fail
        go_round
        case rel => exact ⟨k + 1, by omega, by go_num⟩
        case measure => simp [intOf]; omega
      · obtain rfl : k = T := by omega
        have hv := hT2.out hlt
        have HV2 := Lib.hid (byte32 (HV.out s[p + k]))
        rw [hv] at HV2
        clear hv
        go_wp2_with fail
        refine (HV2.out _).mono ?_
        rintro e w1 ⟨rfl, rfl⟩
        go_wp2_with fail
        go_ret
        exact ⟨rfl, rfl⟩
    · have hc : ¬ ((p + k : Nat) : Int) < (s.size : Int) := by omega
      obtain rfl : k = T := by omega
      go_wp2_with fail
      go_ret
      exact ⟨rfl, rfl⟩

theorem end_nam (s : ByteArray) (p : Nat) (hs : s.size ≤ maxLen) (hp : p ≤ s.size) (w : World) :
    Calls Tryd.prog 36 #[.string s, i64 (p : Nat), .func (.func 38) #[] #[]] w fun e w' => e = .returned (i64 ((p + run inNam (s.data.toList.drop p) : Nat) : Int)) ∧ w = w' := by
  unfold maxLen at hs
  have hl : s.data.toList.length = s.size := Array.length_toList
  have HL := Lib.hid hl; clear hl
  have hr := run_le inNam (s.data.toList.drop p)
  rw [List.length_drop, HL.out] at hr
  obtain ⟨T, hT⟩ : ∃ T, run inNam (s.data.toList.drop p) = T := ⟨_, rfl⟩
  rw [hT] at hr ⊢
  have HV := Lib.hid inName_val
  have hT1 : Hid (∀ k, k < T → ∀ h : p + k < s.size, inNam s[p + k] = true) := Lib.hid (fun k hk h => by
    rw [← hT] at hk
    have := runs_at inNam _ k hk
    rw [List.getElem_drop] at this
    exact this)
  have hT2 : Hid (∀ h : p + T < s.size, inNam s[p + T] = false) := Lib.hid (fun h => by
    have := runs_end inNam (s.data.toList.drop p) (by rw [List.length_drop, HL.out, hT]; omega)
    simp only [hT, List.getElem_drop] at this
    exact this)
  clear hT
  go_enter Tryd.func36, Tryd.ntmps36
  go_wp2_with fail
  go_loop [1] (fun i => ∃ k : Nat, k ≤ T ∧ i = i64 ((p + k : Nat) : Int)) (fun i => s.size - (intOf i).toNat)
  case atStart => exact ⟨0, Nat.zero_le _, rfl⟩
  case round =>
    obtain ⟨k, hk, rfl⟩ := hrel
    by_cases hlt : p + k < s.size
    · have hc : ((p + k : Nat) : Int) < (s.size : Int) := by omega
      by_cases hkT : k < T
      · have hv := hT1.out k hkT hlt
        have HV2 := Lib.hid (byte32 (HV.out s[p + k]))
        rw [hv] at HV2
        clear hv
        go_wp2_with fail
        refine (HV2.out _).mono ?_
        rintro e w1 ⟨rfl, rfl⟩
        go_wp2_with fail
        go_round
        case rel => exact ⟨k + 1, by omega, by go_num⟩
        case measure => simp [intOf]; omega
      · obtain rfl : k = T := by omega
        have hv := hT2.out hlt
        have HV2 := Lib.hid (byte32 (HV.out s[p + k]))
        rw [hv] at HV2
        clear hv
        go_wp2_with fail
        refine (HV2.out _).mono ?_
        rintro e w1 ⟨rfl, rfl⟩
        go_wp2_with fail
        go_ret
        exact ⟨rfl, rfl⟩
    · have hc : ¬ ((p + k : Nat) : Int) < (s.size : Int) := by omega
      obtain rfl : k = T := by omega
      go_wp2_with fail
      go_ret
      exact ⟨rfl, rfl⟩

theorem end_num (s : ByteArray) (p : Nat) (hs : s.size ≤ maxLen) (hp : p ≤ s.size) (w : World) :
    Calls Tryd.prog 36 #[.string s, i64 (p : Nat), .func (.func 39) #[] #[]] w fun e w' => e = .returned (i64 ((p + run inNum (s.data.toList.drop p) : Nat) : Int)) ∧ w = w' := by
  unfold maxLen at hs
  have hl : s.data.toList.length = s.size := Array.length_toList
  have HL := Lib.hid hl; clear hl
  have hr := run_le inNum (s.data.toList.drop p)
  rw [List.length_drop, HL.out] at hr
  obtain ⟨T, hT⟩ : ∃ T, run inNum (s.data.toList.drop p) = T := ⟨_, rfl⟩
  rw [hT] at hr ⊢
  have HV := Lib.hid num_val
  have hT1 : Hid (∀ k, k < T → ∀ h : p + k < s.size, inNum s[p + k] = true) := Lib.hid (fun k hk h => by
    rw [← hT] at hk
    have := runs_at inNum _ k hk
    rw [List.getElem_drop] at this
    exact this)
  have hT2 : Hid (∀ h : p + T < s.size, inNum s[p + T] = false) := Lib.hid (fun h => by
    have := runs_end inNum (s.data.toList.drop p) (by rw [List.length_drop, HL.out, hT]; omega)
    simp only [hT, List.getElem_drop] at this
    exact this)
  clear hT
  go_enter Tryd.func36, Tryd.ntmps36
  go_wp2_with fail
  go_loop [1] (fun i => ∃ k : Nat, k ≤ T ∧ i = i64 ((p + k : Nat) : Int)) (fun i => s.size - (intOf i).toNat)
  case atStart => exact ⟨0, Nat.zero_le _, rfl⟩
  case round =>
    obtain ⟨k, hk, rfl⟩ := hrel
    by_cases hlt : p + k < s.size
    · have hc : ((p + k : Nat) : Int) < (s.size : Int) := by omega
      by_cases hkT : k < T
      · have hv := hT1.out k hkT hlt
        have HV2 := Lib.hid (byte32 (HV.out s[p + k]))
        rw [hv] at HV2
        clear hv
        go_wp2_with fail
        refine (HV2.out _).mono ?_
        rintro e w1 ⟨rfl, rfl⟩
        go_wp2_with fail
        go_round
        case rel => exact ⟨k + 1, by omega, by go_num⟩
        case measure => simp [intOf]; omega
      · obtain rfl : k = T := by omega
        have hv := hT2.out hlt
        have HV2 := Lib.hid (byte32 (HV.out s[p + k]))
        rw [hv] at HV2
        clear hv
        go_wp2_with fail
        refine (HV2.out _).mono ?_
        rintro e w1 ⟨rfl, rfl⟩
        go_wp2_with fail
        go_ret
        exact ⟨rfl, rfl⟩
    · have hc : ¬ ((p + k : Nat) : Int) < (s.size : Int) := by omega
      obtain rfl : k = T := by omega
      go_wp2_with fail
      go_ret
      exact ⟨rfl, rfl⟩
end Go.Proofs.YtbgekgakamincaaDoor.Lx

/- lexer.spans: the iterator over the spans of a script. -/
namespace Go.Proofs.YtbgekgakamincaaDoor.Lx
open Go.RowKit Go.Shelf
set_option linter.unusedVariables false
attribute [local go_sem] Oper.semAt_some

/-- What a round keeps: all below n₀, and the closure's box. -/
def Kp (n₀ Bs : Nat) (W W' : World) : Prop := Below n₀ W W' ∧ W'.heap[Bs]? = W.heap[Bs]?
theorem Kp.trans {n₀ Bs : Nat} {A B C : World} (h : Kp n₀ Bs A B) (k : Kp n₀ Bs B C) : Kp n₀ Bs A C := ⟨h.1.trans k.1, k.2.trans h.2⟩
theorem Kp.refl (n₀ Bs : Nat) (W : World) : Kp n₀ Bs W W := ⟨Below.refl _ _, rfl⟩
/-- A span that a script of bounded length has. -/
abbrev Sp := { x : Span // okS x }
def Sp.enc (x : Sp) : Array Value := #[i64 (x.1.pos : Nat), .agg #[i64 (x.1.cls : Nat), .string x.1.text]]

theorem extract_eq (s : ByteArray) (p k : Nat) : s.extract p (p + k) = ⟨((s.data.toList.drop p).take k).toArray⟩ := by
  apply ByteArray.ext
  rw [ByteArray.data_extract]
  apply Array.ext'
  rw [Array.toList_extract]
  simp [List.extract_eq_take_drop]

theorem slice_str (s : ByteArray) (p T : Nat) (h : p + T ≤ s.size) (w : World) :
    (Instr.slice 9 (.string s) (some (.int .i64 (p : Int))) (some (.int .i64 ((p : Int) + (T : Int)))) none).run Tryd.prog w = .ok (.string (s.extract p (p + T))) w := by
  rw [run_slice_string w 9 s .i64 .i64 _ _ Tryd.underlying9 (by omega) (by omega) (by omega)]
  have e1 : ((p : Int)).toNat = p := by omega
  have e2 : ((p : Int) + (T : Int)).toNat = p + T := by omega
  rw [e1, e2]

set_option maxRecDepth 100000 in
set_option maxHeartbeats 1000000 in
theorem spans1_in (l Bs n₀ : Nat) (s : ByteArray) (hs : s.size ≤ 8000) (J Jx : List Sp → World → Prop)
    (hY : ∀ pre x W, J pre W → pre.length < (spans s.data.toList 0).length → YieldAt Fence.wide 3 Tryd.prog l (Sp.enc x) W fun e W' =>
      (e = .returned (.bool true) ∧ J (pre ++ [x]) W' ∧ Kp n₀ Bs W W') ∨ (e = .returned (.bool false) ∧ Jx (pre ++ [x]) W'))
    (W : World) (hBs : Blk W Bs 9 #[.string s]) (h0 : J [] W) :
    CallsIn Fence.wide 4 Tryd.prog 34 #[.func (.yield l) #[] #[], .pointer (some ⟨Bs, 0, none⟩)] W fun e W' => (∃ v, e = .returned v) ∧
      ((∃ ys : List Sp, ys.map (·.1) = spans s.data.toList 0 ∧ J ys W') ∨ (∃ pre : List Sp, pre.map (·.1) <+: spans s.data.toList 0 ∧ Jx pre W')) := by
  have hl : s.data.toList.length = s.size := Array.length_toList
  have HL := Lib.hid hl; clear hl
  have H0 := Lib.hid h0; clear h0
  have HB := Lib.hid hBs; clear hBs
  refine callsIn_of_wp Tryd.func34 rfl trivial ?_ rfl
  simp only [Tryd.ntmps34, List.size_toArray, List.length_cons, List.length_nil, Nat.reduceAdd, Nat.reduceSub, Array.replicate_succ, Array.replicate_zero, List.push_toArray, List.append_toArray, List.nil_append, List.cons_append]
  gi_wp2
  gi_loopw [3] (fun i wr => ∃ (p : Nat) (pre : List Sp), p ≤ s.size ∧ i = .int .i64 p ∧ Hid (pre.map (·.1) ++ spans (s.data.toList.drop p) p = spans s.data.toList 0) ∧ Hid (J pre wr) ∧ Kp n₀ Bs W wr)
    (fun i _ => s.size - (intOf i).toNat)
  case atStart => exact ⟨0, [], Nat.zero_le _, rfl, Lib.hid (by simp), H0, Kp.refl _ _ _⟩
  case round =>
    obtain ⟨p, pre, hp, rfl, HP, HJ, hk⟩ := hrel
    have hB : Blk wr Bs 9 #[.string s] := hk.2.trans HB.out
    have b0 : wr.cell? ⟨Bs, 0, none⟩ = some (.string s) := hB.cell 0
    by_cases hlt : p < s.size
    · have hlt' : (p : Int) < (s.size : Int) := by omega
      have hpl : p < s.data.toList.length := by rw [HL.out]; exact hlt
      have hdc : s.data.toList.drop p = s[p] :: s.data.toList.drop (p + 1) := by
        rw [List.drop_eq_getElem_cons hpl]; rfl
      obtain ⟨c, hc⟩ : ∃ c, s[p] = c := ⟨_, rfl⟩
      have hok := okS_head (c := c) (r := s.data.toList.drop (p + 1)) (p := p) (by rw [← hc, ← hdc, List.length_drop, HL.out]; omega)
      have hlast := HP.out
      obtain ⟨T, hT⟩ : ∃ T, spanLen (s.data.toList.drop p) = T := ⟨_, rfl⟩
      have hT1 : 1 ≤ T := by rw [← hT, hdc]; exact spanLen_pos _ _
      have hT2 : p + T ≤ s.size := by
        have := spanLen_le (s.data.toList.drop p)
        rw [hT, List.length_drop, HL.out] at this
        omega
      have hhead : spans (s.data.toList.drop p) p = ⟨p, cls c, s.extract p (p + T)⟩ :: spans (s.data.toList.drop (p + T)) (p + T) := by
        rw [extract_eq, ← hT, ← List.drop_drop, hdc, hc, spans_cons]
      have hokx : okS ⟨p, cls c, s.extract p (p + T)⟩ := by
        rw [extract_eq, ← hT, hdc, hc]; exact hok
      rw [hhead] at hlast
      have hlen : pre.length < (spans s.data.toList 0).length := by
        rw [← hlast, List.length_append, List.length_map, List.length_cons]; omega
      obtain ⟨fn, tmps, assign, body, hy, hRd⟩ := hY pre ⟨⟨p, cls c, s.extract p (p + T)⟩, hokx⟩ wr HJ.out hlen
      dsimp only [Sp.enc] at hy
      have HNext : Hid ((pre ++ [(⟨⟨p, cls c, s.extract p (p + T)⟩, hokx⟩ : Sp)]).map (·.1) ++ spans (s.data.toList.drop (p + T)) (p + T) = spans s.data.toList 0) := Lib.hid (by
        rw [List.map_append, List.append_assoc]; exact hlast)
      have hO := byte32 (of_val s[p])
      have hE : spanLen (c :: s.data.toList.drop (p + 1)) = T := by rw [← hT, hdc, hc]
      have hdp : s.data.toList.drop p = c :: s.data.toList.drop (p + 1) := by rw [hdc, hc]
      clear hdc hT hhead hlast hlen hok
      rw [hc] at hO
      obtain ⟨k, hk'⟩ : ∃ k : Int, (cls c : Int) = k := ⟨_, rfl⟩
      rw [hk'] at hO hy
      rw [← hc] at hO
      have HPre : Hid ((pre ++ [(⟨⟨p, cls c, s.extract p (p + T)⟩, hokx⟩ : Sp)]).map (·.1) <+: spans s.data.toList 0) := Lib.hid ⟨_, HNext.out⟩
      have HO := Lib.hid hO
      have HC := Lib.hid hc
      have HK := Lib.hid hk'
      have HE := Lib.hid hE
      have HD := Lib.hid hdp
      clear hO hc hk' hE hdp
      by_cases h2 : k = 2
      · subst h2
        have hN := end_com s p (by unfold maxLen; omega) (by omega)
        have hr : run inCom (s.data.toList.drop p) = T := by
          rw [HD.out]
          have := HE.out
          have hk := HK.out
          simp only [spanLen] at this
          rwa [if_pos (by omega)] at this
        rw [hr] at hN
        have HN := Lib.hid hN
        have hsl := slice_str s p T hT2
        clear hN hr
        gi_wp2_with fail
        refine ⟨trivial, ?_⟩
        refine (callsIn_wide.2 (HO.out _)).mono ?_
        rintro e w1 ⟨rfl, rfl⟩
        gi_wp2_with fail
        refine ⟨trivial, ?_⟩
        refine (callsIn_wide.2 (HN.out _)).mono ?_
        rintro e w1 ⟨rfl, rfl⟩
        gi_wp2_with fail
        refine hRd.mono ?_
        rintro e W3 (⟨rfl, hJ3, hk3⟩ | ⟨rfl, hJx3⟩)
        · have HJ3 := Lib.hid hJ3; clear hJ3
          gi_wp2_with fail
          go_roundw
          case rel => exact ⟨p + T, _, by omega, by go_num, HNext, HJ3, hk.trans hk3⟩
          case measure => simp [intOf]; omega
        · have HJx3 := Lib.hid hJx3; clear hJx3
          gi_wp2_with fail
          refine bodyPost_ret (results_none rfl _ _ _) rfl ?_
          exact ⟨⟨_, rfl⟩, .inr ⟨_, HPre.out, HJx3.out⟩⟩
      have h2' : (k == 2) = false := by rw [beq_eq_false_iff_ne]; exact h2
      by_cases h3 : k = 3
      · subst h3
        have hN := end_nam s p (by unfold maxLen; omega) (by omega)
        have hr : run inNam (s.data.toList.drop p) = T := by
          rw [HD.out]
          have := HE.out
          have hk := HK.out
          simp only [spanLen] at this
          rwa [if_neg (by omega), if_pos (by omega)] at this
        rw [hr] at hN
        have HN := Lib.hid hN
        have hsl := slice_str s p T hT2
        clear hN hr
        gi_wp2_with fail
        refine ⟨trivial, ?_⟩
        refine (callsIn_wide.2 (HO.out _)).mono ?_
        rintro e w1 ⟨rfl, rfl⟩
        gi_wp2_with fail
        refine ⟨trivial, ?_⟩
        refine (callsIn_wide.2 (HN.out _)).mono ?_
        rintro e w1 ⟨rfl, rfl⟩
        gi_wp2_with fail
        refine hRd.mono ?_
        rintro e W3 (⟨rfl, hJ3, hk3⟩ | ⟨rfl, hJx3⟩)
        · have HJ3 := Lib.hid hJ3; clear hJ3
          gi_wp2_with fail
          go_roundw
          case rel => exact ⟨p + T, _, by omega, by go_num, HNext, HJ3, hk.trans hk3⟩
          case measure => simp [intOf]; omega
        · have HJx3 := Lib.hid hJx3; clear hJx3
          gi_wp2_with fail
          refine bodyPost_ret (results_none rfl _ _ _) rfl ?_
          exact ⟨⟨_, rfl⟩, .inr ⟨_, HPre.out, HJx3.out⟩⟩
      have h3' : (k == 3) = false := by rw [beq_eq_false_iff_ne]; exact h3
      by_cases h4 : k = 4
      · subst h4
        have hN := end_num s p (by unfold maxLen; omega) (by omega)
        have hr : run inNum (s.data.toList.drop p) = T := by
          rw [HD.out]
          have := HE.out
          have hk := HK.out
          simp only [spanLen] at this
          rwa [if_neg (by omega), if_neg (by omega), if_pos (by omega)] at this
        rw [hr] at hN
        have HN := Lib.hid hN
        have hsl := slice_str s p T hT2
        clear hN hr
        gi_wp2_with fail
        refine ⟨trivial, ?_⟩
        refine (callsIn_wide.2 (HO.out _)).mono ?_
        rintro e w1 ⟨rfl, rfl⟩
        gi_wp2_with fail
        refine ⟨trivial, ?_⟩
        refine (callsIn_wide.2 (HN.out _)).mono ?_
        rintro e w1 ⟨rfl, rfl⟩
        gi_wp2_with fail
        refine hRd.mono ?_
        rintro e W3 (⟨rfl, hJ3, hk3⟩ | ⟨rfl, hJx3⟩)
        · have HJ3 := Lib.hid hJ3; clear hJ3
          gi_wp2_with fail
          go_roundw
          case rel => exact ⟨p + T, _, by omega, by go_num, HNext, HJ3, hk.trans hk3⟩
          case measure => simp [intOf]; omega
        · have HJx3 := Lib.hid hJx3; clear hJx3
          gi_wp2_with fail
          refine bodyPost_ret (results_none rfl _ _ _) rfl ?_
          exact ⟨⟨_, rfl⟩, .inr ⟨_, HPre.out, HJx3.out⟩⟩
      have h4' : (k == 4) = false := by rw [beq_eq_false_iff_ne]; exact h4
      obtain rfl : T = 1 := by
        have := HE.out
        have hk := HK.out
        simp only [spanLen] at this
        rw [if_neg (by omega), if_neg (by omega), if_neg (by omega)] at this
        exact this.symm
      have hsl : ∀ w, (Instr.slice 9 (.string s) (some (.int .i64 (p : Int))) (some (.int .i64 ((p : Int) + 1))) none).run Tryd.prog w = .ok (.string (s.extract p (p + 1))) w := slice_str s p 1 hT2
      clear h2 h3 h4
      gi_wp2_with fail
      refine ⟨trivial, ?_⟩
      refine (callsIn_wide.2 (HO.out _)).mono ?_
      rintro e w1 ⟨rfl, rfl⟩
      gi_wp2_with fail
      refine hRd.mono ?_
      rintro e W3 (⟨rfl, hJ3, hk3⟩ | ⟨rfl, hJx3⟩)
      · have HJ3 := Lib.hid hJ3; clear hJ3
        gi_wp2_with fail
        go_roundw
        case rel => exact ⟨p + 1, _, by omega, by go_num, HNext, HJ3, hk.trans hk3⟩
        case measure => simp [intOf]; omega
      · have HJx3 := Lib.hid hJx3; clear hJx3
        gi_wp2_with fail
        refine bodyPost_ret (results_none rfl _ _ _) rfl ?_
        exact ⟨⟨_, rfl⟩, .inr ⟨_, HPre.out, HJx3.out⟩⟩
    · have hge : ¬ (p : Int) < (s.size : Int) := by omega
      obtain rfl : p = s.size := by omega
      gi_wp2_with fail
      go_end0
      refine ⟨⟨_, rfl⟩, .inl ⟨pre, ?_, HJ.out⟩⟩
      have := HP.out
      rw [List.drop_of_length_le (by rw [HL.out]; exact Nat.le_refl _), spans_nil, List.append_nil] at this
      exact this
end Go.Proofs.YtbgekgakamincaaDoor.Lx

/- lexer.token. -/
namespace Go.Proofs.YtbgekgakamincaaDoor.Lx
open Go.RowKit
set_option linter.unusedVariables false

/-- The variable of the library that Atoi's failing way reads. -/
def Vars (w : World) : Prop := ∃ tp p, w.cell? ⟨2, 0, none⟩ = some (.iface tp p)
theorem cell_lt {w : World} {a : Addr} {v : Value} (h : w.cell? a = some v) : a.block < w.heap.size := by
  rcases Nat.lt_or_ge a.block w.heap.size with hlt | hge
  · exact hlt
  · simp [World.cell?, Array.getElem?_eq_none hge] at h
theorem Vars.up {w w' : World} (h : Vars w) (hb : Below w.heap.size w w') : Vars w' := by
  obtain ⟨tp, p, h⟩ := h
  exact ⟨tp, p, (hb.cell (p := ⟨2, 0, none⟩) (cell_lt (a := ⟨2, 0, none⟩) h)).trans h⟩

theorem atoi_ok (s : ByteArray) (h0 : s.data.toList ≠ []) (hd : ∀ c ∈ s.data.toList, cls c = 4) (hs : s.size ≤ 8000) (hv : num s.data.toList < 9223372036854775808) (w : World) :
    Calls Tryd.prog 40 #[.string s] w fun e w' => e = .returned (.tuple #[i64 (num s.data.toList : Nat), .nilIface]) ∧ Below w.heap.size w w' := by
  have ha := atoi_digits h0 hd
  rw [if_pos hv] at ha
  refine (Tryd.strconv_Atoi_ok s (by omega) _ ha w).mono ?_
  rintro e w' ⟨rfl, rfl | ⟨t, rfl⟩⟩
  · exact ⟨rfl, Below.refl _ _⟩
  · exact ⟨rfl, Lib.bytesWorld_below _ _ _⟩
theorem atoi_range (s : ByteArray) (h0 : s.data.toList ≠ []) (hd : ∀ c ∈ s.data.toList, cls c = 4) (hs : s.size ≤ 8000) (hv : ¬ num s.data.toList < 9223372036854775808) (w : World) (hw : Vars w) :
    Calls Tryd.prog 40 #[.string s] w fun e w' => (∃ z t N, e = .returned (.tuple #[i64 z, .iface t (.pointer (some ⟨N, 0, none⟩))])) ∧ Below w.heap.size w w' := by
  have ha := atoi_digits h0 hd
  rw [if_neg hv] at ha
  obtain ⟨tp, p, hc⟩ := hw
  refine (Tryd.strconv_Atoi_range s (by omega) ha _ w hc (.inr ⟨tp, p, rfl⟩)).mono ?_
  rintro e w' ⟨N, rfl, _, _, hb⟩
  exact ⟨⟨_, _, N, rfl⟩, hb⟩

def Tok.v (t : Tok) : Value := .agg #[i64 (t.kind : Nat), .string t.text, i64 (t.n : Nat), i64 (t.pos : Nat)]
def tokV : Except Nat Tok → Value
  | .ok t => .tuple #[.agg #[i64 (t.kind : Nat), .string t.text, i64 (t.n : Nat), i64 (t.pos : Nat)], i64 0]
  | .error e => .tuple #[.agg #[i64 0, .string ⟨#[]⟩, i64 0, i64 0], i64 (e : Nat)]
theorem four {w : World} {T : Nat} {t : TypeId} {a0 a1 a2 a3 v0 v1 v2 v3 : Value} (h : Blk w T t #[a0, a1, a2, a3]) :
    Blk ((((w.setCell ⟨T, 0, none⟩ v0).setCell ⟨T, 1, none⟩ v1).setCell ⟨T, 2, none⟩ v2).setCell ⟨T, 3, none⟩ v3) T t #[v0, v1, v2, v3] := by
  simpa using (((h.set_ 0 v0).set_ 1 v1).set_ 2 v2).set_ 3 v3
theorem four_below {w0 w : World} {B T : Nat} {v0 v1 v2 v3 : Value} (h : Below B w0 w) (hT : B ≤ T) :
    Below B w0 ((((w.setCell ⟨T, 0, none⟩ v0).setCell ⟨T, 1, none⟩ v1).setCell ⟨T, 2, none⟩ v2).setCell ⟨T, 3, none⟩ v3) :=
  (((h.setCell (p := ⟨T, 0, none⟩) hT v0).setCell (p := ⟨T, 1, none⟩) hT v1).setCell (p := ⟨T, 2, none⟩) hT v2).setCell (p := ⟨T, 3, none⟩) hT v3

set_option maxHeartbeats 1000000 in
theorem tok_name (s : ByteArray) (hs : s.size ≤ 8000) (w : World) :
    Calls Tryd.prog 21 #[.agg #[i64 3, .string s]] w fun e w' => e = .returned (tokV (tokenOf 3 s.data.toList)) ∧ Below w.heap.size w w' := by
  have hl : s.data.toList.length = s.size := Array.length_toList
  have e0 : tokenOf 3 s.data.toList = if 12 < s.size then .error 3 else .ok ⟨1, s, 0, 0⟩ := by
    unfold tokenOf; rw [if_pos rfl, hl]
  rw [e0]
  clear e0 hl
  have hB0 : Below w.heap.size w ((w.alloc (.cells #[i64 3, .string s] 62)).alloc (.cells #[i64 0, .string ⟨#[]⟩, i64 0, i64 0] 45)) := ((Below.refl _ w).alloc (Nat.le_refl _) _).alloc (by simp) _
  have B1 := Blk.new (w.alloc (.cells #[i64 3, .string s] 62)) 45 #[i64 0, .string ⟨#[]⟩, i64 0, i64 0]
  rw [World.size_alloc] at B1
  have HB1 := Lib.hid B1
  have HB0 := Lib.hid hB0
  clear B1 hB0
  by_cases h : 12 < s.size
  · have h' : (12 : Int) < (s.size : Int) := by omega
    rw [if_pos h]
    clear h
    unfold tokV
    go_enter Tryd.func21, Tryd.ntmps21
    go_wp2_with fail
    refine bodyPost_ret (v := .tuple #[.agg #[i64 0, .string ⟨#[]⟩, i64 0, i64 0], i64 3]) ?_ rfl ⟨rfl, HB0.out⟩
    simp [results, go_sem]
  · have h' : ¬ (12 : Int) < (s.size : Int) := by omega
    rw [if_neg h]
    clear h
    unfold tokV
    have hB1 : Below w.heap.size w ((w.alloc (.cells #[i64 3, .string s] 62)).alloc (.cells #[i64 1, .string s, i64 0, i64 0] 45)) := ((Below.refl _ w).alloc (Nat.le_refl _) _).alloc (by simp) _
    have HB1 := Lib.hid hB1
    clear hB1
    go_enter Tryd.func21, Tryd.ntmps21
    go_wp2_with fail
    refine bodyPost_ret (v := .tuple #[.agg #[i64 1, .string s, i64 0, i64 0], i64 0]) ?_ rfl ⟨rfl, HB1.out⟩
    simp [results, go_sem]

theorem tok_punct (s : ByteArray) (hs : s.size ≤ 8000) (w : World) :
    Calls Tryd.prog 21 #[.agg #[i64 5, .string s]] w fun e w' => e = .returned (tokV (tokenOf 5 s.data.toList)) ∧ Below w.heap.size w w' := by
  have e0 : tokenOf 5 s.data.toList = .ok ⟨3, s, 0, 0⟩ := by
    unfold tokenOf; rw [if_neg (by decide), if_neg (by decide)]
  rw [e0]
  clear e0
  unfold tokV
  have hB1 : Below w.heap.size w ((w.alloc (.cells #[i64 5, .string s] 62)).alloc (.cells #[i64 3, .string s, i64 0, i64 0] 45)) := ((Below.refl _ w).alloc (Nat.le_refl _) _).alloc (by simp) _
  have HB1 := Lib.hid hB1
  clear hB1
  go_enter Tryd.func21, Tryd.ntmps21
  go_wp2_with fail
  refine bodyPost_ret (v := .tuple #[.agg #[i64 3, .string s, i64 0, i64 0], i64 0]) ?_ rfl ⟨rfl, HB1.out⟩
  simp [results, go_sem]

/-- The end of token's walk: the block of the result holds the token. -/
theorem num_lead {l : List UInt8} (h : 1 < l.length) (h0 : l[0]'(by omega) = (48 : UInt8)) : (1 < l.length ∧ l.head?.map (·.toNat) = some 48) := by
  refine ⟨h, ?_⟩
  cases l with
  | nil => simp at h
  | cons c r => simp only [List.getElem_cons_zero] at h0; subst h0; rfl
theorem num_nolead {l : List UInt8} (h : 1 < l.length → l.head?.map (·.toNat) ≠ some 48) : ¬ (1 < l.length ∧ l.head?.map (·.toNat) = some 48) := fun ⟨a, b⟩ => h a b

set_option maxRecDepth 100000 in
set_option maxHeartbeats 2000000 in
theorem tok_num (s : ByteArray) (h0 : s.data.toList ≠ []) (hd : ∀ c ∈ s.data.toList, cls c = 4) (hs : s.size ≤ 8000) (w : World) (hw : Vars w) :
    Calls Tryd.prog 21 #[.agg #[i64 4, .string s]] w fun e w' => e = .returned (tokV (tokenOf 4 s.data.toList)) ∧ Below w.heap.size w w' := by
  have hl : s.data.toList.length = s.size := Array.length_toList
  have hpos : 0 < s.size := by
    rw [← hl]; exact List.length_pos_iff.2 h0
  obtain ⟨z, hz⟩ : ∃ z, num s.data.toList = z := ⟨_, rfl⟩
  have e0 : tokenOf 4 s.data.toList = if 1 < s.size ∧ s[0].toNat = 48 then .error 7 else if 1000000000 < z then .error 3 else .ok ⟨2, ⟨#[]⟩, z, 0⟩ := by
    unfold tokenOf
    rw [if_neg (by decide), if_pos rfl, hl, hz]
    have e : s.data.toList.head?.map (·.toNat) = some s[0].toNat := by
      have hh : s.data.toList.head? = some s[0] := by
        rw [List.head?_eq_getElem?, List.getElem?_eq_getElem (by rw [hl]; exact hpos)]; rfl
      rw [hh]; rfl
    rw [e]
    simp only [Option.some.injEq]
  rw [e0]
  have HE := Lib.hid e0
  clear e0 hl
  have hB0 : Below w.heap.size w ((w.alloc (.cells #[i64 4, .string s] 62)).alloc (.cells #[i64 0, .string ⟨#[]⟩, i64 0, i64 0] 45)) := ((Below.refl _ w).alloc (Nat.le_refl _) _).alloc (by simp) _
  have A1 := (Blk.new w 62 #[i64 4, .string s]).alloc (.cells #[i64 0, .string ⟨#[]⟩, i64 0, i64 0] 45)
  have B1 := Blk.new (w.alloc (.cells #[i64 4, .string s] 62)) 45 #[i64 0, .string ⟨#[]⟩, i64 0, i64 0]
  rw [World.size_alloc] at B1
  obtain ⟨W0, hW0⟩ : ∃ W0, (w.alloc (.cells #[i64 4, .string s] 62)).alloc (.cells #[i64 0, .string ⟨#[]⟩, i64 0, i64 0] 45) = W0 := ⟨_, rfl⟩
  rw [hW0] at hB0 A1 B1
  have a0 : W0.cell? ⟨w.heap.size, 0, none⟩ = some (i64 4) := A1.cell 0
  have a1 : W0.cell? ⟨w.heap.size, 1, none⟩ = some (.string s) := A1.cell 1
  have VW := Lib.hid (hw.up hB0)
  have HA1 := Lib.hid A1
  have HB1 := Lib.hid B1
  have HB0 := Lib.hid hB0
  have HZ := Lib.hid hz
  have HD := Lib.hid hd
  have H0 := Lib.hid h0
  clear A1 B1 hB0 hz hd h0 hw
  by_cases hbig : z < 9223372036854775808
  · have hA := atoi_ok s H0.out HD.out hs (by rw [HZ.out]; exact hbig)
    rw [HZ.out] at hA
    have HA := Lib.hid hA
    clear hA
    by_cases h1 : 1 < s.size
    · have h1' : (1 : Int) < (s.size : Int) := by omega
      by_cases h48 : s[0].toNat = 48
      · have h8 : ((s[0].toNat : Int) == 48) = true := by rw [beq_iff_eq]; omega
        rw [if_pos ⟨h1, h48⟩]
        unfold tokV
        clear h1 h48
        go_enter Tryd.func21, Tryd.ntmps21
        go_wp2_with fail
        refine (HA.out _).mono ?_
        rintro e w1 ⟨rfl, hb1⟩
        have hB1 := HB0.out.trans (hb1.mono HB0.out.size)
        have C1 := HB1.out.up' hb1
        have a0 : w1.cell? ⟨w.heap.size, 0, none⟩ = some (i64 4) := (HA1.out.up' hb1).cell 0
        have a1 : w1.cell? ⟨w.heap.size, 1, none⟩ = some (.string s) := (HA1.out.up' hb1).cell 1
        have b0 : w1.cell? ⟨w.heap.size + 1, 0, none⟩ = some (i64 0) := C1.cell 0
        have b1 : w1.cell? ⟨w.heap.size + 1, 1, none⟩ = some (.string ⟨#[]⟩) := C1.cell 1
        have b2 : w1.cell? ⟨w.heap.size + 1, 2, none⟩ = some (i64 0) := C1.cell 2
        have b3 : w1.cell? ⟨w.heap.size + 1, 3, none⟩ = some (i64 0) := C1.cell 3
        have z0 := C1.frozen 0
        have z1 := C1.frozen 1
        have z2 := C1.frozen 2
        have z3 := C1.frozen 3
        have HC1 := Lib.hid C1
        have HB2 := Lib.hid hB1
        clear C1 hB1 hb1
        go_wp2_with fail
        have M := four (v0 := i64 0) (v1 := .string ⟨#[]⟩) (v2 := i64 0) (v3 := i64 0) HC1.out
        have hB3 := four_below (v0 := i64 0) (v1 := .string ⟨#[]⟩) (v2 := i64 0) (v3 := i64 0) HB2.out (show w.heap.size ≤ w.heap.size + 1 by omega)
        obtain ⟨wf, hwf⟩ : ∃ wf, (((w1.setCell ⟨w.heap.size + 1, 0, none⟩ (i64 0)).setCell ⟨w.heap.size + 1, 1, none⟩ (.string ⟨#[]⟩)).setCell ⟨w.heap.size + 1, 2, none⟩ (i64 0)).setCell ⟨w.heap.size + 1, 3, none⟩ (i64 0) = wf := ⟨_, rfl⟩
        rw [hwf] at M hB3
        rw [hwf]
        have m0 : wf.cell? ⟨w.heap.size + 1, 0, none⟩ = some (i64 0) := M.cell 0
        have m1 : wf.cell? ⟨w.heap.size + 1, 1, none⟩ = some (.string ⟨#[]⟩) := M.cell 1
        have m2 : wf.cell? ⟨w.heap.size + 1, 2, none⟩ = some (i64 0) := M.cell 2
        have m3 : wf.cell? ⟨w.heap.size + 1, 3, none⟩ = some (i64 0) := M.cell 3
        refine bodyPost_ret (v := .tuple #[.agg #[i64 0, .string ⟨#[]⟩, i64 0, i64 0], i64 7]) ?_ rfl ⟨rfl, hB3⟩
        simp [results, go_sem, m0, m1, m2, m3]
      · have h8 : ((s[0].toNat : Int) == 48) = false := by rw [beq_eq_false_iff_ne]; omega
        rw [if_neg (fun h => h48 h.2)]
        clear h1 h48
        by_cases h9 : 1000000000 < z
        · have h9' : (1000000000 : Int) < (z : Int) := by omega
          rw [if_pos h9]
          unfold tokV
          clear h9 hbig
          go_enter Tryd.func21, Tryd.ntmps21
          go_wp2_with fail
          refine (HA.out _).mono ?_
          rintro e w1 ⟨rfl, hb1⟩
          have hB1 := HB0.out.trans (hb1.mono HB0.out.size)
          have C1 := HB1.out.up' hb1
          have a0 : w1.cell? ⟨w.heap.size, 0, none⟩ = some (i64 4) := (HA1.out.up' hb1).cell 0
          have a1 : w1.cell? ⟨w.heap.size, 1, none⟩ = some (.string s) := (HA1.out.up' hb1).cell 1
          have b0 : w1.cell? ⟨w.heap.size + 1, 0, none⟩ = some (i64 0) := C1.cell 0
          have b1 : w1.cell? ⟨w.heap.size + 1, 1, none⟩ = some (.string ⟨#[]⟩) := C1.cell 1
          have b2 : w1.cell? ⟨w.heap.size + 1, 2, none⟩ = some (i64 0) := C1.cell 2
          have b3 : w1.cell? ⟨w.heap.size + 1, 3, none⟩ = some (i64 0) := C1.cell 3
          have z0 := C1.frozen 0
          have z1 := C1.frozen 1
          have z2 := C1.frozen 2
          have z3 := C1.frozen 3
          have HC1 := Lib.hid C1
          have HB2 := Lib.hid hB1
          clear C1 hB1 hb1
          go_wp2_with fail
          have M := four (v0 := i64 0) (v1 := .string ⟨#[]⟩) (v2 := i64 0) (v3 := i64 0) HC1.out
          have hB3 := four_below (v0 := i64 0) (v1 := .string ⟨#[]⟩) (v2 := i64 0) (v3 := i64 0) HB2.out (show w.heap.size ≤ w.heap.size + 1 by omega)
          obtain ⟨wf, hwf⟩ : ∃ wf, (((w1.setCell ⟨w.heap.size + 1, 0, none⟩ (i64 0)).setCell ⟨w.heap.size + 1, 1, none⟩ (.string ⟨#[]⟩)).setCell ⟨w.heap.size + 1, 2, none⟩ (i64 0)).setCell ⟨w.heap.size + 1, 3, none⟩ (i64 0) = wf := ⟨_, rfl⟩
          rw [hwf] at M hB3
          rw [hwf]
          have m0 : wf.cell? ⟨w.heap.size + 1, 0, none⟩ = some (i64 0) := M.cell 0
          have m1 : wf.cell? ⟨w.heap.size + 1, 1, none⟩ = some (.string ⟨#[]⟩) := M.cell 1
          have m2 : wf.cell? ⟨w.heap.size + 1, 2, none⟩ = some (i64 0) := M.cell 2
          have m3 : wf.cell? ⟨w.heap.size + 1, 3, none⟩ = some (i64 0) := M.cell 3
          refine bodyPost_ret (v := .tuple #[.agg #[i64 0, .string ⟨#[]⟩, i64 0, i64 0], i64 3]) ?_ rfl ⟨rfl, hB3⟩
          simp [results, go_sem, m0, m1, m2, m3]
        · have h9' : ¬ (1000000000 : Int) < (z : Int) := by omega
          rw [if_neg h9]
          unfold tokV
          clear h9 hbig
          go_enter Tryd.func21, Tryd.ntmps21
          go_wp2_with fail
          refine (HA.out _).mono ?_
          rintro e w1 ⟨rfl, hb1⟩
          have hB1 := HB0.out.trans (hb1.mono HB0.out.size)
          have C1 := HB1.out.up' hb1
          have a0 : w1.cell? ⟨w.heap.size, 0, none⟩ = some (i64 4) := (HA1.out.up' hb1).cell 0
          have a1 : w1.cell? ⟨w.heap.size, 1, none⟩ = some (.string s) := (HA1.out.up' hb1).cell 1
          have b0 : w1.cell? ⟨w.heap.size + 1, 0, none⟩ = some (i64 0) := C1.cell 0
          have b1 : w1.cell? ⟨w.heap.size + 1, 1, none⟩ = some (.string ⟨#[]⟩) := C1.cell 1
          have b2 : w1.cell? ⟨w.heap.size + 1, 2, none⟩ = some (i64 0) := C1.cell 2
          have b3 : w1.cell? ⟨w.heap.size + 1, 3, none⟩ = some (i64 0) := C1.cell 3
          have z0 := C1.frozen 0
          have z1 := C1.frozen 1
          have z2 := C1.frozen 2
          have z3 := C1.frozen 3
          have HC1 := Lib.hid C1
          have HB2 := Lib.hid hB1
          clear C1 hB1 hb1
          go_wp2_with fail
          have M := four (v0 := i64 2) (v1 := .string ⟨#[]⟩) (v2 := i64 (z : Nat)) (v3 := i64 0) HC1.out
          have hB3 := four_below (v0 := i64 2) (v1 := .string ⟨#[]⟩) (v2 := i64 (z : Nat)) (v3 := i64 0) HB2.out (show w.heap.size ≤ w.heap.size + 1 by omega)
          obtain ⟨wf, hwf⟩ : ∃ wf, (((w1.setCell ⟨w.heap.size + 1, 0, none⟩ (i64 2)).setCell ⟨w.heap.size + 1, 1, none⟩ (.string ⟨#[]⟩)).setCell ⟨w.heap.size + 1, 2, none⟩ (i64 (z : Nat))).setCell ⟨w.heap.size + 1, 3, none⟩ (i64 0) = wf := ⟨_, rfl⟩
          rw [hwf] at M hB3
          rw [hwf]
          have m0 : wf.cell? ⟨w.heap.size + 1, 0, none⟩ = some (i64 2) := M.cell 0
          have m1 : wf.cell? ⟨w.heap.size + 1, 1, none⟩ = some (.string ⟨#[]⟩) := M.cell 1
          have m2 : wf.cell? ⟨w.heap.size + 1, 2, none⟩ = some (i64 (z : Nat)) := M.cell 2
          have m3 : wf.cell? ⟨w.heap.size + 1, 3, none⟩ = some (i64 0) := M.cell 3
          refine bodyPost_ret (v := .tuple #[.agg #[i64 2, .string ⟨#[]⟩, i64 (z : Nat), i64 0], i64 0]) ?_ rfl ⟨rfl, hB3⟩
          simp [results, go_sem, m0, m1, m2, m3]
    · have h1' : ¬ (1 : Int) < (s.size : Int) := by omega
      rw [if_neg (fun h => h1 h.1)]
      clear h1
      by_cases h9 : 1000000000 < z
      · have h9' : (1000000000 : Int) < (z : Int) := by omega
        rw [if_pos h9]
        unfold tokV
        clear h9 hbig
        go_enter Tryd.func21, Tryd.ntmps21
        go_wp2_with fail
        refine (HA.out _).mono ?_
        rintro e w1 ⟨rfl, hb1⟩
        have hB1 := HB0.out.trans (hb1.mono HB0.out.size)
        have C1 := HB1.out.up' hb1
        have a0 : w1.cell? ⟨w.heap.size, 0, none⟩ = some (i64 4) := (HA1.out.up' hb1).cell 0
        have a1 : w1.cell? ⟨w.heap.size, 1, none⟩ = some (.string s) := (HA1.out.up' hb1).cell 1
        have b0 : w1.cell? ⟨w.heap.size + 1, 0, none⟩ = some (i64 0) := C1.cell 0
        have b1 : w1.cell? ⟨w.heap.size + 1, 1, none⟩ = some (.string ⟨#[]⟩) := C1.cell 1
        have b2 : w1.cell? ⟨w.heap.size + 1, 2, none⟩ = some (i64 0) := C1.cell 2
        have b3 : w1.cell? ⟨w.heap.size + 1, 3, none⟩ = some (i64 0) := C1.cell 3
        have z0 := C1.frozen 0
        have z1 := C1.frozen 1
        have z2 := C1.frozen 2
        have z3 := C1.frozen 3
        have HC1 := Lib.hid C1
        have HB2 := Lib.hid hB1
        clear C1 hB1 hb1
        go_wp2_with fail
        have M := four (v0 := i64 0) (v1 := .string ⟨#[]⟩) (v2 := i64 0) (v3 := i64 0) HC1.out
        have hB3 := four_below (v0 := i64 0) (v1 := .string ⟨#[]⟩) (v2 := i64 0) (v3 := i64 0) HB2.out (show w.heap.size ≤ w.heap.size + 1 by omega)
        obtain ⟨wf, hwf⟩ : ∃ wf, (((w1.setCell ⟨w.heap.size + 1, 0, none⟩ (i64 0)).setCell ⟨w.heap.size + 1, 1, none⟩ (.string ⟨#[]⟩)).setCell ⟨w.heap.size + 1, 2, none⟩ (i64 0)).setCell ⟨w.heap.size + 1, 3, none⟩ (i64 0) = wf := ⟨_, rfl⟩
        rw [hwf] at M hB3
        rw [hwf]
        have m0 : wf.cell? ⟨w.heap.size + 1, 0, none⟩ = some (i64 0) := M.cell 0
        have m1 : wf.cell? ⟨w.heap.size + 1, 1, none⟩ = some (.string ⟨#[]⟩) := M.cell 1
        have m2 : wf.cell? ⟨w.heap.size + 1, 2, none⟩ = some (i64 0) := M.cell 2
        have m3 : wf.cell? ⟨w.heap.size + 1, 3, none⟩ = some (i64 0) := M.cell 3
        refine bodyPost_ret (v := .tuple #[.agg #[i64 0, .string ⟨#[]⟩, i64 0, i64 0], i64 3]) ?_ rfl ⟨rfl, hB3⟩
        simp [results, go_sem, m0, m1, m2, m3]
      · have h9' : ¬ (1000000000 : Int) < (z : Int) := by omega
        rw [if_neg h9]
        unfold tokV
        clear h9 hbig
        go_enter Tryd.func21, Tryd.ntmps21
        go_wp2_with fail
        refine (HA.out _).mono ?_
        rintro e w1 ⟨rfl, hb1⟩
        have hB1 := HB0.out.trans (hb1.mono HB0.out.size)
        have C1 := HB1.out.up' hb1
        have a0 : w1.cell? ⟨w.heap.size, 0, none⟩ = some (i64 4) := (HA1.out.up' hb1).cell 0
        have a1 : w1.cell? ⟨w.heap.size, 1, none⟩ = some (.string s) := (HA1.out.up' hb1).cell 1
        have b0 : w1.cell? ⟨w.heap.size + 1, 0, none⟩ = some (i64 0) := C1.cell 0
        have b1 : w1.cell? ⟨w.heap.size + 1, 1, none⟩ = some (.string ⟨#[]⟩) := C1.cell 1
        have b2 : w1.cell? ⟨w.heap.size + 1, 2, none⟩ = some (i64 0) := C1.cell 2
        have b3 : w1.cell? ⟨w.heap.size + 1, 3, none⟩ = some (i64 0) := C1.cell 3
        have z0 := C1.frozen 0
        have z1 := C1.frozen 1
        have z2 := C1.frozen 2
        have z3 := C1.frozen 3
        have HC1 := Lib.hid C1
        have HB2 := Lib.hid hB1
        clear C1 hB1 hb1
        go_wp2_with fail
        have M := four (v0 := i64 2) (v1 := .string ⟨#[]⟩) (v2 := i64 (z : Nat)) (v3 := i64 0) HC1.out
        have hB3 := four_below (v0 := i64 2) (v1 := .string ⟨#[]⟩) (v2 := i64 (z : Nat)) (v3 := i64 0) HB2.out (show w.heap.size ≤ w.heap.size + 1 by omega)
        obtain ⟨wf, hwf⟩ : ∃ wf, (((w1.setCell ⟨w.heap.size + 1, 0, none⟩ (i64 2)).setCell ⟨w.heap.size + 1, 1, none⟩ (.string ⟨#[]⟩)).setCell ⟨w.heap.size + 1, 2, none⟩ (i64 (z : Nat))).setCell ⟨w.heap.size + 1, 3, none⟩ (i64 0) = wf := ⟨_, rfl⟩
        rw [hwf] at M hB3
        rw [hwf]
        have m0 : wf.cell? ⟨w.heap.size + 1, 0, none⟩ = some (i64 2) := M.cell 0
        have m1 : wf.cell? ⟨w.heap.size + 1, 1, none⟩ = some (.string ⟨#[]⟩) := M.cell 1
        have m2 : wf.cell? ⟨w.heap.size + 1, 2, none⟩ = some (i64 (z : Nat)) := M.cell 2
        have m3 : wf.cell? ⟨w.heap.size + 1, 3, none⟩ = some (i64 0) := M.cell 3
        refine bodyPost_ret (v := .tuple #[.agg #[i64 2, .string ⟨#[]⟩, i64 (z : Nat), i64 0], i64 0]) ?_ rfl ⟨rfl, hB3⟩
        simp [results, go_sem, m0, m1, m2, m3]
  · have hA := fun w hw => atoi_range s H0.out HD.out hs (by rw [HZ.out]; exact hbig) w hw
    have HA := Lib.hid hA
    clear hA
    by_cases h1 : 1 < s.size
    · have h1' : (1 : Int) < (s.size : Int) := by omega
      by_cases h48 : s[0].toNat = 48
      · have h8 : ((s[0].toNat : Int) == 48) = true := by rw [beq_iff_eq]; omega
        rw [if_pos ⟨h1, h48⟩]
        unfold tokV
        clear h1 h48
        go_enter Tryd.func21, Tryd.ntmps21
        go_wp2_with fail
        refine (HA.out _ VW.out).mono ?_
        rintro e w1 ⟨⟨zz, tt, NN, rfl⟩, hb1⟩
        have hB1 := HB0.out.trans (hb1.mono HB0.out.size)
        have C1 := HB1.out.up' hb1
        have a0 : w1.cell? ⟨w.heap.size, 0, none⟩ = some (i64 4) := (HA1.out.up' hb1).cell 0
        have a1 : w1.cell? ⟨w.heap.size, 1, none⟩ = some (.string s) := (HA1.out.up' hb1).cell 1
        have b0 : w1.cell? ⟨w.heap.size + 1, 0, none⟩ = some (i64 0) := C1.cell 0
        have b1 : w1.cell? ⟨w.heap.size + 1, 1, none⟩ = some (.string ⟨#[]⟩) := C1.cell 1
        have b2 : w1.cell? ⟨w.heap.size + 1, 2, none⟩ = some (i64 0) := C1.cell 2
        have b3 : w1.cell? ⟨w.heap.size + 1, 3, none⟩ = some (i64 0) := C1.cell 3
        have z0 := C1.frozen 0
        have z1 := C1.frozen 1
        have z2 := C1.frozen 2
        have z3 := C1.frozen 3
        have HC1 := Lib.hid C1
        have HB2 := Lib.hid hB1
        clear C1 hB1 hb1
        go_wp2_with fail
        have M := four (v0 := i64 0) (v1 := .string ⟨#[]⟩) (v2 := i64 0) (v3 := i64 0) HC1.out
        have hB3 := four_below (v0 := i64 0) (v1 := .string ⟨#[]⟩) (v2 := i64 0) (v3 := i64 0) HB2.out (show w.heap.size ≤ w.heap.size + 1 by omega)
        obtain ⟨wf, hwf⟩ : ∃ wf, (((w1.setCell ⟨w.heap.size + 1, 0, none⟩ (i64 0)).setCell ⟨w.heap.size + 1, 1, none⟩ (.string ⟨#[]⟩)).setCell ⟨w.heap.size + 1, 2, none⟩ (i64 0)).setCell ⟨w.heap.size + 1, 3, none⟩ (i64 0) = wf := ⟨_, rfl⟩
        rw [hwf] at M hB3
        rw [hwf]
        have m0 : wf.cell? ⟨w.heap.size + 1, 0, none⟩ = some (i64 0) := M.cell 0
        have m1 : wf.cell? ⟨w.heap.size + 1, 1, none⟩ = some (.string ⟨#[]⟩) := M.cell 1
        have m2 : wf.cell? ⟨w.heap.size + 1, 2, none⟩ = some (i64 0) := M.cell 2
        have m3 : wf.cell? ⟨w.heap.size + 1, 3, none⟩ = some (i64 0) := M.cell 3
        refine bodyPost_ret (v := .tuple #[.agg #[i64 0, .string ⟨#[]⟩, i64 0, i64 0], i64 7]) ?_ rfl ⟨rfl, hB3⟩
        simp [results, go_sem, m0, m1, m2, m3]
      · have h8 : ((s[0].toNat : Int) == 48) = false := by rw [beq_eq_false_iff_ne]; omega
        rw [if_neg (fun h => h48 h.2)]
        clear h1 h48
        rw [if_pos (show 1000000000 < z by omega)]
        unfold tokV
        clear hbig
        go_enter Tryd.func21, Tryd.ntmps21
        go_wp2_with fail
        refine (HA.out _ VW.out).mono ?_
        rintro e w1 ⟨⟨zz, tt, NN, rfl⟩, hb1⟩
        have hB1 := HB0.out.trans (hb1.mono HB0.out.size)
        have C1 := HB1.out.up' hb1
        have a0 : w1.cell? ⟨w.heap.size, 0, none⟩ = some (i64 4) := (HA1.out.up' hb1).cell 0
        have a1 : w1.cell? ⟨w.heap.size, 1, none⟩ = some (.string s) := (HA1.out.up' hb1).cell 1
        have b0 : w1.cell? ⟨w.heap.size + 1, 0, none⟩ = some (i64 0) := C1.cell 0
        have b1 : w1.cell? ⟨w.heap.size + 1, 1, none⟩ = some (.string ⟨#[]⟩) := C1.cell 1
        have b2 : w1.cell? ⟨w.heap.size + 1, 2, none⟩ = some (i64 0) := C1.cell 2
        have b3 : w1.cell? ⟨w.heap.size + 1, 3, none⟩ = some (i64 0) := C1.cell 3
        have z0 := C1.frozen 0
        have z1 := C1.frozen 1
        have z2 := C1.frozen 2
        have z3 := C1.frozen 3
        have HC1 := Lib.hid C1
        have HB2 := Lib.hid hB1
        clear C1 hB1 hb1
        go_wp2_with fail
        have M := four (v0 := i64 0) (v1 := .string ⟨#[]⟩) (v2 := i64 0) (v3 := i64 0) HC1.out
        have hB3 := four_below (v0 := i64 0) (v1 := .string ⟨#[]⟩) (v2 := i64 0) (v3 := i64 0) HB2.out (show w.heap.size ≤ w.heap.size + 1 by omega)
        obtain ⟨wf, hwf⟩ : ∃ wf, (((w1.setCell ⟨w.heap.size + 1, 0, none⟩ (i64 0)).setCell ⟨w.heap.size + 1, 1, none⟩ (.string ⟨#[]⟩)).setCell ⟨w.heap.size + 1, 2, none⟩ (i64 0)).setCell ⟨w.heap.size + 1, 3, none⟩ (i64 0) = wf := ⟨_, rfl⟩
        rw [hwf] at M hB3
        rw [hwf]
        have m0 : wf.cell? ⟨w.heap.size + 1, 0, none⟩ = some (i64 0) := M.cell 0
        have m1 : wf.cell? ⟨w.heap.size + 1, 1, none⟩ = some (.string ⟨#[]⟩) := M.cell 1
        have m2 : wf.cell? ⟨w.heap.size + 1, 2, none⟩ = some (i64 0) := M.cell 2
        have m3 : wf.cell? ⟨w.heap.size + 1, 3, none⟩ = some (i64 0) := M.cell 3
        refine bodyPost_ret (v := .tuple #[.agg #[i64 0, .string ⟨#[]⟩, i64 0, i64 0], i64 3]) ?_ rfl ⟨rfl, hB3⟩
        simp [results, go_sem, m0, m1, m2, m3]
    · have h1' : ¬ (1 : Int) < (s.size : Int) := by omega
      rw [if_neg (fun h => h1 h.1)]
      clear h1
      rw [if_pos (show 1000000000 < z by omega)]
      unfold tokV
      clear hbig
      go_enter Tryd.func21, Tryd.ntmps21
      go_wp2_with fail
      refine (HA.out _ VW.out).mono ?_
      rintro e w1 ⟨⟨zz, tt, NN, rfl⟩, hb1⟩
      have hB1 := HB0.out.trans (hb1.mono HB0.out.size)
      have C1 := HB1.out.up' hb1
      have a0 : w1.cell? ⟨w.heap.size, 0, none⟩ = some (i64 4) := (HA1.out.up' hb1).cell 0
      have a1 : w1.cell? ⟨w.heap.size, 1, none⟩ = some (.string s) := (HA1.out.up' hb1).cell 1
      have b0 : w1.cell? ⟨w.heap.size + 1, 0, none⟩ = some (i64 0) := C1.cell 0
      have b1 : w1.cell? ⟨w.heap.size + 1, 1, none⟩ = some (.string ⟨#[]⟩) := C1.cell 1
      have b2 : w1.cell? ⟨w.heap.size + 1, 2, none⟩ = some (i64 0) := C1.cell 2
      have b3 : w1.cell? ⟨w.heap.size + 1, 3, none⟩ = some (i64 0) := C1.cell 3
      have z0 := C1.frozen 0
      have z1 := C1.frozen 1
      have z2 := C1.frozen 2
      have z3 := C1.frozen 3
      have HC1 := Lib.hid C1
      have HB2 := Lib.hid hB1
      clear C1 hB1 hb1
      go_wp2_with fail
      have M := four (v0 := i64 0) (v1 := .string ⟨#[]⟩) (v2 := i64 0) (v3 := i64 0) HC1.out
      have hB3 := four_below (v0 := i64 0) (v1 := .string ⟨#[]⟩) (v2 := i64 0) (v3 := i64 0) HB2.out (show w.heap.size ≤ w.heap.size + 1 by omega)
      obtain ⟨wf, hwf⟩ : ∃ wf, (((w1.setCell ⟨w.heap.size + 1, 0, none⟩ (i64 0)).setCell ⟨w.heap.size + 1, 1, none⟩ (.string ⟨#[]⟩)).setCell ⟨w.heap.size + 1, 2, none⟩ (i64 0)).setCell ⟨w.heap.size + 1, 3, none⟩ (i64 0) = wf := ⟨_, rfl⟩
      rw [hwf] at M hB3
      rw [hwf]
      have m0 : wf.cell? ⟨w.heap.size + 1, 0, none⟩ = some (i64 0) := M.cell 0
      have m1 : wf.cell? ⟨w.heap.size + 1, 1, none⟩ = some (.string ⟨#[]⟩) := M.cell 1
      have m2 : wf.cell? ⟨w.heap.size + 1, 2, none⟩ = some (i64 0) := M.cell 2
      have m3 : wf.cell? ⟨w.heap.size + 1, 3, none⟩ = some (i64 0) := M.cell 3
      refine bodyPost_ret (v := .tuple #[.agg #[i64 0, .string ⟨#[]⟩, i64 0, i64 0], i64 3]) ?_ rfl ⟨rfl, hB3⟩
      simp [results, go_sem, m0, m1, m2, m3]

end Go.Proofs.YtbgekgakamincaaDoor.Lx

/- lexer.Lex. -/
namespace Go.Proofs.YtbgekgakamincaaDoor.Lx
open Go.RowKit Go.Shelf
set_option linter.unusedVariables false
attribute [local go_sem] Oper.semAt_some

def decT (t : Tok) : List Value := [i64 (t.kind : Nat), .string t.text, i64 (t.n : Nat), i64 (t.pos : Nat)]
theorem one_decT (a : Tok) : ∀ u ∈ decT a, u.oneCell' = true := by
  intro u hu
  unfold decT at hu
  simp only [List.mem_cons, List.not_mem_nil, or_false] at hu
  rcases hu with rfl | rfl | rfl | rfl <;> rfl
theorem info_tok : (Tryd.prog.info? 45).map (fun i => (i.zero, i.size, i.bytes)) = some (some (.agg #[.int .i64 0, .string ⟨#[]⟩, .int .i64 0, .int .i64 0]), 4, 40) := by kernel_rfl
/-- The tokens ts lie at the slice (A, n, c), in w. -/
def Toks (w : World) (A : Option Addr) (n c : Nat) (ts : List Tok) : Prop := Rd w w.heap.size 4 A n (ts.flatMap decT) ∧ ts.length = n ∧ n ≤ c ∧ c ≤ maxLen
theorem Toks.up {w w' : World} {A : Option Addr} {n c : Nat} {ts : List Tok} (h : Toks w A n c ts) (hb : Below w.heap.size w w') : Toks w' A n c ts := ⟨h.1.up hb, h.2⟩
theorem Toks.nil_ (w : World) : Toks w none 0 0 [] := ⟨Rd.nil_, rfl, Nat.le_refl _, by decide⟩

theorem token_any (k : Nat) (s : ByteArray) (hk : k = 3 ∨ k = 4 ∨ k = 5) (h0 : s.data.toList ≠ []) (hd : k = 4 → ∀ c ∈ s.data.toList, cls c = 4) (hs : s.size ≤ 8000) (w : World) (hw : Vars w) :
    Calls Tryd.prog 21 #[.agg #[i64 (k : Nat), .string s]] w fun e w' => e = .returned (tokV (tokenOf k s.data.toList)) ∧ Below w.heap.size w w' := by
  rcases hk with rfl | rfl | rfl
  · exact tok_name s hs w
  · exact tok_num s h0 (hd rfl) hs w hw
  · exact tok_punct s hs w

theorem spans_in (s : ByteArray) (w : World) :
    CallsIn Fence.wide 4 Tryd.prog 20 #[.string s] w fun e w' => e = .returned (.func (.func 34) #[] #[.pointer (some ⟨w.heap.size, 0, none⟩)]) ∧ w.alloc (.cells #[.string s] 9) = w' := by
  refine callsIn_of_wp Tryd.func20 rfl trivial ?_ rfl
  simp only [Tryd.ntmps20, List.size_toArray, List.length_cons, List.length_nil, Nat.reduceAdd, Nat.reduceSub, Array.replicate_succ, Array.replicate_zero, List.push_toArray, List.append_toArray, List.nil_append, List.cons_append]
  gi_wp2
  go_ret
  exact ⟨rfl, rfl⟩
theorem spans_stops (Bs n₀ : Nat) (s : ByteArray) (hs : s.size ≤ 8000) (w : World) (hBs : Blk w Bs 9 #[.string s]) :
    SeqStopsK Fence.wide 4 Tryd.prog 34 #[.pointer (some ⟨Bs, 0, none⟩)] Sp.enc (Kp n₀ Bs) (fun ys => ys.map (·.1) = spans s.data.toList 0) (fun pre => pre.map (·.1) <+: spans s.data.toList 0) (spans s.data.toList 0).length w :=
  fun l J Jx W hW _ _ hY h0 => spans1_in l Bs n₀ s hs J Jx hY W (hBs.up' hW) h0

/-- Between two rounds. -/
def LI (F : Nat) (s : ByteArray) (pre : List Sp) (W : World) : Prop :=
  ∃ (acc : List Tok) (A : Option Addr) (c : Nat), lexE [] (pre.map (·.1)) = .ok acc ∧ acc.length ≤ 2000 ∧ Blk W F 29 #[.slice none 0 0] ∧ Blk W (F + 1) 30 #[i64 0] ∧ Blk W (F + 2) 3 #[i64 0] ∧
    Blk W (F + 3) 29 #[.slice A acc.length c] ∧ W.ownsRow F 45 4 (.slice A acc.length c) acc.length (acc.flatMap decT) ∧ Blk W (F + 4) 9 #[.string s] ∧ F + 5 ≤ W.heap.size
/-- A round has left. -/
def LX (F : Nat) (co : Code) (pre : List Sp) (W : World) : Prop :=
  co = .ret ∧ ∃ e : Nat × Nat, lexE [] (pre.map (·.1)) = .error e ∧ Blk W F 29 #[.slice none 0 0] ∧ Blk W (F + 1) 30 #[i64 (e.1 : Nat)] ∧ Blk W (F + 2) 3 #[i64 (e.2 : Nat)]
theorem blk_kept {X Y : World} {row : Option Nat} {g : Nat} {t : TypeId} {cs : Array Value} (h : Blk X g t cs) (hg : X.grownBy Y row) (hr : ∀ r, row = some r → ∃ o : Obj, X.heap[r]? = some o ∧ o.isCells = false) : Blk Y g t cs :=
  h.grown hg (fun e => by
    obtain ⟨o, ho, hc⟩ := hr g e.symm
    unfold Blk at h
    rw [h] at ho
    cases ho
    cases hc)
theorem own_kept' {X Y : World} {row : Option Nat} {base size n : Nat} {e : TypeId} {v : Value} {xs : List Value} (h : X.ownsRow base e size v n xs) (hg : X.grownBy Y row) (hr : ∀ r, row = some r → ∃ o : Obj, X.heap[r]? = some o ∧ o.isCells = false) : Y.ownsRow base e size v n xs := by
  refine h.kept hg ?_
  rcases h.2 with ⟨rfl, _⟩ | ⟨g, cap, cur, rfl, _, hgb, _⟩
  · exact .inl rfl
  · refine .inr fun e' => ?_
    obtain ⟨o, ho, hc⟩ := hr g (by simpa [Value.ownBlock] using e'.symm)
    rw [hgb] at ho; cases ho; cases hc
theorem li_own (F : Nat) (s : ByteArray) : Own (LI F s) := by
  rintro pre X Y row ⟨acc, A, c, h1, h2, h3, h4, h5, h6, h7, h8, h9⟩ hg hr
  exact ⟨acc, A, c, h1, h2, blk_kept h3 hg hr, blk_kept h4 hg hr, blk_kept h5 hg hr, blk_kept h6 hg hr, own_kept' h7 hg hr, blk_kept h8 hg hr, Nat.le_trans h9 hg.size⟩
theorem lx_own (F : Nat) (co : Code) : Own (LX F co) := by
  rintro pre X Y row ⟨h0, e, h1, h2, h3, h4⟩ hg hr
  exact ⟨h0, e, h1, blk_kept h2 hg hr, blk_kept h3 hg hr, blk_kept h4 hg hr⟩

theorem own_blk {w : World} {base n s : Nat} {e t : TypeId} {v : Value} {xs : List Value} (k : w.ownsRow base e s v n xs) {B : Nat} {cs : Array Value} (hB : Blk w B t cs) (hne : e ≠ t) : v.ownBlock = none ∨ v.ownBlock ≠ some B := by
  rcases k.2 with ⟨rfl, _⟩ | ⟨g, cap, cur, rfl, _, hgb, _⟩
  · exact .inl rfl
  · refine .inr fun h => ?_
    have e3 : g = B := by simpa [Value.ownBlock] using h
    subst e3
    unfold Blk at hB
    rw [hgb] at hB
    simp at hB
    exact hne hB.2
theorem own_far {w : World} {base n s : Nat} {e t : TypeId} {v : Value} {xs : List Value} (k : w.ownsRow base e s v n xs) {B : Nat} {cs : Array Value} (hB : Blk w B t cs) (hne : e ≠ t) (i : Nat) (u : Value) : (w.setCell ⟨B, i, none⟩ u).ownsRow base e s v n xs :=
  k.kept (row := some B) ⟨rfl, rfl, rfl, by simp [World.setCell], fun j _ hj => Below.heap_setCell w ⟨B, i, none⟩ u j (fun e => hj (by rw [e]))⟩ (own_blk k hB hne)
theorem own_put {w : World} {base n s : Nat} {e : TypeId} {v : Value} {xs : List Value} (k : w.ownsRow base e s v n xs) {D : Nat} {ds : Option (List Deferred)} (hD : w.heap[D]? = some (.deferred ds)) (o : Obj) : (w.putObj D o).ownsRow base e s v n xs :=
  own_kept' k (grownBy_putObj' w D o) (fun r e => by cases e; exact ⟨_, hD, rfl⟩)
theorem own_toks {w : World} {base : Nat} {A : Option Addr} {c : Nat} {ts : List Tok} (k : w.ownsRow base 45 4 (.slice A ts.length c) ts.length (ts.flatMap decT)) : Toks w A ts.length c ts := by
  refine ⟨Rd.of_own k, rfl, ?_⟩
  rcases k.2 with ⟨h, h0⟩ | ⟨g, cap, cur, h, _, _, _, h1, h2, _⟩
  · injection h with _ _ h3
    omega
  · injection h with _ _ h3
    omega

theorem new_ne' {w : World} {a : Addr} {u : Value} (h : w.cell? a = some u) : w.heap.size ≠ a.block := Nat.ne_of_gt (cell_lt h)
theorem own_not {w : World} {base n s : Nat} {e t : TypeId} {v : Value} {xs : List Value} (k : w.ownsRow base e s v n xs) {B : Nat} {cs : Array Value} (hB : Blk w B t cs) (hne : e ≠ t) : v.ownBlock ≠ some B := by
  rcases own_blk k hB hne with h | h
  · rw [h]; simp
  · exact h
theorem own_keeps {w w' : World} {base n s : Nat} {e : TypeId} {v : Value} {xs : List Value} (k : w.ownsRow base e s v n xs) (hg : w.grownBy w' v.ownBlock) : KeepsOthers w w' :=
  KeepsOthers.of_grownBy hg (fun j o hj ho => by
    rcases k.2 with ⟨h, _⟩ | ⟨g, cap, cur, h, _, hgb, _⟩
    · rw [h] at hj; simp [Value.ownBlock] at hj
    · rw [h] at hj
      have e3 : g = j := by simpa [Value.ownBlock] using hj
      subst e3
      rw [hgb] at ho
      cases ho
      rfl)
/-- What Lex hands back. -/
def LexPost (w : World) (r : LexR) (e : Ending) (w' : World) : Prop :=
  ∃ A n c, e = .returned (.tuple #[.slice A n c, i64 (r.err : Nat), i64 (r.pos : Nat)]) ∧ Toks w' A n c r.toks ∧ Below w.heap.size w w'

theorem lx_exit {F : Nat} {V : World} {v0 v1 v2 : Value} (b0 : Blk V F 29 #[v0]) (b1 : Blk V (F + 1) 30 #[v1]) (b2 : Blk V (F + 2) 3 #[v2]) {pre : List Sp} {e p : Nat} (h : lexE [] (pre.map (·.1)) = .error (e, p)) :
    LX F .ret pre (((V.setCell ⟨F, 0, none⟩ (.slice none 0 0)).setCell ⟨F + 1, 0, none⟩ (.int .i64 (e : Int))).setCell ⟨F + 1 + 1, 0, none⟩ (.int .i64 (p : Int))) :=
  ⟨rfl, (e, p), h, ((b0.set_ 0 (.slice none 0 0)).far (p := ⟨F + 1, 0, none⟩) (by simp) (.int .i64 (e : Int))).far (p := ⟨F + 1 + 1, 0, none⟩) (by simp; omega) (.int .i64 (p : Int)),
    ((b1.far (p := ⟨F, 0, none⟩) (by simp) (.slice none 0 0)).set_ 0 (.int .i64 (e : Int))).far (p := ⟨F + 1 + 1, 0, none⟩) (by simp) (.int .i64 (p : Int)),
    ((b2.far (p := ⟨F, 0, none⟩) (by simp) (.slice none 0 0)).far (p := ⟨F + 1, 0, none⟩) (by simp) (.int .i64 (e : Int))).set_ 0 (.int .i64 (p : Int))⟩
theorem three_below {w0 V : World} {F : Nat} {v0 v1 v2 : Value} (h : Below F w0 V) : Below F w0 (((V.setCell ⟨F, 0, none⟩ v0).setCell ⟨F + 1, 0, none⟩ v1).setCell ⟨F + 1 + 1, 0, none⟩ v2) :=
  ((h.setCell (p := ⟨F, 0, none⟩) (Nat.le_refl _) v0).setCell (p := ⟨F + 1, 0, none⟩) (by simp) v1).setCell (p := ⟨F + 1 + 1, 0, none⟩) (by simp; omega) v2
theorem three_keeps {B F : Nat} {W V : World} {v0 v1 v2 : Value} (h : KeepsFrom B W V) : KeepsFrom B W (((V.setCell ⟨F, 0, none⟩ v0).setCell ⟨F + 1, 0, none⟩ v1).setCell ⟨F + 1 + 1, 0, none⟩ v2) :=
  ((h.trans (keepsFrom_set _ _ _)).trans (keepsFrom_set _ _ _)).trans (keepsFrom_set _ _ _)
theorem tokenOf_err {k : Nat} {l : List UInt8} {e : Nat} (h : tokenOf k l = .error e) : e = 3 ∨ e = 7 := by
  unfold tokenOf at h
  split at h
  · split at h
    · injection h with h; exact .inl h.symm
    · cases h
  · split at h
    · split at h
      · injection h with h; exact .inr h.symm
      · split at h
        · injection h with h; exact .inl h.symm
        · cases h
    · cases h
theorem stepS_tok {acc : List Tok} {p k : Nat} {t : ByteArray} (h1 : ¬ (k = 1 ∨ k = 2)) (h0 : k ≠ 0) (hl : acc.length ≠ 2000) : stepS acc ⟨p, k, t⟩ = match tokenOf k t.data.toList with | .error e => .error (e, p) | .ok t => .ok (acc ++ [{ t with pos := p }]) := by
  unfold stepS
  rw [if_neg h1, if_neg h0, if_neg hl]
  all_goals rfl

set_option maxRecDepth 100000 in
set_option maxHeartbeats 2000000 in
theorem lex_in (s : ByteArray) (hs : s.size ≤ maxLen) (w : World) (hw : Vars w) :
    CallsIn Fence.wide 5 Tryd.prog 9 #[.string s] w (LexPost w (LEX s.data.toList)) := by
  unfold maxLen at hs
  have hl : s.data.toList.length = s.size := Array.length_toList
  obtain ⟨W0, hW0⟩ : ∃ W0, ((w.alloc (.cells #[.slice none 0 0] 29)).alloc (.cells #[i64 0] 30)).alloc (.cells #[i64 0] 3) = W0 := ⟨_, rfl⟩
  have hB0 : Below w.heap.size w W0 := by rw [← hW0]; exact (((Below.refl _ w).alloc (Nat.le_refl _) _).alloc (by simp) _).alloc (by simp; omega) _
  have hs0 : W0.heap.size = w.heap.size + 3 := by rw [← hW0]; simp
  have b0 : Blk W0 w.heap.size 29 #[.slice none 0 0] := by rw [← hW0]; exact ((Blk.new w _ _).alloc _).alloc _
  have b1 : Blk W0 (w.heap.size + 1) 30 #[i64 0] := by
    have := (Blk.new (w.alloc (.cells #[.slice none 0 0] 29)) 30 #[i64 0]).alloc (.cells #[i64 0] 3)
    rw [World.size_alloc] at this
    rw [← hW0]; exact this
  have b2 : Blk W0 (w.heap.size + 2) 3 #[i64 0] := by
    have := Blk.new ((w.alloc (.cells #[.slice none 0 0] 29)).alloc (.cells #[i64 0] 30)) 3 #[i64 0]
    rw [World.size_alloc, World.size_alloc] at this
    rw [← hW0]; exact this
  have B0 := Lib.hid b0
  have B1 := Lib.hid b1
  have B2 := Lib.hid b2
  have k0 : W0.cell? ⟨w.heap.size, 0, none⟩ = some (.slice none 0 0) := b0.cell 0
  have k1 : W0.cell? ⟨w.heap.size + 1, 0, none⟩ = some (i64 0) := b1.cell 0
  have k2 : W0.cell? ⟨w.heap.size + 1 + 1, 0, none⟩ = some (i64 0) := b2.cell 0
  have y0 : W0.frozen? ⟨w.heap.size, 0, none⟩ = false := b0.frozen 0
  have y1 : W0.frozen? ⟨w.heap.size + 1, 0, none⟩ = false := b1.frozen 0
  have y2 : W0.frozen? ⟨w.heap.size + 1 + 1, 0, none⟩ = false := b2.frozen 0
  clear b0 b1 b2
  by_cases hbig : 8000 < s.size
  · have hb' : (8000 : Int) < (s.size : Int) := by omega
    have he : LEX s.data.toList = ⟨[], 2, 0⟩ := by unfold LEX; rw [if_pos (by rw [hl]; exact hbig)]
    rw [he]
    clear he hl
    refine callsIn_of_wp_marks Tryd.func9 rfl trivial ?_ rfl
    simp only [Tryd.ntmps9, List.size_toArray, List.length_cons, List.length_nil, Nat.reduceAdd, Nat.reduceSub, Array.replicate_succ, Array.replicate_zero, List.push_toArray, List.append_toArray, List.nil_append, List.cons_append]
    gi_wp2_with fail
    have M0 := ((B0.out.set_ 0 (.slice none 0 0)).far (p := ⟨w.heap.size + 1, 0, none⟩) (by simp) (.int .i64 2)).far (p := ⟨w.heap.size + 2, 0, none⟩) (by simp) (.int .i64 0)
    have M1 := ((B1.out.far (p := ⟨w.heap.size, 0, none⟩) (by simp) (.slice none 0 0)).set_ 0 (.int .i64 2)).far (p := ⟨w.heap.size + 2, 0, none⟩) (by simp) (.int .i64 0)
    have M2 := ((B2.out.far (p := ⟨w.heap.size, 0, none⟩) (by simp) (.slice none 0 0)).far (p := ⟨w.heap.size + 1, 0, none⟩) (by simp) (.int .i64 2)).set_ 0 (.int .i64 0)
    have hB3 := ((hB0.setCell (p := ⟨w.heap.size, 0, none⟩) (Nat.le_refl _) (.slice none 0 0)).setCell (p := ⟨w.heap.size + 1, 0, none⟩) (by simp) (.int .i64 2)).setCell (p := ⟨w.heap.size + 2, 0, none⟩) (by simp) (.int .i64 0)
    obtain ⟨wf, hwf⟩ : ∃ wf, ((W0.setCell ⟨w.heap.size, 0, none⟩ (.slice none 0 0)).setCell ⟨w.heap.size + 1, 0, none⟩ (.int .i64 2)).setCell ⟨w.heap.size + 1 + 1, 0, none⟩ (.int .i64 0) = wf := ⟨_, rfl⟩
    rw [hwf]
    replace M0 : Blk wf w.heap.size 29 #[.slice none 0 0] := by rw [← hwf]; exact M0
    replace M1 : Blk wf (w.heap.size + 1) 30 #[.int .i64 2] := by rw [← hwf]; exact M1
    replace M2 : Blk wf (w.heap.size + 2) 3 #[.int .i64 0] := by rw [← hwf]; exact M2
    replace hB3 : Below w.heap.size w wf := by rw [← hwf]; exact hB3
    have m0 : wf.cell? ⟨w.heap.size, 0, none⟩ = some (.slice none 0 0) := M0.cell 0
    have m1 : wf.cell? ⟨w.heap.size + 1, 0, none⟩ = some (.int .i64 2) := M1.cell 0
    have m2 : wf.cell? ⟨w.heap.size + 1 + 1, 0, none⟩ = some (.int .i64 0) := M2.cell 0
    refine ⟨.tuple #[.slice none 0 0, i64 2, i64 0], ?_, none, 0, 0, rfl, Toks.nil_ _, hB3⟩
    simp [results, Tryd.f9, go_sem, m0, m1, m2]
  · have hb' : ¬ (8000 : Int) < (s.size : Int) := by omega
    have he : LEX s.data.toList = resOf (lexE [] (spans s.data.toList 0)) := by unfold LEX; rw [if_neg (by rw [hl]; exact hbig)]
    rw [he]
    clear he hl k0 k1 k2 y0 y1 y2
    refine callsIn_of_wp_marks Tryd.func9 rfl trivial ?_ rfl
    simp only [Tryd.ntmps9, List.size_toArray, List.length_cons, List.length_nil, Nat.reduceAdd, Nat.reduceSub, Array.replicate_succ, Array.replicate_zero, List.push_toArray, List.append_toArray, List.nil_append, List.cons_append]
    gi_wp2_with fail
    refine ⟨trivial, ?_⟩
    refine (spans_in _ _).mono ?_
    rintro e w' ⟨rfl, rfl⟩
    gi_wp2_with fail
    have b0 := (B0.out.alloc (.cells #[.slice none 0 0] 29)).alloc (.cells #[.string s] 9)
    have b1 := (B1.out.alloc (.cells #[.slice none 0 0] 29)).alloc (.cells #[.string s] 9)
    have b2 := (B2.out.alloc (.cells #[.slice none 0 0] 29)).alloc (.cells #[.string s] 9)
    have b3 := (Blk.new W0 29 #[.slice none 0 0]).alloc (.cells #[.string s] 9)
    have b4 := Blk.new (W0.alloc (.cells #[.slice none 0 0] 29)) 9 #[.string s]
    rw [World.size_alloc] at b4
    rw [hs0] at b3 b4
    have hBN : Below w.heap.size w ((W0.alloc (.cells #[.slice none 0 0] 29)).alloc (.cells #[.string s] 9)) := (hB0.alloc (by omega) _).alloc (by simp; omega) _
    have hLI0 : LI w.heap.size s [] ((W0.alloc (.cells #[.slice none 0 0] 29)).alloc (.cells #[.string s] 9)) :=
      ⟨[], none, 0, rfl, by simp, b0, b1, b2, b3, ⟨rfl, .inl ⟨rfl, rfl⟩⟩, b4, by simp; omega⟩
    generalize hWL : (W0.alloc (.cells #[.slice none 0 0] 29)).alloc (.cells #[.string s] 9) = WL at *
    have hsL : WL.heap.size = w.heap.size + 5 := by rw [← hWL]; simp; omega
    clear hWL
    refine wpIn_rangeFunc_ownH (n := 5) (F := Fence.wide) rfl (by decide) (gf := 34) (lb := #[.pointer (some ⟨w.heap.size + 3 + 1, 0, none⟩)]) rfl trivial (enters_of Tryd.func34 (by kernel_rfl) rfl)
      (spans_stops (w.heap.size + 3 + 1) w.heap.size s (by omega) WL b4) (fun h k => h.trans k) (fun W l o o' hl ho hc hw => ⟨belowK_b (w := WL) (by omega) W l o o' hl ho hc hw, World.putObj_heap_other (by omega)⟩) (Below.refl _ _) (fun _ => rfl)
      (fun pre W => LI w.heap.size s pre W ∧ Below w.heap.size w W)
      (fun c pre W => LX w.heap.size c pre W ∧ Below w.heap.size w W)
      (OwnFrom.and (Own.from (li_own _ _) _) (ownFrom_below (Nat.le_refl _) (by omega)))
      (fun c => OwnFrom.and (Own.from (lx_own _ _) _) (ownFrom_below (Nat.le_refl _) (by omega)))
      ⟨hLI0, hBN⟩
      (fun x a' W => ∃ Bx, w.heap.size + 5 ≤ Bx ∧ Blk W Bx 62 #[i64 (x.1.cls : Nat), .string x.1.text] ∧ a' = { tmps := #[.string s, undef, .pointer (some ⟨w.heap.size, 0, none⟩), .pointer (some ⟨w.heap.size + 1, 0, none⟩), .pointer (some ⟨w.heap.size + 1 + 1, 0, none⟩), .pointer (some ⟨w.heap.size + 3, 0, none⟩), i64 (x.1.pos : Nat), .pointer (some ⟨Bx, 0, none⟩), undef, undef, .string s, i64 (s.size : Nat), .bool false, .string s, .func (.func 34) #[] #[.pointer (some ⟨w.heap.size + 3 + 1, 0, none⟩)], i64 (x.1.pos : Nat), .agg #[i64 (x.1.cls : Nat), .string x.1.text], undef, undef, undef, undef, undef, undef, undef, undef, undef, undef, undef, undef, undef, undef, undef, undef, undef, undef, undef, undef, undef, undef, undef, undef, undef, undef, undef, undef, undef, undef, undef, undef, undef, undef, undef], defers := [] })
      (fun x a' => fun _ X Y row ⟨Bx, h1, h2, h3⟩ hg hr => ⟨Bx, h1, blk_kept h2 hg (fun r e => (hr r e).2), h3⟩) ?assign ?body ?done ?stop
    case assign =>
      rintro l pre x W K ⟨hI, hB⟩ hK
      have hsz : w.heap.size + 5 ≤ W.heap.size := by
        obtain ⟨acc, A, c, h1, h2, h3, h4, h5, h6, h7, h8, h9⟩ := hI
        exact h9
      have hb := (Below.refl W.heap.size W).alloc (Nat.le_refl _) (.cells #[i64 (x.1.cls : Nat), .string x.1.text] 62)
      have hI2 : LI w.heap.size s pre (W.alloc (.cells #[i64 (x.1.cls : Nat), .string x.1.text] 62)) := (li_own _ _).alloc _ hI
      have HK := Lib.hid (hK _ _ ((KeepsOthers.alloc W (.cells #[i64 (x.1.cls : Nat), .string x.1.text] 62)).from _) ⟨hb.mono (by omega), hb.block _ (by omega)⟩ ⟨hI2, hB.alloc hB.size _⟩ ⟨W.heap.size, hsz, Blk.new W _ _, rfl⟩)
      clear hK hI hI2 hb
      simp only [Sp.enc]
      gi_wp2_with fail
      exact HK.out
    case body =>
      rintro l pre ⟨⟨pos, k, text⟩, ok⟩ a' W _ _ ⟨⟨acc, A, c, h1, h2, h3, h4, h5, h6, h7, h8, h9⟩, hB⟩ ⟨Bx, hBx, hX, rfl⟩ _
      dsimp only at hX
      have HS : Hid (lexE [] ((pre ++ [(⟨⟨pos, k, text⟩, ok⟩ : Sp)]).map (·.1)) = stepS acc ⟨pos, k, text⟩) := Lib.hid (by rw [List.map_append]; exact lexE_snoc _ _ _ _ h1)
      have okx := Lib.hid ok
      have x0 : W.cell? ⟨Bx, 0, none⟩ = some (i64 (k : Nat)) := hX.cell 0
      have x1 : W.cell? ⟨Bx, 1, none⟩ = some (.string text) := hX.cell 1
      have o3 : W.cell? ⟨w.heap.size + 3, 0, none⟩ = some (.slice A acc.length c) := h6.cell 0
      have p0 : W.cell? ⟨w.heap.size, 0, none⟩ = some (.slice none 0 0) := h3.cell 0
      have p1 : W.cell? ⟨w.heap.size + 1, 0, none⟩ = some (i64 0) := h4.cell 0
      have p2 : W.cell? ⟨w.heap.size + 1 + 1, 0, none⟩ = some (i64 0) := h5.cell 0
      have q0 := h3.frozen 0
      have q1 := h4.frozen 0
      have q2 : W.frozen? ⟨w.heap.size + 1 + 1, 0, none⟩ = false := h5.frozen 0
      have H3 := Lib.hid h3
      have H4 := Lib.hid h4
      have H5 := Lib.hid h5
      have H6 := Lib.hid h6
      have H7 := Lib.hid h7
      have H8 := Lib.hid h8
      have HB := Lib.hid hB
      have HX := Lib.hid hX
      clear h1 h3 h4 h5 h6 h7 h8 hX
      by_cases k1 : k = 1 ∨ k = 2
      · have hst : stepS acc ⟨pos, k, text⟩ = .ok acc := by unfold stepS; rw [if_pos k1]
        have HL : Hid (LI w.heap.size s (pre ++ [(⟨⟨pos, k, text⟩, ok⟩ : Sp)]) W) := Lib.hid ⟨acc, A, c, by rw [HS.out, hst], h2, H3.out, H4.out, H5.out, H6.out, H7.out, H8.out, h9⟩
        clear hst
        rcases k1 with rfl | rfl
        all_goals
          gi_wp2_with fail
          exact ⟨KeepsFrom.refl _ _, Kp.refl _ _ _, HL.out, HB.out⟩
      · have e1 : ((k : Int) == 1) = false := by rw [beq_eq_false_iff_ne]; omega
        have e2 : ((k : Int) == 2) = false := by rw [beq_eq_false_iff_ne]; omega
        by_cases k0 : k = 0
        · have hst : stepS acc ⟨pos, k, text⟩ = .error (7, pos) := by unfold stepS; rw [if_neg k1, if_pos k0]
          have HL := Lib.hid (HS.out.trans hst)
          have e0 : ((k : Int) == 0) = true := by rw [beq_iff_eq]; omega
          clear hst k0 k1
          gi_wp2_with fail
          exact ⟨three_keeps (KeepsFrom.refl _ _), lx_exit (e := 7) H3.out H4.out H5.out HL.out, three_below HB.out⟩
        · have e0 : ((k : Int) == 0) = false := by rw [beq_eq_false_iff_ne]; omega
          by_cases hfull : acc.length = 2000
          · have hst : stepS acc ⟨pos, k, text⟩ = .error (2, pos) := by unfold stepS; rw [if_neg k1, if_neg k0, if_pos hfull]
            have HL := Lib.hid (HS.out.trans hst)
            have ef : ((acc.length : Int) == 2000) = true := by rw [beq_iff_eq]; omega
            clear hst k0 k1 hfull
            gi_wp2_with fail
            exact ⟨three_keeps (KeepsFrom.refl _ _), lx_exit (e := 2) H3.out H4.out H5.out HL.out, three_below HB.out⟩
          · have ef : ((acc.length : Int) == 2000) = false := by rw [beq_eq_false_iff_ne]; omega
            have hst := stepS_tok (acc := acc) (p := pos) (k := k) (t := text) k1 k0 hfull
            have hT := token_any k text (by have h5 : k ≤ 5 := ok.1; omega) ok.2.1 ok.2.2.1 ok.2.2.2.1 W (hw.up HB.out)
            have hS2 := HS.out.trans hst
            obtain ⟨r, hr⟩ : ∃ r, tokenOf k text.data.toList = r := ⟨_, rfl⟩
            rw [hr] at hT hS2
            have HTE := Lib.hid (fun e he => tokenOf_err (k := k) (l := text.data.toList) (e := e) (hr.trans he))
            have hlt2 : acc.length < 2000 := by omega
            clear k1 k0 hst hr hfull
            cases r with
            | error er =>
              have her := HTE.out er rfl
              have en : ((er : Int) != 0) = true := by rw [bne_iff_ne]; omega
              simp only [tokV] at hT
              have HT := Lib.hid hT
              have HL := Lib.hid hS2
              clear hT hS2 her HTE
              gi_wp2_with fail
              refine ⟨trivial, ?_⟩
              refine (CallsIn.inRound l (callsIn_wide.2 HT.out)).mono ?_
              rintro e w1 ⟨rfl, hb1⟩
              have B3 := Lib.hid (H3.out.up' hb1)
              have B4 := Lib.hid (H4.out.up' hb1)
              have B5 := Lib.hid (H5.out.up' hb1)
              have p0 : w1.cell? ⟨w.heap.size, 0, none⟩ = some (.slice none 0 0) := (H3.out.up' hb1).cell 0
              have p1 : w1.cell? ⟨w.heap.size + 1, 0, none⟩ = some (i64 0) := (H4.out.up' hb1).cell 0
              have p2 : w1.cell? ⟨w.heap.size + 1 + 1, 0, none⟩ = some (i64 0) := (H5.out.up' hb1).cell 0
              have q0 := (H3.out.up' hb1).frozen 0
              have q1 := (H4.out.up' hb1).frozen 0
              have q2 : w1.frozen? ⟨w.heap.size + 1 + 1, 0, none⟩ = false := (H5.out.up' hb1).frozen 0
              have n0 : w.heap.size < w1.heap.size := cell_lt p0
              have n1 : w.heap.size + 1 < w1.heap.size := cell_lt p1
              have n2 : w.heap.size + 1 + 1 < w1.heap.size := cell_lt p2
              have HB1 := Lib.hid (below_trans' HB.out hb1)
              have HKW := Lib.hid (keepsFrom_below (B := WL.heap.size) hb1)
              clear hb1
              gi_wp2_with fail
              exact ⟨(three_keeps HKW.out).trans ((KeepsOthers.alloc _ _).from _), (lx_own _ _).alloc _ (lx_exit (e := er) B3.out B4.out B5.out HL.out), (three_below HB1.out).alloc (by simp [World.setCell]; omega) _⟩
            | ok t =>
              simp only [tokV] at hT
              have HT := Lib.hid hT
              have HL := Lib.hid hS2
              clear hT hS2 HTE
              gi_wp2_with fail
              refine ⟨trivial, ?_⟩
              refine (CallsIn.inRound l (callsIn_wide.2 HT.out)).mono ?_
              rintro e w1 ⟨rfl, hb1⟩
              have B6 := Lib.hid (H6.out.up' hb1)
              have o3 : w1.cell? ⟨w.heap.size + 3, 0, none⟩ = some (.slice A acc.length c) := B6.out.cell 0
              have q3 : w1.frozen? ⟨w.heap.size + 3, 0, none⟩ = false := B6.out.frozen 0
              have n3 : w.heap.size + 3 < w1.heap.size := cell_lt o3
              have HB1 := Lib.hid (below_trans' HB.out hb1)
              have HKW := Lib.hid (keepsFrom_below (B := WL.heap.size) hb1)
              have R7 := Lib.hid (own_keep H7.out hb1)
              have HBb := Lib.hid hb1
              clear hb1
              obtain ⟨i0, hi, hz0, hz1, hz2⟩ := info_parts info_tok
              obtain ⟨W2, hW2⟩ : ∃ W2, (w1.alloc (.cells #[i64 (t.kind : Nat), .string t.text, i64 (t.n : Nat), i64 (pos : Nat)] 45)).alloc (.cells #[i64 (t.kind : Nat), .string t.text, i64 (t.n : Nat), i64 (pos : Nat)] 45) = W2 := ⟨_, rfl⟩
              have hB12 : Below w1.heap.size w1 W2 := by rw [← hW2]; exact ((Below.refl _ w1).alloc (Nat.le_refl _) _).alloc (by simp) _
              have hs2 : w1.heap.size + 2 ≤ W2.heap.size := by rw [← hW2]; simp
              have R8 := Lib.hid (own_keep R7.out hB12)
              have HRf : Hid (Rd W2 W2.heap.size 4 (some ⟨w1.heap.size + 1, 0, none⟩) 1 (decT { t with pos := pos })) := by
                have h0 := rd_fresh (w1.alloc (.cells #[i64 (t.kind : Nat), .string t.text, i64 (t.n : Nat), i64 (pos : Nat)] 45)) 45 #[i64 (t.kind : Nat), .string t.text, i64 (t.n : Nat), i64 (pos : Nat)] 4 1 (decT { t with pos := pos }) rfl rfl
                rw [hW2, World.size_alloc] at h0
                exact Lib.hid (h0.more (by omega))
              have hKW2 : KeepsFrom WL.heap.size W W2 := by
                rw [← hW2]; exact (HKW.out.trans ((KeepsOthers.alloc _ _).from _)).trans ((KeepsOthers.alloc _ _).from _)
              have HKW2 := Lib.hid hKW2
              have HB2 := Lib.hid (below_trans' HB1.out hB12)
              have HBW2 := Lib.hid (below_trans' HBb.out hB12)
              have hle : acc.length ≤ 2000 := h2
              clear hKW2 hB12
              gi_wp2_with (first
                | (gi_at_builtin; (try rw [hW2]); refine wpListIn_append_rd _ rfl (.tmp 47) (.tmp 49) _ rfl w.heap.size 45 i0 _ 4 40 Tryd.underlying29 hi hz0 hz1 hz2 rfl (by omega) _ acc.length _ rfl R8.out _ (some ⟨w1.heap.size + 1, 0, none⟩) 1 1 _ rfl HRf.out (one_decT _) (by simp only [maxLen]; omega) (by omega) HB2.out.size ?_
                   intro Aa ca w3 hown1 hfm hg1
                   have C6 := (B6.out.up' (below_trans' (Below.refl _ w1) (by rw [← hW2]; exact ((Below.refl _ w1).alloc (Nat.le_refl _) _).alloc (by simp) _) : Below w1.heap.size w1 W2)).grown hg1 (fun e => own_not R8.out (B6.out.up' (by rw [← hW2]; exact ((Below.refl _ w1).alloc (Nat.le_refl _) _).alloc (by simp) _ : Below w1.heap.size w1 W2)) (by decide) e.symm)
                   have o3 : w3.cell? ⟨w.heap.size + 3, 0, none⟩ = some (.slice A acc.length c) := C6.cell 0
                   have q3 : w3.frozen? ⟨w.heap.size + 3, 0, none⟩ = false := C6.frozen 0
                   have HO := Lib.hid hown1
                   have HG : Hid (W2.grownBy w3 (Value.slice A acc.length c).ownBlock) := Lib.hid hg1
                   have HC6 := Lib.hid C6
                   clear hown1 hfm hg1 C6))
              have hlen : (acc ++ [{ t with pos := pos }]).length = acc.length + 1 := by simp
              have hfl : (acc ++ [{ t with pos := pos }]).flatMap decT = acc.flatMap decT ++ decT { t with pos := pos } := by simp
              have hb12 : Below w1.heap.size w1 W2 := by rw [← hW2]; exact ((Below.refl _ w1).alloc (Nat.le_refl _) _).alloc (by simp) _
              have hbW2 := below_trans' HBb.out hb12
              have G3 := (H3.out.up' hbW2).grown HG.out (fun e => own_not R8.out (H3.out.up' hbW2) (by decide) e.symm)
              have G4 := (H4.out.up' hbW2).grown HG.out (fun e => own_not R8.out (H4.out.up' hbW2) (by decide) e.symm)
              have G5 := (H5.out.up' hbW2).grown HG.out (fun e => own_not R8.out (H5.out.up' hbW2) (by decide) e.symm)
              have G8 := (H8.out.up' hbW2).grown HG.out (fun e => own_not R8.out (H8.out.up' hbW2) (by decide) e.symm)
              have hKO : KeepsOthers W2 w3 := own_keeps R8.out HG.out
              have hbF : Below w.heap.size W w3 := own_below R8.out HG.out (hbW2.mono (by omega)) (Nat.le_refl _) HB2.out.size
              have hbT : Below w.heap.size w w3 := HB.out.trans hbF
              have M8 := G8.far (p := ⟨w.heap.size + 3, 0, none⟩) (by simp) (.slice Aa (acc.length + 1) ca)
              refine ⟨(HKW2.out.trans (hKO.from _)).trans (keepsFrom_set _ _ _), ⟨hbF.setCell (p := ⟨w.heap.size + 3, 0, none⟩) (by simp) _, ?_⟩, ⟨acc ++ [{ t with pos := pos }], Aa, ca, HL.out, ?_, ?_, ?_, ?_, ?_, ?_, ?_, ?_⟩, hbT.setCell (p := ⟨w.heap.size + 3, 0, none⟩) (by simp) _⟩
              · have h1 : (w3.setCell ⟨w.heap.size + 3, 0, none⟩ (.slice Aa (acc.length + 1) ca)).heap[w.heap.size + 4]? = some (.cells #[.string s] 9 (0, 0)) := M8
                have h2 : W.heap[w.heap.size + 4]? = some (.cells #[.string s] 9 (0, 0)) := H8.out
                exact h1.trans h2.symm
              · rw [hlen]; omega
              · exact G3.far (p := ⟨w.heap.size + 3, 0, none⟩) (by simp) _
              · exact G4.far (p := ⟨w.heap.size + 3, 0, none⟩) (by simp) _
              · exact G5.far (p := ⟨w.heap.size + 3, 0, none⟩) (by simp) _
              · rw [hlen]; exact HC6.out.set_ 0 _
              · rw [hlen, hfl]; exact own_far HO.out HC6.out (by decide) 0 _
              · exact M8
              · have h1 := hbF.size
                simp only [World.setCell]
                simpa using Nat.le_trans h9 h1
    case done =>
      rintro D ys W hD hys ⟨⟨acc, A, c, h1, h2, h3, h4, h5, h6, h7, h8, h9⟩, hB⟩ hK
      rw [hys] at h1
      have HL1 := Lib.hid h1
      have o3 : W.cell? ⟨w.heap.size + 3, 0, none⟩ = some (.slice A acc.length c) := h6.cell 0
      have q0 := h3.frozen 0
      have q1 := h4.frozen 0
      have q2 : W.frozen? ⟨w.heap.size + 1 + 1, 0, none⟩ = false := h5.frozen 0
      have p0 : W.cell? ⟨w.heap.size, 0, none⟩ = some (.slice none 0 0) := h3.cell 0
      have p1 : W.cell? ⟨w.heap.size + 1, 0, none⟩ = some (i64 0) := h4.cell 0
      have p2 : W.cell? ⟨w.heap.size + 1 + 1, 0, none⟩ = some (i64 0) := h5.cell 0
      have H3 := Lib.hid h3
      have H4 := Lib.hid h4
      have H5 := Lib.hid h5
      have H7 := Lib.hid h7
      clear h1 h3 h4 h5 h6 h7 h8 hys
      gi_wp2_with fail
      have M0 := ((H3.out.set_ 0 (.slice A acc.length c)).far (p := ⟨w.heap.size + 1, 0, none⟩) (by simp) (.int .i64 0)).far (p := ⟨w.heap.size + 2, 0, none⟩) (by simp) (.int .i64 0)
      have M1 := ((H4.out.far (p := ⟨w.heap.size, 0, none⟩) (by simp) (.slice A acc.length c)).set_ 0 (.int .i64 0)).far (p := ⟨w.heap.size + 2, 0, none⟩) (by simp) (.int .i64 0)
      have M2 := ((H5.out.far (p := ⟨w.heap.size, 0, none⟩) (by simp) (.slice A acc.length c)).far (p := ⟨w.heap.size + 1, 0, none⟩) (by simp) (.int .i64 0)).set_ 0 (.int .i64 0)
      have hB3 := ((hB.setCell (p := ⟨w.heap.size, 0, none⟩) (Nat.le_refl _) (.slice A acc.length c)).setCell (p := ⟨w.heap.size + 1, 0, none⟩) (by simp) (.int .i64 0)).setCell (p := ⟨w.heap.size + 2, 0, none⟩) (by simp) (.int .i64 0)
      have K3 := (((KeepsOthers.setCell W ⟨w.heap.size, 0, none⟩ (.slice A acc.length c)).trans (KeepsOthers.setCell _ ⟨w.heap.size + 1, 0, none⟩ (.int .i64 0))).trans (KeepsOthers.setCell _ ⟨w.heap.size + 2, 0, none⟩ (.int .i64 0))).same D _ hK rfl
      have R1 := own_far H7.out H3.out (by decide) 0 (.slice A acc.length c)
      have R2 := own_far R1 (H4.out.far (p := ⟨w.heap.size, 0, none⟩) (by simp) (.slice A acc.length c)) (by decide) 0 (.int .i64 0)
      have R3 := own_far R2 ((H5.out.far (p := ⟨w.heap.size, 0, none⟩) (by simp) (.slice A acc.length c)).far (p := ⟨w.heap.size + 1, 0, none⟩) (by simp) (.int .i64 0)) (by decide) 0 (.int .i64 0)
      obtain ⟨wf, hwf⟩ : ∃ wf, ((W.setCell ⟨w.heap.size, 0, none⟩ (.slice A acc.length c)).setCell ⟨w.heap.size + 1, 0, none⟩ (.int .i64 0)).setCell ⟨w.heap.size + 1 + 1, 0, none⟩ (.int .i64 0) = wf := ⟨_, rfl⟩
      rw [hwf]
      replace M0 : Blk wf w.heap.size 29 #[.slice A acc.length c] := by rw [← hwf]; exact M0
      replace M1 : Blk wf (w.heap.size + 1) 30 #[.int .i64 0] := by rw [← hwf]; exact M1
      replace M2 : Blk wf (w.heap.size + 2) 3 #[.int .i64 0] := by rw [← hwf]; exact M2
      replace hB3 : Below w.heap.size w wf := by rw [← hwf]; exact hB3
      replace R3 : wf.ownsRow w.heap.size 45 4 (.slice A acc.length c) acc.length (acc.flatMap decT) := by rw [← hwf]; exact R3
      replace K3 : wf.heap[D]? = some (.deferred (some [])) := by rw [← hwf]; exact K3
      refine ⟨by simp, .inl ⟨_, _, rfl, run_takeDeferred K3, ?_⟩⟩
      have m0 : (wf.putObj D (.deferred none)).cell? ⟨w.heap.size, 0, none⟩ = some (.slice A acc.length c) := cell_kept (M0.cell 0) (grownBy_putObj' _ D (.deferred none)) (fun r e => by cases e; exact ⟨_, K3, rfl⟩)
      have m1 : (wf.putObj D (.deferred none)).cell? ⟨w.heap.size + 1, 0, none⟩ = some (.int .i64 0) := cell_kept (M1.cell 0) (grownBy_putObj' _ D (.deferred none)) (fun r e => by cases e; exact ⟨_, K3, rfl⟩)
      have m2 : (wf.putObj D (.deferred none)).cell? ⟨w.heap.size + 1 + 1, 0, none⟩ = some (.int .i64 0) := cell_kept (M2.cell 0) (grownBy_putObj' _ D (.deferred none)) (fun r e => by cases e; exact ⟨_, K3, rfl⟩)
      refine ⟨.tuple #[.slice A acc.length c, i64 0, i64 0], ?_, A, acc.length, c, by rw [HL1.out]; rfl, by rw [HL1.out]; exact own_toks (own_put R3 K3 _), hB3.trans (belowK_b (w := WL) (by omega) _ D _ _ hD K3 rfl rfl)⟩
      simp [results, Tryd.f9, go_sem, m0, m1, m2]
    case stop =>
      rintro D co pre W hD hpre ⟨⟨rfl, e, h1, h2, h3, h4⟩, hB⟩ K3
      obtain ⟨rest, hrest⟩ := hpre
      have HL1 : Hid (lexE [] (spans s.data.toList 0) = .error e) := Lib.hid (by rw [← hrest, lexE_append, h1])
      clear hrest h1
      gi_wp2_with fail
      refine ⟨by simp, .inl ⟨_, _, rfl, run_takeDeferred K3, ?_⟩⟩
      have m0 : (W.putObj D (.deferred none)).cell? ⟨w.heap.size, 0, none⟩ = some (.slice none 0 0) := cell_kept (h2.cell 0) (grownBy_putObj' _ D (.deferred none)) (fun r e => by cases e; exact ⟨_, K3, rfl⟩)
      have m1 : (W.putObj D (.deferred none)).cell? ⟨w.heap.size + 1, 0, none⟩ = some (i64 (e.1 : Nat)) := cell_kept (h3.cell 0) (grownBy_putObj' _ D (.deferred none)) (fun r e => by cases e; exact ⟨_, K3, rfl⟩)
      have m2 : (W.putObj D (.deferred none)).cell? ⟨w.heap.size + 1 + 1, 0, none⟩ = some (i64 (e.2 : Nat)) := cell_kept (h4.cell 0) (grownBy_putObj' _ D (.deferred none)) (fun r e => by cases e; exact ⟨_, K3, rfl⟩)
      refine ⟨.tuple #[.slice none 0 0, i64 (e.1 : Nat), i64 (e.2 : Nat)], ?_, none, 0, 0, by rw [HL1.out]; rfl, by rw [HL1.out]; exact Toks.nil_ _, hB.trans (belowK_b (w := WL) (by omega) _ D _ _ hD K3 rfl rfl)⟩
      simp [results, Tryd.f9, go_sem, m0, m1, m2]
theorem lex_val (s : ByteArray) (hs : s.size ≤ maxLen) (w : World) (hw : Vars w) :
    Calls Tryd.prog 9 #[.string s] w (LexPost w (LEX s.data.toList)) := callsIn_wide.1 (lex_in s hs w hw)
end Go.Proofs.YtbgekgakamincaaDoor.Lx
