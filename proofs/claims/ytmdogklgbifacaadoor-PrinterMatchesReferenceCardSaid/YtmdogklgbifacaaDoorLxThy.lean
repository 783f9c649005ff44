/- The lexer in plain Lean: how texts that are joined are cut into spans and tokens. -/
import Derived.Test.YtmdogklgbifacaaDoorLxRef2
namespace Go.Proofs.YtmdogklgbifacaaDoor.Lx
set_option linter.unusedVariables false

/-- What one list of tokens yields, then another. -/
def catT (a : Except (Nat × Nat) (List Tok)) (b : Nat → Except (Nat × Nat) (List Tok)) : Except (Nat × Nat) (List Tok) :=
  match a with
  | .error e => .error e
  | .ok x => match b x.length with
    | .error e => .error e
    | .ok y => .ok (x ++ y)
/-- The tokens of one span, n tokens being there. -/
def tokS (n : Nat) (x : Span) : Except (Nat × Nat) (List Tok) :=
  if x.cls = 1 ∨ x.cls = 2 then .ok []
  else if x.cls = 0 then .error (7, x.pos)
  else if n = 2000 then .error (2, x.pos)
  else match tokenOf x.cls x.text.data.toList with
    | .error e => .error (e, x.pos)
    | .ok t => .ok [{ t with pos := x.pos }]
def lexT (n : Nat) : List Span → Except (Nat × Nat) (List Tok)
  | [] => .ok []
  | x :: xs => catT (tokS n x) (fun k => lexT (n + k) xs)
theorem catT_ok {x : List Tok} {b : Nat → Except (Nat × Nat) (List Tok)} : catT (.ok x) b = match b x.length with | .error e => .error e | .ok y => .ok (x ++ y) := rfl
theorem catT_err {e : Nat × Nat} {b : Nat → Except (Nat × Nat) (List Tok)} : catT (.error e) b = .error e := rfl
theorem catT_nil {a : Except (Nat × Nat) (List Tok)} : catT a (fun _ => .ok []) = a := by
  cases a with
  | error e => rfl
  | ok x => rw [catT_ok]; simp
theorem catT_none {b : Nat → Except (Nat × Nat) (List Tok)} : catT (.ok []) b = b 0 := by
  rw [catT_ok]
  show (match b 0 with | .error e => _ | .ok y => _) = _
  cases b 0 <;> rfl
theorem catT_assoc {a : Except (Nat × Nat) (List Tok)} {b c : Nat → Except (Nat × Nat) (List Tok)} : catT (catT a b) c = catT a (fun k => catT (b k) (fun j => c (k + j))) := by
  cases a with
  | error e => rfl
  | ok x =>
    rw [catT_ok, catT_ok]
    cases hb : b x.length with
    | error e => rfl
    | ok y =>
      simp only
      rw [catT_ok, List.length_append]
      simp only [catT]
      cases hc : c (x.length + y.length) with
      | error e => rfl
      | ok z => simp [List.append_assoc]
theorem lexT_append : ∀ (xs ys : List Span) (n : Nat), lexT n (xs ++ ys) = catT (lexT n xs) (fun k => lexT (n + k) ys)
  | [], ys, n => by
    show lexT n ys = catT (.ok []) _
    rw [catT_none]
    rfl
  | x :: xs, ys, n => by
    show catT (tokS n x) (fun k => lexT (n + k) (xs ++ ys)) = catT (catT (tokS n x) (fun k => lexT (n + k) xs)) _
    rw [catT_assoc]
    congr 1
    funext k
    rw [lexT_append xs ys (n + k)]
    congr 1
    funext j
    rw [Nat.add_assoc]
theorem stepS_T (acc : List Tok) (x : Span) : stepS acc x = match tokS acc.length x with | .error e => .error e | .ok y => .ok (acc ++ y) := by
  unfold stepS tokS
  split
  · simp
  · split
    · rfl
    · split
      · rfl
      · cases tokenOf x.cls x.text.data.toList <;> rfl
theorem lexE_T : ∀ (xs : List Span) (acc : List Tok), lexE acc xs = match lexT acc.length xs with | .error e => .error e | .ok y => .ok (acc ++ y)
  | [], acc => by simp [lexE, lexT]
  | x :: xs, acc => by
    simp only [lexE]
    rw [stepS_T]
    rw [lexT]
    cases tokS acc.length x with
    | error e => rfl
    | ok y =>
      simp only
      rw [lexE_T xs (acc ++ y), List.length_append, catT_ok]
      cases lexT (acc.length + y.length) xs with
      | error e => rfl
      | ok z => simp [List.append_assoc]
theorem LEX_T (l : List UInt8) (h : l.length ≤ 8000) : LEX l = resOf (lexT 0 (spans l 0)) := by
  have H : lexE [] (spans l 0) = lexT 0 (spans l 0) := by
    rw [lexE_T, List.length_nil]
    cases lexT 0 (spans l 0) <;> rfl
  unfold LEX
  rw [if_neg (by omega), H]

/-- The offsets of tokens moved. -/
def mv (d : Nat) (ts : List Tok) : List Tok := ts.map fun t => { t with pos := t.pos + d }
def mvS (d : Nat) (xs : List Span) : List Span := xs.map fun x => { x with pos := x.pos + d }
def mvE (d : Nat) : Except (Nat × Nat) (List Tok) → Except (Nat × Nat) (List Tok)
  | .error e => .error (e.1, e.2 + d)
  | .ok ts => .ok (mv d ts)
theorem spans_mv : ∀ (n : Nat) (l : List UInt8) (p d : Nat), l.length ≤ n → spans l (p + d) = mvS d (spans l p)
  | n, [], p, d, _ => by rw [spans_nil, spans_nil]; rfl
  | 0, c :: r, p, d, h => absurd h (by simp)
  | n + 1, c :: r, p, d, h => by
    have h1 := spanLen_pos c r
    rw [spans_cons, spans_cons, show p + d + spanLen (c :: r) = p + spanLen (c :: r) + d by omega, spans_mv n _ _ d (by rw [List.length_drop]; simp only [List.length_cons] at *; omega)]
    rfl
theorem tokS_mv (n d : Nat) (x : Span) : tokS n { x with pos := x.pos + d } = mvE d (tokS n x) := by
  unfold tokS
  dsimp only
  split
  · rfl
  · split
    · rfl
    · split
      · rfl
      · cases tokenOf x.cls x.text.data.toList <;> rfl
theorem catT_mv (d : Nat) (a : Except (Nat × Nat) (List Tok)) (b : Nat → Except (Nat × Nat) (List Tok)) : catT (mvE d a) (fun k => mvE d (b k)) = mvE d (catT a b) := by
  cases a with
  | error e => rfl
  | ok x =>
    have hl : (mv d x).length = x.length := by unfold mv; simp
    show catT (.ok (mv d x)) _ = _
    rw [catT_ok, catT_ok, hl]
    cases b x.length with
    | error e => rfl
    | ok y => simp [mvE, mv]
theorem lexT_mv (d : Nat) : ∀ (xs : List Span) (n : Nat), lexT n (mvS d xs) = mvE d (lexT n xs)
  | [], n => rfl
  | x :: xs, n => by
    show catT (tokS n { x with pos := x.pos + d }) (fun k => lexT (n + k) (mvS d xs)) = mvE d (catT (tokS n x) (fun k => lexT (n + k) xs))
    rw [tokS_mv, ← catT_mv]
    congr 1
    funext k
    exact lexT_mv d xs (n + k)

/-- How many bytes spans have. -/
def spLen (xs : List Span) : Nat := (xs.map fun x => x.text.size).foldr (· + ·) 0
theorem spLen_cons (x : Span) (xs : List Span) : spLen (x :: xs) = x.text.size + spLen xs := rfl

theorem run_take (p : UInt8 → Bool) : ∀ (l : List UInt8) (q : Nat), run p l ≤ q → run p (l.take q) = run p l
  | [], q, _ => by simp [run]
  | c :: r, 0, h => by
    by_cases hc : p c = true
    · have := run_pos (r := r) hc; omega
    · unfold run; rw [List.take_zero, List.takeWhile_cons_of_neg hc]; rfl
  | c :: r, q + 1, h => by
    by_cases hc : p c = true
    · have e : run p (c :: r) = run p r + 1 := by unfold run; rw [List.takeWhile_cons_of_pos hc, List.length_cons]
      have e2 : run p (c :: r.take q) = run p (r.take q) + 1 := by unfold run; rw [List.takeWhile_cons_of_pos hc, List.length_cons]
      rw [List.take_succ_cons, e, e2, run_take p r q (by omega)]
    · unfold run; rw [List.take_succ_cons, List.takeWhile_cons_of_neg hc, List.takeWhile_cons_of_neg hc]
theorem run_append (p : UInt8 → Bool) : ∀ (l m : List UInt8), (run p l < l.length ∨ ∀ d r, m = d :: r → p d = false) → run p (l ++ m) = run p l
  | [], m, h => by
    rcases h with h | h
    · simp [run] at h
    · cases m with
      | nil => rfl
      | cons d r => unfold run; rw [List.nil_append, List.takeWhile_cons_of_neg (by rw [h d r rfl]; decide)]; rfl
  | c :: l, m, h => by
    by_cases hc : p c = true
    · have e : run p (c :: l) = run p l + 1 := by unfold run; rw [List.takeWhile_cons_of_pos hc, List.length_cons]
      have e2 : run p (c :: (l ++ m)) = run p (l ++ m) + 1 := by unfold run; rw [List.takeWhile_cons_of_pos hc, List.length_cons]
      rw [List.cons_append, e, e2, run_append p l m (by rw [e, List.length_cons] at h; rcases h with h | h; exact .inl (by omega); exact .inr h)]
    · unfold run; rw [List.cons_append, List.takeWhile_cons_of_neg hc, List.takeWhile_cons_of_neg hc]
theorem spanLen_take (l : List UInt8) (q : Nat) (h : spanLen l ≤ q) (h0 : 1 ≤ q) : spanLen (l.take q) = spanLen l := by
  cases l with
  | nil => simp
  | cons c r =>
    obtain ⟨q', rfl⟩ : ∃ q', q = q' + 1 := ⟨q - 1, by omega⟩
    rw [List.take_succ_cons]
    simp only [spanLen] at h ⊢
    split
    · rename_i hc; rw [if_pos hc] at h; exact run_take inCom (c :: r) (q' + 1) h
    · rename_i hc; rw [if_neg hc] at h
      split
      · rename_i hc; rw [if_pos hc] at h; exact run_take inNam (c :: r) (q' + 1) h
      · rename_i hc; rw [if_neg hc] at h
        split
        · rename_i hc; rw [if_pos hc] at h; exact run_take inNum (c :: r) (q' + 1) h
        · rfl
/-- Does a byte go on with a span of a class? -/
def ext (k : Nat) (d : UInt8) : Bool := if k = 2 then inCom d else if k = 3 then inNam d else if k = 4 then inNum d else false
theorem spanLen_append (c : UInt8) (r m : List UInt8) (h : spanLen (c :: r) < (c :: r).length ∨ ∀ d t, m = d :: t → ext (cls c) d = false) : spanLen (c :: r ++ m) = spanLen (c :: r) := by
  rw [List.cons_append]
  simp only [spanLen] at h ⊢
  unfold ext at h
  split
  · rename_i hc; simp only [if_pos hc] at h; exact run_append inCom (c :: r) m h
  · rename_i hc; simp only [if_neg hc] at h
    split
    · rename_i hc; simp only [if_pos hc] at h; exact run_append inNam (c :: r) m h
    · rename_i hc; simp only [if_neg hc] at h
      split
      · rename_i hc; simp only [if_pos hc] at h; exact run_append inNum (c :: r) m h
      · rfl

/-- The class of the last span. -/
def lastC (l : List UInt8) : Nat :=
  match l with
  | [] => 1
  | c :: r => if spanLen (c :: r) < (c :: r).length then lastC ((c :: r).drop (spanLen (c :: r))) else cls c
termination_by l.length
decreasing_by
  have := spanLen_pos c r
  simp only [List.length_drop, List.length_cons]
  omega
theorem lastC_nil : lastC [] = 1 := by rw [lastC]
theorem lastC_cons (c : UInt8) (r : List UInt8) : lastC (c :: r) = if spanLen (c :: r) < (c :: r).length then lastC ((c :: r).drop (spanLen (c :: r))) else cls c := by rw [lastC]
/-- JOINED TEXTS, where the second one does not go on with the last span of the first one. -/
theorem spans_append : ∀ (n : Nat) (l m : List UInt8) (p : Nat), l.length ≤ n → (∀ d t, m = d :: t → ext (lastC l) d = false) → spans (l ++ m) p = spans l p ++ spans m (p + l.length)
  | n, [], m, p, _, _ => by rw [spans_nil]; simp
  | 0, c :: r, m, p, h, _ => absurd h (by simp)
  | n + 1, c :: r, m, p, h, hx => by
    have h1 := spanLen_pos c r
    have h2 := spanLen_le (c :: r)
    have hs : spanLen (c :: r ++ m) = spanLen (c :: r) := by
      refine spanLen_append c r m ?_
      rcases Nat.lt_or_ge (spanLen (c :: r)) (c :: r).length with h3 | h3
      · exact .inl h3
      · refine .inr fun d t e => ?_
        have := hx d t e
        rw [lastC_cons, if_neg (by omega)] at this
        exact this
    have ih : spans ((c :: r).drop (spanLen (c :: r)) ++ m) (p + spanLen (c :: r)) = spans ((c :: r).drop (spanLen (c :: r))) (p + spanLen (c :: r)) ++ spans m (p + spanLen (c :: r) + ((c :: r).drop (spanLen (c :: r))).length) := by
      refine spans_append n _ m _ (by rw [List.length_drop]; simp only [List.length_cons] at *; omega) fun d t e => ?_
      rcases Nat.lt_or_ge (spanLen (c :: r)) (c :: r).length with h3 | h3
      · have := hx d t e
        rw [lastC_cons, if_pos h3] at this
        exact this
      · rw [List.drop_of_length_le h3, lastC_nil]; rfl
    have e1 : spans (c :: r ++ m) p = ⟨p, cls c, ⟨((c :: r ++ m).take (spanLen (c :: r ++ m))).toArray⟩⟩ :: spans ((c :: r ++ m).drop (spanLen (c :: r ++ m))) (p + spanLen (c :: r ++ m)) := by
      rw [List.cons_append, spans_cons]
    rw [e1, hs, List.take_append_of_le_length h2, List.drop_append_of_le_length h2, ih, spans_cons, List.cons_append, List.length_drop, show p + spanLen (c :: r) + ((c :: r).length - spanLen (c :: r)) = p + (c :: r).length by omega]
/-- The spans up to a boundary. -/
theorem spans_prefix : ∀ (xs ys : List Span) (l : List UInt8) (p : Nat), spans l p = xs ++ ys → spans (l.take (spLen xs)) p = xs ∧ spans (l.drop (spLen xs)) (p + spLen xs) = ys ∧ spLen xs ≤ l.length
  | [], ys, l, p, h => ⟨by show spans (l.take 0) p = []; rw [List.take_zero, spans_nil], h, Nat.zero_le _⟩
  | x :: xs, ys, [], p, h => by rw [spans_nil] at h; cases h
  | x :: xs, ys, c :: r, p, h => by
    have h1 := spanLen_pos c r
    have h2 := spanLen_le (c :: r)
    rw [spans_cons, List.cons_append] at h
    injection h with hx ht
    have hsz : x.text.size = spanLen (c :: r) := by
      rw [← hx]
      show ((c :: r).take (spanLen (c :: r))).length = _
      rw [List.length_take]; omega
    obtain ⟨i1, i2, i3⟩ := spans_prefix xs ys _ _ ht
    rw [List.length_drop] at i3
    have hle : spLen (x :: xs) ≤ (c :: r).length := by rw [spLen_cons, hsz]; omega
    refine ⟨?_, ?_, hle⟩
    · rw [spLen_cons, hsz]
      obtain ⟨t', e⟩ : ∃ t', (c :: r).take (spanLen (c :: r) + spLen xs) = c :: t' := ⟨r.take (spanLen (c :: r) + spLen xs - 1), by
        rw [show spanLen (c :: r) + spLen xs = (spanLen (c :: r) + spLen xs - 1) + 1 by omega, List.take_succ_cons]; rfl⟩
      have hs : spanLen (c :: t') = spanLen (c :: r) := by rw [← e]; exact spanLen_take _ _ (by omega) (by omega)
      rw [e, spans_cons, hs, ← e, List.take_take, Nat.min_eq_left (by omega), List.drop_take, Nat.add_sub_cancel_left, hx, i1]
    · rw [spLen_cons, hsz, ← List.drop_drop, ← Nat.add_assoc]
      exact i2
end Go.Proofs.YtmdogklgbifacaaDoor.Lx
