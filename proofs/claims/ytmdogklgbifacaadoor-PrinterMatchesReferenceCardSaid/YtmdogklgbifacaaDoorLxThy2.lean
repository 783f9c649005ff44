/- The lexer in plain Lean: errors, two scripts. -/
import Derived.Test.YtmdogklgbifacaaDoorLxThy
import Derived.Test.YtmdogklgbifacaaDoorLxOk
namespace Go.Proofs.YtmdogklgbifacaaDoor.Lx
set_option linter.unusedVariables false

theorem tokS_err {n : Nat} {x : Span} {e p : Nat} (h : tokS n x = .error (e, p)) : p = x.pos ∧ x.cls ≠ 1 ∧ x.cls ≠ 2 ∧ (e = 2 ∨ e = 3 ∨ e = 7) ∧ (e = 2 → n = 2000) := by
  unfold tokS at h
  split at h
  · cases h
  · rename_i h12
    split at h
    · injection h with h; injection h with h1 h2; subst h1; subst h2
      exact ⟨rfl, fun h => h12 (.inl h), fun h => h12 (.inr h), .inr (.inr rfl), fun h => absurd h (by decide)⟩
    · split at h
      · rename_i hn
        injection h with h; injection h with h1 h2; subst h1; subst h2
        exact ⟨rfl, fun h => h12 (.inl h), fun h => h12 (.inr h), .inl rfl, fun _ => hn⟩
      · split at h
        · rename_i e' he
          injection h with h; injection h with h1 h2; subst h1; subst h2
          rcases tokenOf_err he with h3 | h3
          · exact ⟨rfl, fun h => h12 (.inl h), fun h => h12 (.inr h), .inr (.inl h3), fun h => by omega⟩
          · exact ⟨rfl, fun h => h12 (.inl h), fun h => h12 (.inr h), .inr (.inr h3), fun h => by omega⟩
        · cases h
theorem lexT_err : ∀ (xs : List Span) (n e p : Nat), lexT n xs = .error (e, p) → ∃ X x Y A, xs = X ++ x :: Y ∧ lexT n X = .ok A ∧ tokS (n + A.length) x = .error (e, p)
  | [], n, e, p, h => by cases h
  | x :: xs, n, e, p, h => by
    rw [lexT] at h
    cases ht : tokS n x with
    | error d =>
      rw [ht, catT_err] at h
      injection h with h
      subst h
      exact ⟨[], x, xs, [], rfl, rfl, ht⟩
    | ok y =>
      rw [ht, catT_ok] at h
      cases hr : lexT (n + y.length) xs with
      | ok z => rw [hr] at h; cases h
      | error d =>
        rw [hr] at h
        injection h with h
        subst h
        obtain ⟨X, u, Y, A, e1, e2, e3⟩ := lexT_err xs _ _ _ hr
        refine ⟨x :: X, u, Y, y ++ A, by rw [e1]; rfl, ?_, by rw [List.length_append, ← Nat.add_assoc]; exact e3⟩
        rw [lexT, ht, catT_ok, e2]
theorem LEX_good {l : List UInt8} (h : (LEX l).err = 0) : l.length ≤ 8000 ∧ lexT 0 (spans l 0) = .ok (LEX l).toks ∧ (LEX l).pos = 0 := by
  have hl := LEX_long h
  have e := LEX_T l hl
  cases ht : lexT 0 (spans l 0) with
  | ok ts => rw [ht] at e; rw [e]; exact ⟨hl, rfl, rfl⟩
  | error d =>
    rw [ht] at e
    rw [e] at h
    obtain ⟨d1, d2⟩ := d
    obtain ⟨X, x, Y, A, _, _, h3⟩ := lexT_err _ _ _ _ ht
    have := (tokS_err h3).2.2.2.1
    have h' : d1 = 0 := h
    omega
theorem LEX_bad {l : List UInt8} (hl : l.length ≤ 8000) (h : (LEX l).err ≠ 0) : lexT 0 (spans l 0) = .error ((LEX l).err, (LEX l).pos) := by
  have e := LEX_T l hl
  cases ht : lexT 0 (spans l 0) with
  | ok ts => rw [ht] at e; rw [e] at h; exact absurd rfl h
  | error d => rw [ht] at e; rw [e]; rfl
theorem LEX_of {l : List UInt8} (hl : l.length ≤ 8000) {r : Except (Nat × Nat) (List Tok)} (h : lexT 0 (spans l 0) = r) : LEX l = resOf r := by rw [LEX_T l hl, h]

/-- A span in the middle: its offset, its class, its text. -/
theorem spans_at {X Y : List Span} {x : Span} {l : List UInt8} {p : Nat} (h : spans l p = X ++ x :: Y) :
    x.pos = p + spLen X ∧ ∃ c r, l.drop (spLen X) = c :: r ∧ x.cls = cls c ∧ x.text.size = spanLen (c :: r) ∧ x.text.data.toList = (c :: r).take (spanLen (c :: r)) := by
  obtain ⟨h1, h2, h3⟩ := spans_prefix X (x :: Y) l p h
  cases hd : l.drop (spLen X) with
  | nil => rw [hd, spans_nil] at h2; cases h2
  | cons c r =>
    rw [hd, spans_cons] at h2
    injection h2 with h2 h4
    subst h2
    refine ⟨rfl, c, r, rfl, rfl, ?_, rfl⟩
    have := spanLen_le (c :: r)
    show ((c :: r).take (spanLen (c :: r))).length = _
    rw [List.length_take]
    omega
/-- The last span's class. -/
theorem lastC_of : ∀ (X : List Span) (x : Span) (l : List UInt8) (p : Nat), spans l p = X ++ [x] → lastC l = x.cls
  | X, x, [], p, h => by rw [spans_nil] at h; cases X <;> cases h
  | [], x, c :: r, p, h => by
    have h2 := spanLen_le (c :: r)
    rw [spans_cons] at h
    injection h with hx ht
    rw [lastC_cons, if_neg ?_, ← hx]
    intro hlt
    cases hd : (c :: r).drop (spanLen (c :: r)) with
    | nil =>
      have := congrArg List.length hd
      rw [List.length_drop] at this
      simp only [List.length_nil] at this
      omega
    | cons d t => rw [hd, spans_cons] at ht; cases ht
  | y :: X, x, c :: r, p, h => by
    have h2 := spanLen_le (c :: r)
    rw [spans_cons, List.cons_append] at h
    injection h with hx ht
    rw [lastC_cons, if_pos ?_]
    · exact lastC_of X x _ _ ht
    · refine Nat.lt_of_not_le fun hge => ?_
      rw [List.drop_of_length_le hge, spans_nil] at ht
      cases X <;> cases ht
theorem ext_blank {k : Nat} (h : k ≠ 2) : ext k 32 = false := by
  unfold ext
  rw [if_neg h]
  split
  · decide
  · split
    · decide
    · rfl
theorem ext_line (k : Nat) : ext k 10 = false := by
  unfold ext
  split
  · decide
  · split
    · decide
    · split
      · decide
      · rfl
theorem spLen_append : ∀ (xs ys : List Span), spLen (xs ++ ys) = spLen xs + spLen ys
  | [], ys => by show spLen ys = 0 + spLen ys; omega
  | x :: xs, ys => by rw [List.cons_append, spLen_cons, spLen_cons, spLen_append xs ys]; omega
/-- AN ERROR: the text before it has none; what follows the wrong token is of no account. -/
theorem err_law {l : List UInt8} (hl : l.length ≤ 8000) (h : (LEX l).err ≠ 0) :
    (LEX l).pos < l.length ∧ (LEX l).pos + endLen (l.drop (LEX l).pos) ≤ l.length ∧ (LEX l).toks = [] ∧
    (∃ A, LEX (l.take (LEX l).pos) = ⟨A, 0, 0⟩ ∧ ((LEX l).err = 2 → A.length = 2000)) ∧
    ∀ m, (l.take ((LEX l).pos + endLen (l.drop (LEX l).pos)) ++ 32 :: m).length ≤ 8000 → LEX (l.take ((LEX l).pos + endLen (l.drop (LEX l).pos)) ++ 32 :: m) = ⟨[], (LEX l).err, (LEX l).pos⟩ := by
  have hb := LEX_bad hl h
  have htk : (LEX l).toks = [] := by rw [LEX_of hl hb]; rfl
  obtain ⟨e, p, he⟩ : ∃ e p, (LEX l).err = e ∧ (LEX l).pos = p := ⟨_, _, rfl, rfl⟩
  rw [he.1, he.2] at hb
  rw [he.1, he.2, htk]
  obtain ⟨X, x, Y, A, e1, e2, e3⟩ := lexT_err _ _ _ _ hb
  obtain ⟨q1, q2, q3, q4, q5⟩ := tokS_err e3
  obtain ⟨s1, c, r, s2, s3, s4, s5⟩ := spans_at e1
  obtain ⟨p1, p2, p3⟩ := spans_prefix _ _ _ _ e1
  have hp : spLen X = p := by rw [q1, s1]; omega
  have hend : endLen (l.drop p) = spanLen (c :: r) := by
    rw [← hp, s2]
    exact endLen_span (by rw [← s3]; exact q3) r
  have hlen := congrArg List.length s2
  rw [List.length_drop, hp] at hlen
  have h2 := spanLen_le (c :: r)
  rw [hend]
  simp only [List.length_cons] at hlen h2
  refine ⟨by omega, by omega, rfl, ⟨A, ?_, ?_⟩, fun m hm => ?_⟩
  · rw [← hp]
    exact LEX_of (r := .ok A) (by rw [List.length_take]; omega) (by rw [p1, e2])
  · intro h'
    have := q5 h'
    omega
  · refine LEX_of hm (r := .error (e, p)) ?_
    have e1' : spans l 0 = (X ++ [x]) ++ Y := by rw [e1]; simp
    obtain ⟨u1, u2, u3⟩ := spans_prefix _ _ _ _ e1'
    have hlx : spLen (X ++ [x]) = p + spanLen (c :: r) := by
      rw [spLen_append, hp, spLen_cons, s4]; rfl
    rw [hlx] at u1
    rw [spans_append _ _ _ 0 (Nat.le_refl _) ?_, u1, lexT_append, lexT_append, e2, catT_ok]
    · simp only [lexT]
      rw [catT_nil, e3]
      rfl
    · intro d t hdt
      injection hdt with h1 _
      subst h1
      rw [lastC_of _ _ _ _ u1]
      exact ext_blank q3

/-- Spans without an error, more tokens being there ahead. -/
theorem lexT_more : ∀ (xs : List Span) (k n : Nat) (B : List Tok), lexT k xs = .ok B → k ≤ n → n ≤ 2000 → (n + B.length ≤ 2000 → lexT n xs = .ok B) ∧ (2000 < n + B.length → ∃ x ∈ xs, lexT n xs = .error (2, x.pos))
  | [], k, n, B, h, hk, hn => by
    simp only [lexT] at h
    injection h with h
    subst h
    exact ⟨fun _ => rfl, fun h => by simp only [List.length_nil] at h; omega⟩
  | x :: xs, k, n, B, h, hk, hn => by
    rw [lexT] at h
    cases ht : tokS k x with
    | error d => rw [ht, catT_err] at h; cases h
    | ok y =>
      rw [ht, catT_ok] at h
      cases hr : lexT (k + y.length) xs with
      | error d => rw [hr] at h; cases h
      | ok z =>
        rw [hr] at h
        injection h with h
        subst h
        have H : (n = 2000 ∧ y ≠ [] ∧ tokS n x = .error (2, x.pos)) ∨ (tokS n x = .ok y ∧ n + y.length ≤ 2000) := by
          unfold tokS at ht ⊢
          split at ht
          · rename_i h12
            injection ht with ht
            subst ht
            right
            rw [if_pos h12]
            exact ⟨rfl, by simpa using hn⟩
          · rename_i h12
            split at ht
            · cases ht
            · rename_i h0
              split at ht
              · cases ht
              · rename_i hk2
                split at ht
                · cases ht
                · rename_i t htt
                  injection ht with ht
                  subst ht
                  rw [if_neg h12, if_neg h0]
                  by_cases h2 : n = 2000
                  · left; exact ⟨h2, by simp, by rw [if_pos h2]⟩
                  · right
                    rw [if_neg h2]
                    exact ⟨rfl, by simp only [List.length_cons, List.length_nil]; omega⟩
        rw [List.length_append]
        rcases H with ⟨h1, h2, h3⟩ | ⟨h1, h2⟩
        · have hy : 1 ≤ y.length := by cases y with | nil => exact absurd rfl h2 | cons _ _ => simp
          refine ⟨fun h => by omega, fun _ => ⟨x, List.mem_cons_self .., ?_⟩⟩
          rw [lexT, h3, catT_err]
        · obtain ⟨i1, i2⟩ := lexT_more xs _ (n + y.length) z hr (by omega) h2
          refine ⟨fun h => ?_, fun h => ?_⟩
          · rw [lexT, h1, catT_ok, i1 (by omega)]
          · obtain ⟨u, hu, hu2⟩ := i2 (by omega)
            exact ⟨u, List.mem_cons_of_mem _ hu, by rw [lexT, h1, catT_ok, hu2]⟩
theorem spans_from (l : List UInt8) (d : Nat) : spans l d = mvS d (spans l 0) := by
  have := spans_mv _ l 0 d (Nat.le_refl _)
  rw [Nat.zero_add] at this
  exact this
theorem mv_len (d : Nat) (ts : List Tok) : (mv d ts).length = ts.length := List.length_map ..
/-- TWO SCRIPTS joined by a line feed. -/
theorem two_law {a b : List UInt8} {A B : List Tok} (ha : LEX a = ⟨A, 0, 0⟩) (hb : LEX b = ⟨B, 0, 0⟩) (hl : (a ++ 10 :: b).length ≤ 8000) :
    (A.length + B.length ≤ 2000 → LEX (a ++ 10 :: b) = ⟨A ++ mv (a.length + 1) B, 0, 0⟩) ∧ (2000 < A.length + B.length → ∃ p, a.length < p ∧ LEX (a ++ 10 :: b) = ⟨[], 2, p⟩) := by
  have h1 := (LEX_good (l := a) (by rw [ha])).2.1
  have h2 := (LEX_good (l := b) (by rw [hb])).2.1
  have hA := LEX_len a
  rw [ha] at h1 hA
  rw [hb] at h2
  have hs : spans (a ++ 10 :: b) 0 = spans a 0 ++ (⟨a.length, 1, ⟨#[10]⟩⟩ :: mvS (a.length + 1) (spans b 0)) := by
    rw [spans_append _ a (10 :: b) 0 (Nat.le_refl _) ?_, Nat.zero_add, spans_cons, ← spans_from]
    · rfl
    · intro d t h
      injection h with h _
      subst h
      exact ext_line _
  have hg : ∀ n, tokS n ⟨a.length, 1, ⟨#[10]⟩⟩ = .ok [] := fun n => by unfold tokS; rw [if_pos (.inl rfl)]
  have h3 : lexT 0 (mvS (a.length + 1) (spans b 0)) = .ok (mv (a.length + 1) B) := by rw [lexT_mv, h2]; rfl
  obtain ⟨m1, m2⟩ := lexT_more _ _ A.length _ h3 (Nat.zero_le _) hA
  rw [mv_len] at m1 m2
  have hE : lexT 0 (spans (a ++ 10 :: b) 0) = catT (.ok A) (fun k => lexT k (mvS (a.length + 1) (spans b 0))) := by
    rw [hs, lexT_append, h1]
    congr 1
    funext k
    rw [lexT, hg, catT_none, Nat.zero_add, Nat.add_zero]
  refine ⟨fun h => ?_, fun h => ?_⟩
  · refine LEX_of hl (r := .ok (A ++ mv (a.length + 1) B)) ?_
    rw [hE, catT_ok, m1 h]
  · obtain ⟨x, hx, he⟩ := m2 h
    refine ⟨x.pos, ?_, LEX_of hl (r := .error (2, x.pos)) (by rw [hE, catT_ok, he])⟩
    rw [← spans_from] at hx
    have := (spans_pos _ _ _ (Nat.le_refl _) x hx).1
    omega
theorem sameB_mv (d : Nat) : ∀ (ts : List Tok), sameB d ts (mv d ts) = true
  | [] => rfl
  | t :: ts => by
    show (eqT d t { t with pos := t.pos + d } && sameB d ts (mv d ts)) = true
    rw [sameB_mv d ts, Bool.and_true]
    unfold eqT
    simp
end Go.Proofs.YtmdogklgbifacaaDoor.Lx
