/- The lexer in plain Lean: gaps that are inserted. -/
import Derived.Test.YtmdogklgbifacaaDoorLxThy2
namespace Go.Proofs.YtmdogklgbifacaaDoor.Lx
set_option linter.unusedVariables false

theorem tokS_ok {n : Nat} {x : Span} {y : List Tok} (h : tokS n x = .ok y) : (y = [] ∧ (x.cls = 1 ∨ x.cls = 2)) ∨ (∃ t, y = [{ t with pos := x.pos }] ∧ tokenOf x.cls x.text.data.toList = .ok t ∧ x.cls ≠ 0 ∧ x.cls ≠ 1 ∧ x.cls ≠ 2 ∧ n ≠ 2000) := by
  unfold tokS at h
  split at h
  · rename_i h12
    injection h with h
    exact .inl ⟨h.symm, h12⟩
  · rename_i h12
    split at h
    · cases h
    · rename_i h0
      split at h
      · cases h
      · rename_i hn
        split at h
        · cases h
        · rename_i t ht
          injection h with h
          exact .inr ⟨t, h.symm, ht, h0, fun h => h12 (.inl h), fun h => h12 (.inr h), hn⟩
theorem lexT_gap : ∀ (xs : List Span) (n : Nat), (∀ x ∈ xs, x.cls = 1 ∨ x.cls = 2) → lexT n xs = .ok []
  | [], n, _ => rfl
  | x :: xs, n, h => by
    have : tokS n x = .ok [] := by unfold tokS; rw [if_pos (h x (List.mem_cons_self ..))]
    rw [lexT, this, catT_none]
    exact lexT_gap xs _ fun y hy => h y (List.mem_cons_of_mem _ hy)
theorem gap_mv {xs : List Span} (d : Nat) (h : ∀ x ∈ xs, x.cls = 1 ∨ x.cls = 2) : ∀ x ∈ mvS d xs, x.cls = 1 ∨ x.cls = 2 := by
  intro x hx
  obtain ⟨y, hy, rfl⟩ := List.mem_map.1 hx
  exact h y hy
theorem lexT_find : ∀ (xs : List Span) (n k : Nat) (ts : List Tok), lexT n xs = .ok ts → (hk : k < ts.length) → ∃ X x Y, xs = X ++ x :: Y ∧ lexT n X = .ok (ts.take k) ∧ lexT (n + k) (x :: Y) = .ok (ts.drop k) ∧ x.cls ≠ 1 ∧ x.cls ≠ 2 ∧ ts[k].pos = x.pos
  | [], n, k, ts, h, hk => by
    simp only [lexT] at h
    injection h with h
    subst h
    exact absurd hk (by simp)
  | x :: xs, n, k, ts, h, hk => by
    have h' := h
    rw [lexT] at h
    cases ht : tokS n x with
    | error d => rw [ht, catT_err] at h; cases h
    | ok y =>
      rw [ht, catT_ok] at h
      cases hr : lexT (n + y.length) xs with
      | error d => rw [hr] at h; cases h
      | ok z =>
        rw [hr] at h
        injection h with h
        subst h
        rcases tokS_ok ht with ⟨rfl, hc⟩ | ⟨t, rfl, _, c0, c1, c2, _⟩
        · obtain ⟨X, u, Y, e1, e2, e3, e4⟩ := lexT_find xs n k z hr hk
          refine ⟨x :: X, u, Y, by rw [e1]; rfl, ?_, e3, e4⟩
          rw [lexT, ht, catT_none]
          exact e2
        · cases k with
          | zero => exact ⟨[], x, xs, rfl, rfl, h', c1, c2, rfl⟩
          | succ k =>
            have hk' : k < z.length := by simpa using hk
            obtain ⟨X, u, Y, e1, e2, e3, e4⟩ := lexT_find xs (n + 1) k z hr hk'
            refine ⟨x :: X, u, Y, by rw [e1]; rfl, ?_, ?_, e4⟩
            · rw [lexT, ht, catT_ok]
              show (match lexT (n + 1) X with | .error e => (Except.error e : Except (Nat × Nat) (List Tok)) | .ok y => .ok ([{ t with pos := x.pos }] ++ y)) = _
              rw [e2]
              rfl
            · rw [show n + (k + 1) = n + 1 + k by omega]
              exact e3
/-- What follows a span does not go on with it. -/
theorem munch (c : UInt8) (r : List UInt8) (h : spanLen (c :: r) < (c :: r).length) : ext (cls c) ((c :: r)[spanLen (c :: r)]) = false := by
  have key : ∀ (q : Nat) (h : q < (c :: r).length) (p : UInt8 → Bool), q = run p (c :: r) → p ((c :: r)[q]) = false := fun q h p e => by
    subst e; exact runs_end p (c :: r) h
  unfold ext
  split
  · rename_i hc
    exact key _ h inCom (by simp only [spanLen]; rw [if_pos hc])
  · rename_i hc
    split
    · rename_i hc3
      exact key _ h inNam (by simp only [spanLen]; rw [if_neg hc, if_pos hc3])
    · rename_i hc3
      split
      · rename_i hc4
        exact key _ h inNum (by simp only [spanLen]; rw [if_neg hc, if_neg hc3, if_pos hc4])
      · rfl
theorem boundary {X Y : List Span} {x : Span} {l : List UInt8} {p : Nat} (h : spans l p = X ++ x :: Y) :
    ∃ d t, l.drop (spLen X) = d :: t ∧ ext (lastC (l.take (spLen X))) d = false ∧ x.cls = cls d := by
  obtain ⟨_, d, t, hd, hc, _, _⟩ := spans_at h
  refine ⟨d, t, hd, ?_, hc⟩
  rcases List.eq_nil_or_concat X with rfl | ⟨X', y, rfl⟩
  · show ext (lastC (l.take 0)) d = false
    rw [List.take_zero, lastC_nil]; rfl
  · rw [List.concat_eq_append] at h hd ⊢
    rw [List.append_assoc] at h
    have h' : spans l p = X' ++ y :: (x :: Y) := h
    obtain ⟨_, c, r, h1, h2, h3, _⟩ := spans_at h'
    have h4 : spans l p = (X' ++ [y]) ++ x :: Y := by rw [h']; simp
    obtain ⟨p1, _, _⟩ := spans_prefix _ _ _ _ h4
    rw [lastC_of _ _ _ _ p1, h2]
    have hl : spLen (X' ++ [y]) = spLen X' + spanLen (c :: r) := by rw [spLen_append, spLen_cons, h3]; rfl
    rw [hl, ← List.drop_drop, h1] at hd
    have hlt : spanLen (c :: r) < (c :: r).length := by
      have := congrArg List.length hd
      rw [List.length_drop] at this
      have h0 : 0 < (d :: t).length := Nat.succ_pos _
      omega
    have := munch c r hlt
    have e : (c :: r)[spanLen (c :: r)] = d := by
      have := List.drop_eq_getElem_cons hlt
      rw [hd] at this
      injection this with this
      exact this.symm
    rw [e] at this
    exact this
theorem ext_two {d : UInt8} (h : ext 2 d = false) : cls d = 1 := by
  have h : inCom d = false := h
  unfold inCom at h
  rw [decide_eq_false_iff_not, Classical.not_not] at h
  unfold cls
  rw [if_pos (by omega)]
theorem spLen_all : ∀ (n : Nat) (l : List UInt8) (p : Nat), l.length ≤ n → spLen (spans l p) = l.length
  | n, [], p, _ => by rw [spans_nil]; rfl
  | 0, c :: r, p, h => absurd h (by simp)
  | n + 1, c :: r, p, h => by
    have h1 := spanLen_pos c r
    have h2 := spanLen_le (c :: r)
    rw [spans_cons, spLen_cons, spLen_all n _ _ (by rw [List.length_drop]; simp only [List.length_cons] at *; omega), List.length_drop]
    show ((c :: r).take (spanLen (c :: r))).length + _ = _
    rw [List.length_take]
    omega
theorem run_full (p : UInt8 → Bool) : ∀ (l m : List UInt8), run p l = l.length → run p (l ++ m) = l.length + run p m
  | [], m, h => by simp
  | c :: l, m, h => by
    by_cases hc : p c = true
    · have e : run p (c :: l) = run p l + 1 := by unfold run; rw [List.takeWhile_cons_of_pos hc, List.length_cons]
      have e2 : run p (c :: (l ++ m)) = run p (l ++ m) + 1 := by unfold run; rw [List.takeWhile_cons_of_pos hc, List.length_cons]
      rw [e, List.length_cons] at h
      rw [List.cons_append, e2, run_full p l m (by omega), List.length_cons]
      omega
    · exfalso
      have : run p (c :: l) = 0 := by unfold run; rw [List.takeWhile_cons_of_neg hc]; rfl
      rw [this, List.length_cons] at h
      omega

/-- A gap that serves everywhere. -/
structure GoodG (g : List UInt8) : Prop where
  head : ∀ k d t, k ≠ 2 → g = d :: t → ext k d = false
  last : lastC g = 1
  gap : ∀ x ∈ spans g 0, x.cls = 1 ∨ x.cls = 2
  rest : ∀ x ∈ spans (g.drop (run inCom g)) 0, x.cls = 1 ∨ x.cls = 2
theorem GoodG.at {g : List UInt8} (h : GoodG g) (p n : Nat) : lexT n (spans g p) = .ok [] := by
  rw [spans_from]; exact lexT_gap _ _ (gap_mv p h.gap)
theorem gap_mid {l g ms : List UInt8} {X Y : List Span} {x : Span} {k : Nat} {ts us : List Tok} (hg : GoodG g) (hs : spans l 0 = X ++ x :: Y) (h1 : x.cls ≠ 1) (hX : lexT 0 X = .ok ts) (hY : lexT ts.length (x :: Y) = .ok us) :
    lexT 0 (spans (l.take (spLen X) ++ (g ++ l.drop (spLen X))) 0) = .ok (ts ++ mv g.length us) := by
  obtain ⟨d, t, b1, b2, b3⟩ := boundary hs
  obtain ⟨p1, p2, p3⟩ := spans_prefix _ _ _ _ hs
  have hk : lastC (l.take (spLen X)) ≠ 2 := fun e => by
    rw [e] at b2
    exact h1 (b3.trans (ext_two b2))
  have hlen : (l.take (spLen X)).length = spLen X := by rw [List.length_take]; omega
  have e1 : spans (l.take (spLen X) ++ (g ++ l.drop (spLen X))) 0 = X ++ (spans g (spLen X) ++ mvS g.length (x :: Y)) := by
    rw [spans_append _ _ _ 0 (Nat.le_refl _) ?_, p1, hlen, Nat.zero_add, spans_append _ g _ _ (Nat.le_refl _) ?_]
    · congr 2
      rw [Nat.zero_add] at p2
      rw [← p2]
      exact spans_mv _ _ _ _ (Nat.le_refl _)
    · intro d t _
      rw [hg.last]; rfl
    · intro d' t' e
      cases hgc : g with
      | nil =>
        rw [hgc, List.nil_append, b1] at e
        injection e with e _
        rw [← e]; exact b2
      | cons a b =>
        rw [hgc, List.cons_append] at e
        injection e with e _
        rw [← e]
        exact hg.head _ a b hk hgc
  rw [e1, lexT_append, hX, catT_ok, lexT_append, hg.at, catT_none, Nat.zero_add, Nat.add_zero, lexT_mv, hY]
  rfl
theorem gap_end {l g : List UInt8} {ts : List Tok} (hg : GoodG g) (hts : lexT 0 (spans l 0) = .ok ts) : lexT 0 (spans (l ++ g) 0) = .ok ts := by
  by_cases h2 : lastC l = 2
  · rcases List.eq_nil_or_concat (spans l 0) with h | ⟨X, x, h⟩
    · cases l with
      | nil => rw [lastC_nil] at h2; cases h2
      | cons c r => rw [spans_cons] at h; cases h
    · rw [List.concat_eq_append] at h
      have hx : x.cls = 2 := by rw [← lastC_of _ _ _ _ h]; exact h2
      obtain ⟨d, t, b1, b2, b3⟩ := boundary h
      obtain ⟨_, c, r, s2, s3, s4, _⟩ := spans_at h
      have hcr : d :: t = c :: r := b1.symm.trans s2
      injection hcr with hcr1 hcr2
      subst hcr1
      subst hcr2
      obtain ⟨p1, p2, p3⟩ := spans_prefix _ _ _ _ h
      have hc : cls d = 2 := by rw [← s3]; exact hx
      have hall := spLen_all _ l 0 (Nat.le_refl _)
      have hsx : spLen [x] = x.text.size := rfl
      rw [h, spLen_append, hsx, s4] at hall
      have hlen := congrArg List.length s2
      rw [List.length_drop] at hlen
      have hrun : run inCom (d :: t) = (d :: t).length := by
        have : spanLen (d :: t) = run inCom (d :: t) := by simp only [spanLen]; rw [if_pos hc]
        omega
      have e0 : l ++ g = l.take (spLen X) ++ ((d :: t) ++ g) := by
        rw [← s2, ← List.append_assoc, List.take_append_drop]
      have e1 : spans ((d :: t) ++ g) (spLen X) = ⟨spLen X, 2, ⟨(((d :: t) ++ g).take ((d :: t).length + run inCom g)).toArray⟩⟩ :: spans (g.drop (run inCom g)) (spLen X + ((d :: t).length + run inCom g)) := by
        have hsp : spanLen (d :: (t ++ g)) = (d :: t).length + run inCom g := by
          rw [← run_full inCom (d :: t) g hrun]
          simp only [spanLen]; rw [if_pos hc]; rfl
        rw [List.cons_append, spans_cons, hsp, hc, ← List.cons_append, List.drop_append, List.drop_of_length_le (by omega), List.nil_append, Nat.add_sub_cancel_left]
      have hlen2 : (l.take (spLen X)).length = spLen X := by rw [List.length_take]; omega
      rw [e0, spans_append _ _ _ 0 (Nat.le_refl _) (fun d' t' e => by injection e with e _; rw [← e]; exact b2), p1, hlen2, Nat.zero_add, e1]
      rw [h, lexT_append] at hts
      cases hX : lexT 0 X with
      | error e => rw [hX, catT_err] at hts; cases hts
      | ok us =>
        rw [hX, catT_ok, lexT_gap [x] _ (fun y hy => by simp only [List.mem_singleton] at hy; subst hy; exact .inr hx)] at hts
        injection hts with hts
        rw [List.append_nil] at hts
        rw [lexT_append, hX, catT_ok, lexT_gap _ _ (fun y hy => ?_)]
        · show Except.ok (us ++ []) = _
          rw [List.append_nil, hts]
        · rcases List.mem_cons.1 hy with rfl | hy
          · exact .inr rfl
          · rw [spans_from] at hy
            exact gap_mv _ hg.rest y hy
  · rw [spans_append _ _ _ 0 (Nat.le_refl _) (fun d t e => hg.head _ d t h2 e), lexT_append, hts, catT_ok, hg.at]
    simp
/-- Where the gap is inserted. -/
def placeOf (l : List UInt8) (ts : List Tok) (k : Nat) : Nat := if h : k < ts.length then ts[k].pos else l.length
theorem gap_law {l g : List UInt8} {ts : List Tok} {k : Nat} (hg : GoodG g) (h : LEX l = ⟨ts, 0, 0⟩) (hk : k ≤ ts.length) :
    placeOf l ts k ≤ l.length ∧ ((l.take (placeOf l ts k) ++ (g ++ l.drop (placeOf l ts k))).length ≤ 8000 → LEX (l.take (placeOf l ts k) ++ (g ++ l.drop (placeOf l ts k))) = ⟨ts.take k ++ mv g.length (ts.drop k), 0, 0⟩) := by
  have hts := (LEX_good (l := l) (by rw [h])).2.1
  rw [h] at hts
  have hts : lexT 0 (spans l 0) = .ok ts := hts
  unfold placeOf
  by_cases hlt : k < ts.length
  · rw [dif_pos hlt]
    obtain ⟨X, x, Y, e1, e2, e3, e4, e5, e6⟩ := lexT_find _ _ _ _ hts hlt
    have hp : ts[k].pos = spLen X := by rw [e6, (spans_at e1).1, Nat.zero_add]
    obtain ⟨_, _, p3⟩ := spans_prefix _ _ _ _ e1
    rw [hp]
    refine ⟨p3, fun hlen => LEX_of hlen (r := .ok _) (gap_mid (ms := []) (k := k) hg e1 e4 e2 ?_)⟩
    rw [List.length_take, Nat.min_eq_left hk]
    rw [Nat.zero_add] at e3
    exact e3
  · rw [dif_neg hlt]
    refine ⟨Nat.le_refl _, fun hlen => ?_⟩
    rw [List.take_length, List.drop_length, List.append_nil] at hlen ⊢
    refine LEX_of hlen (r := .ok _) ?_
    rw [gap_end hg hts, List.take_of_length_le (by omega), List.drop_of_length_le (by omega)]
    show _ = Except.ok (ts ++ [])
    rw [List.append_nil]
end Go.Proofs.YtmdogklgbifacaaDoor.Lx
