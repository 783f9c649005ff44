/- The lexer in plain Lean: tokens that are written again; the texts at their offsets. -/
import Derived.Test.YtmdogklgbifacaaDoorLxText
import Derived.Test.YtmdogklgbifacaaDoorLxThy3
import Derived.Test.YtmdogklgbifacaaDoorLxRef3
namespace Go.Proofs.YtmdogklgbifacaaDoor.Lx
set_option linter.unusedVariables false

theorem dig_lt {c : UInt8} (h : cls c = 4) : c.toNat - 48 < 10 ∧ 48 ≤ c.toNat := by
  unfold cls at h
  split at h
  · cases h
  · split at h
    · cases h
    · split at h
      · cases h
      · split at h
        · rename_i h; omega
        · split at h <;> cases h
theorem dgt_of {c : UInt8} (h : cls c = 4) (k : Nat) (hk : k % 10 = c.toNat - 48) : dgt k = c := by
  have hr := dig_lt h
  apply UInt8.toNat_inj.1
  unfold dgt
  rw [hk]
  have : (UInt8.ofNat (48 + (c.toNat - 48))).toNat = (48 + (c.toNat - 48)) % 256 := rfl
  rw [this]
  omega
theorem num_one (c : UInt8) : num [c] = c.toNat - 48 := by
  have := num_snoc [] c
  rw [List.nil_append] at this
  rw [this]
  show 10 * 0 + _ = _
  omega
/-- Digits without a leading zero read back. -/
theorem dec_num : ∀ (n : Nat) (l : List UInt8), l.length = n → l ≠ [] → (∀ c ∈ l, cls c = 4) → (1 < l.length → l.head?.map (·.toNat) ≠ some 48) → Lib.decDigits (num l) = l ∧ (l.head?.map (·.toNat) ≠ some 48 → 1 ≤ num l)
  | 0, l, hn, h0, _, _ => absurd (List.eq_nil_of_length_eq_zero hn) h0
  | n + 1, l, hn, h0, hd, hz => by
    rcases List.eq_nil_or_concat l with rfl | ⟨l', c, rfl⟩
    · exact absurd rfl h0
    · rw [List.concat_eq_append] at *
      have hc : cls c = 4 := hd c (by simp)
      obtain ⟨hc1, hc2⟩ := dig_lt hc
      cases l' with
      | nil =>
        rw [List.nil_append, num_one]
        refine ⟨by rw [dec_small hc1, dgt_of hc _ (Nat.mod_eq_of_lt hc1)], fun h => ?_⟩
        have h : some c.toNat ≠ some 48 := h
        have : c.toNat ≠ 48 := fun e => h (by rw [e])
        omega
      | cons a r =>
        have hz' := hz (by simp)
        have hz2 : (a :: r).head?.map (·.toNat) ≠ some 48 := hz'
        rw [List.length_append] at hn
        obtain ⟨i1, i2⟩ := dec_num n (a :: r) (by simp only [List.length_cons, List.length_nil] at *; omega) (by simp) (fun d hd' => hd d (List.mem_append_left _ hd')) (fun _ => hz2)
        have i2 := i2 hz2
        rw [num_snoc]
        refine ⟨?_, fun _ => by omega⟩
        rw [dec_big (by omega), show (10 * num (a :: r) + (c.toNat - 48)) / 10 = num (a :: r) by omega, i1, dgt_of hc _ (by omega)]

/-- The text of a token. -/
def textL (t : Tok) : List UInt8 := (textB t).data.toList
theorem cls4 {l : List UInt8} {c : UInt8} {r : List UInt8} (hc : cls c = 4) (e : l = (c :: r).take (spanLen (c :: r))) : ∀ d ∈ l, cls d = 4 := by
  intro d hd
  have hs : spanLen (c :: r) = run inNum (c :: r) := by simp only [spanLen]; rw [if_neg (by omega), if_neg (by omega), if_pos hc]
  rw [e, hs] at hd
  obtain ⟨i, hi, rfl⟩ := List.mem_iff_getElem.1 hd
  rw [List.length_take] at hi
  rw [List.getElem_take]
  have := runs_at inNum (c :: r) i (by omega)
  unfold inNum at this
  exact of_decide_eq_true this
/-- A token that came from a span. -/
structure GoodT (t : Tok) (k : Nat) : Prop where
  spn : spans (textL t) 0 = [⟨0, k, textB t⟩]
  tok : tokenOf k (textL t) = .ok { t with pos := 0 }
  k0 : k ≠ 0
  k1 : k ≠ 1
  k2 : k ≠ 2
theorem good_tok {l : List UInt8} {p : Nat} {X Y : List Span} {x : Span} {t : Tok} (hs : spans l p = X ++ x :: Y) (ht : tokenOf x.cls x.text.data.toList = .ok t) (h0 : x.cls ≠ 0) (h1 : x.cls ≠ 1) (h2 : x.cls ≠ 2) :
    GoodT { t with pos := x.pos } x.cls ∧ textB { t with pos := x.pos } = x.text := by
  obtain ⟨s1, c, r, s2, s3, s4, s5⟩ := spans_at hs
  have h := spanLen_pos c r
  have hle := spanLen_le (c :: r)
  have hself : spans x.text.data.toList 0 = [⟨0, x.cls, x.text⟩] := by
    obtain ⟨_, p2, _⟩ := spans_prefix X (x :: Y) l p hs
    rw [s2, spans_cons] at p2
    injection p2 with p2 _
    have q := spans_prefix [⟨0, cls c, ⟨((c :: r).take (spanLen (c :: r))).toArray⟩⟩] (spans ((c :: r).drop (spanLen (c :: r))) (0 + spanLen (c :: r))) (c :: r) 0 (by rw [spans_cons]; rfl)
    have hz : spLen [⟨0, cls c, ⟨((c :: r).take (spanLen (c :: r))).toArray⟩⟩] = spanLen (c :: r) := by
      show ((c :: r).take (spanLen (c :: r))).length + 0 = _
      rw [List.length_take]; omega
    rw [hz] at q
    rw [s5, q.1, ← s3]
    have hx : x.text = ⟨((c :: r).take (spanLen (c :: r))).toArray⟩ := by rw [← p2]
    rw [hx]
  have hne : x.text.data.toList ≠ [] := by
    rw [s5]
    intro e
    have := congrArg List.length e
    rw [List.length_take] at this
    simp only [List.length_nil] at this
    omega
  have htx : textB { t with pos := x.pos } = x.text ∧ { t with pos := 0 } = t := by
    unfold tokenOf at ht
    split at ht
    · split at ht
      · cases ht
      · injection ht with ht
        subst ht
        refine ⟨?_, rfl⟩
        show (if (1 : Nat) = 2 then _ else _) = _
        rw [if_neg (by decide)]
    · split at ht
      · rename_i h4
        split at ht
        · cases ht
        · rename_i hz
          split at ht
          · cases ht
          · injection ht with ht
            subst ht
            refine ⟨?_, rfl⟩
            unfold textB
            rw [if_pos rfl]
            have := (dec_num _ x.text.data.toList rfl hne (cls4 (by rw [← s3]; exact h4) s5) (fun hl e => hz ⟨hl, e⟩)).1
            show (⟨(Lib.decDigits (num x.text.data.toList)).toArray⟩ : ByteArray) = _
            rw [this]
      · injection ht with ht
        subst ht
        refine ⟨?_, rfl⟩
        show (if (3 : Nat) = 2 then _ else _) = _
        rw [if_neg (by decide)]
  have hL : textL { t with pos := x.pos } = x.text.data.toList := by unfold textL; rw [htx.1]
  refine ⟨⟨by rw [hL, htx.1]; exact hself, ?_, h0, h1, h2⟩, htx.1⟩
  rw [hL, ht]
  show _ = Except.ok { t with pos := 0 }
  rw [htx.2]
theorem all_good : ∀ (xs X : List Span) (l : List UInt8) (p n : Nat) (ts : List Tok), spans l p = X ++ xs → lexT n xs = .ok ts → ∀ t ∈ ts, ∃ k, GoodT t k ∧ (textL t).length ≤ l.length
  | [], X, l, p, n, ts, hs, h, t, ht => by
    simp only [lexT] at h
    injection h with h
    subst h
    cases ht
  | x :: xs, X, l, p, n, ts, hs, h, t, ht => by
    rw [lexT] at h
    cases hy : tokS n x with
    | error d => rw [hy, catT_err] at h; cases h
    | ok y =>
      rw [hy, catT_ok] at h
      cases hr : lexT (n + y.length) xs with
      | error d => rw [hr] at h; cases h
      | ok z =>
        rw [hr] at h
        injection h with h
        subst h
        have ih := all_good xs (X ++ [x]) l p _ z (by rw [hs]; simp) hr
        rcases tokS_ok hy with ⟨rfl, _⟩ | ⟨u, rfl, hu, c0, c1, c2, _⟩
        · exact ih t ht
        · rcases List.mem_append.1 ht with ht | ht
          · simp only [List.mem_singleton] at ht
            subst ht
            obtain ⟨g1, g2⟩ := good_tok hs hu c0 c1 c2
            refine ⟨_, g1, ?_⟩
            obtain ⟨_, c, r, s2, _, s4, _⟩ := spans_at hs
            have h1 : (textL { u with pos := x.pos }).length = x.text.size := by unfold textL; rw [g2]; exact Array.length_toList
            have h2 := spanLen_le (c :: r)
            have h3 := congrArg List.length s2
            rw [List.length_drop] at h3
            omega
          · exact ih t ht

/-- The texts, each followed by a blank. -/
def wtext : List Tok → List UInt8
  | [] => []
  | t :: ts => textL t ++ 32 :: wtext ts
theorem wtext_spans {t : Tok} {k : Nat} (h : GoodT t k) (m : List UInt8) (p : Nat) : spans (textL t ++ 32 :: m) p = ⟨p, k, textB t⟩ :: ⟨p + (textL t).length, 1, ⟨#[32]⟩⟩ :: spans m (p + (textL t).length + 1) := by
  rw [spans_append _ (textL t) (32 :: m) p (Nat.le_refl _) ?_, spans_from (textL t) p, h.spn, spans_cons]
  · show (⟨0 + p, k, textB t⟩ : Span) :: _ = _
    rw [Nat.zero_add]
    rfl
  · intro d u e
    injection e with e _
    subst e
    rw [lastC_of [] _ _ 0 (by rw [h.spn]; rfl)]
    exact ext_blank h.k2
theorem wtext_lex : ∀ (ts : List Tok) (n p : Nat), (∀ t ∈ ts, ∃ k, GoodT t k) → n + ts.length ≤ 2000 → ∃ us, lexT n (spans (wtext ts) p) = .ok us ∧ alikeB ts us = true ∧ us.length = ts.length
  | [], n, p, _, _ => ⟨[], by show lexT n (spans [] p) = _; rw [spans_nil]; rfl, rfl, rfl⟩
  | t :: ts, n, p, h, hn => by
    obtain ⟨k, hk⟩ := h t (List.mem_cons_self ..)
    rw [List.length_cons] at hn
    obtain ⟨us, i1, i2, i3⟩ := wtext_lex ts (n + 1) (p + (textL t).length + 1) (fun u hu => h u (List.mem_cons_of_mem _ hu)) (by omega)
    have e1 : tokS n ⟨p, k, textB t⟩ = .ok [{ t with pos := p }] := by
      unfold tokS
      have := hk.tok
      unfold textL at this
      rw [if_neg (fun h => h.elim hk.k1 hk.k2), if_neg hk.k0, if_neg (by omega)]
      show (match tokenOf k (textB t).data.toList with | .error e => (Except.error (e, p) : Except (Nat × Nat) (List Tok)) | .ok t => .ok [{ t with pos := p }]) = _
      rw [this]
    have e2 : ∀ m q, tokS m ⟨q, 1, ⟨#[32]⟩⟩ = .ok [] := fun m q => by unfold tokS; rw [if_pos (.inl rfl)]
    refine ⟨{ t with pos := p } :: us, ?_, ?_, by rw [List.length_cons, List.length_cons, i3]⟩
    · show lexT n (spans (textL t ++ 32 :: wtext ts) p) = _
      rw [wtext_spans hk, lexT, e1, catT_ok]
      show (match lexT (n + 1) _ with | .error e => (Except.error e : Except (Nat × Nat) (List Tok)) | .ok y => .ok ([{ t with pos := p }] ++ y)) = _
      rw [lexT, e2, catT_none, Nat.add_zero, i1]
      rfl
    · show (likeT t { t with pos := p } && alikeB ts us) = true
      rw [i2, Bool.and_true]
      unfold likeT
      simp
theorem write_law {l : List UInt8} {ts : List Tok} (h : LEX l = ⟨ts, 0, 0⟩) : ((wtext ts).length ≤ 8000 → ∃ us, LEX (wtext ts) = ⟨us, 0, 0⟩ ∧ alikeB ts us = true) ∧ (8000 < (wtext ts).length → LEX (wtext ts) = ⟨[], 2, 0⟩) := by
  have hts := (LEX_good (l := l) (by rw [h])).2.1
  have hlen := LEX_len l
  rw [h] at hts hlen
  have hts : lexT 0 (spans l 0) = .ok ts := hts
  have hlen : ts.length ≤ 2000 := hlen
  refine ⟨fun hl => ?_, fun hl => by unfold LEX; rw [if_pos hl]⟩
  obtain ⟨us, i1, i2, _⟩ := wtext_lex ts 0 0 (fun t ht => (all_good _ [] l 0 0 ts rfl hts t ht).imp fun _ h => h.1) (by omega)
  exact ⟨us, LEX_of hl (r := .ok us) i1, i2⟩
theorem write_len {l : List UInt8} {ts : List Tok} (h : LEX l = ⟨ts, 0, 0⟩) : ∀ t ∈ ts, (textL t).length ≤ 8000 := by
  have hg := LEX_good (l := l) (by rw [h])
  have hts := hg.2.1
  rw [h] at hts
  intro t ht
  obtain ⟨_, _, h2⟩ := all_good _ [] l 0 0 ts rfl hts t ht
  exact Nat.le_trans h2 hg.1
theorem wtext_len : ∀ (ts : List Tok), (∀ t ∈ ts, (textL t).length ≤ 8000) → (wtext ts).length ≤ ts.length * 8001
  | [], _ => Nat.le_refl _
  | t :: ts, h => by
    have h1 := h t (List.mem_cons_self ..)
    have h2 := wtext_len ts fun u hu => h u (List.mem_cons_of_mem _ hu)
    show (textL t ++ 32 :: wtext ts).length ≤ _
    rw [List.length_append, List.length_cons, List.length_cons]
    omega
theorem wtext_append : ∀ (a b : List Tok), wtext (a ++ b) = wtext a ++ wtext b
  | [], b => rfl
  | t :: a, b => by
    show textL t ++ 32 :: wtext (a ++ b) = (textL t ++ 32 :: wtext a) ++ wtext b
    rw [wtext_append a b, List.append_assoc]; rfl
theorem wtext_snoc (ts : List Tok) (k : Nat) (hk : k < ts.length) : wtext (ts.take (k + 1)) = wtext (ts.take k) ++ (textL ts[k] ++ [32]) := by
  rw [List.take_succ_eq_append_getElem hk, wtext_append]
  rfl
end Go.Proofs.YtmdogklgbifacaaDoor.Lx
