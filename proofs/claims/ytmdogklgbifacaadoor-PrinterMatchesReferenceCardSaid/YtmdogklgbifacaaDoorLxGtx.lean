/- The lexer in plain Lean: tokens' texts, each followed by a gap. -/
import Derived.Test.YtmdogklgbifacaaDoorLxThy4
import Derived.Test.YtmdogklgbifacaaDoorLxOk
namespace Go.Proofs.YtmdogklgbifacaaDoor.Lx
set_option linter.unusedVariables false

theorem lastC_get' {g : List UInt8} {k : Nat} (h : (spans g 0).getLast?.map (·.cls) = some k) : lastC g = k := by
  cases hs : (spans g 0).getLast? with
  | none => rw [hs] at h; cases h
  | some x =>
    rw [hs] at h
    injection h with h
    rw [← h]
    obtain ⟨X, e⟩ := List.getLast?_eq_some_iff.1 hs
    exact lastC_of X x g 0 e
theorem goodG_of {c : UInt8} {r : List UInt8} (hh : inNam c = false) (hn : inNum c = false) (hl : (spansF (c :: r).length (c :: r) 0).getLast?.map (·.cls) = some 1)
    (hg : (spansF (c :: r).length (c :: r) 0).all (fun x => decide (x.cls = 1 ∨ x.cls = 2)) = true)
    (hr : (spansF (c :: r).length ((c :: r).drop (run inCom (c :: r))) 0).all (fun x => decide (x.cls = 1 ∨ x.cls = 2)) = true) : GoodG (c :: r) := by
  refine ⟨fun k d t h e => ?_, ?_, fun x hx => ?_, fun x hx => ?_⟩
  · injection e with e _
    subst e
    unfold ext
    rw [if_neg h]
    split
    · exact hh
    · split
      · exact hn
      · rfl
  · refine lastC_get' ?_
    rw [spansF_eq _ _ _ (Nat.le_refl _)]
    exact hl
  · rw [spansF_eq _ _ _ (Nat.le_refl _)] at hx
    exact of_decide_eq_true (List.all_eq_true.1 hg x hx)
  · rw [spansF_eq (c :: r).length _ _ (by rw [List.length_drop]; omega)] at hx
    exact of_decide_eq_true (List.all_eq_true.1 hr x hx)
theorem good_blank : GoodG [32] := goodG_of (c := 32) (r := []) (by decide) (by decide) (by kernel_rfl) (by kernel_rfl) (by kernel_rfl)
theorem good_line : GoodG [10] := goodG_of (c := 10) (r := []) (by decide) (by decide) (by kernel_rfl) (by kernel_rfl) (by kernel_rfl)

/-- Texts and gaps. -/
def gtx : List (Tok × List UInt8) → List UInt8
  | [] => []
  | x :: r => textL x.1 ++ (x.2 ++ gtx r)
def GoodS : List (Tok × List UInt8) → Prop
  | [] => True
  | x :: r => (∃ k, GoodT x.1 k ∧ ∀ d u, x.2 ++ gtx r = d :: u → ext k d = false) ∧ (x.2 = [] ∨ GoodG x.2) ∧ GoodS r
/-- The tokens at their places. -/
def tksAt : Nat → List (Tok × List UInt8) → List Tok
  | _, [] => []
  | p, x :: r => { x.1 with pos := p } :: tksAt (p + (textL x.1).length + x.2.length) r
theorem tksAt_len : ∀ (r : List (Tok × List UInt8)) (p : Nat), (tksAt p r).length = r.length
  | [], _ => rfl
  | x :: r, p => by simp only [tksAt, List.length_cons, tksAt_len r]
theorem gtx_append : ∀ a b, gtx (a ++ b) = gtx a ++ gtx b
  | [], b => rfl
  | x :: a, b => by simp only [List.cons_append, gtx, gtx_append a b, List.append_assoc]
theorem tksAt_append : ∀ (a b : List (Tok × List UInt8)) (p : Nat), tksAt p (a ++ b) = tksAt p a ++ tksAt (p + (gtx a).length) b
  | [], b, p => rfl
  | x :: a, b, p => by
    simp only [List.cons_append, tksAt, gtx, List.length_append]
    rw [tksAt_append a b, show p + (textL x.1).length + x.2.length + (gtx a).length = p + ((textL x.1).length + (x.2.length + (gtx a).length)) by omega]
theorem gtx_spans {t : Tok} {k : Nat} {g m : List UInt8} (h : GoodT t k) (hh : ∀ d u, g ++ m = d :: u → ext k d = false) (hg : g = [] ∨ GoodG g) (p : Nat) :
    spans (textL t ++ (g ++ m)) p = ⟨p, k, textB t⟩ :: (spans g (p + (textL t).length) ++ spans m (p + (textL t).length + g.length)) := by
  rw [spans_append _ (textL t) (g ++ m) p (Nat.le_refl _) ?_, spans_from (textL t) p, h.spn]
  · show (⟨0 + p, k, textB t⟩ : Span) :: _ = _
    rw [Nat.zero_add]
    congr 1
    rcases hg with rfl | hg
    · rw [List.nil_append, spans_nil]; rfl
    · exact spans_append _ g m _ (Nat.le_refl _) (by intro d u _; rw [hg.last]; rfl)
  · intro d u e
    rw [lastC_of [] _ _ 0 (by rw [h.spn]; rfl)]
    exact hh d u e
theorem tokS_good {t : Tok} {k : Nat} (h : GoodT t k) (n p : Nat) : tokS n ⟨p, k, textB t⟩ = if n = 2000 then .error (2, p) else .ok [{ t with pos := p }] := by
  unfold tokS
  rw [if_neg (fun e => e.elim h.k1 h.k2), if_neg h.k0]
  by_cases hn : n = 2000
  · rw [if_pos hn, if_pos hn]
  · rw [if_neg hn, if_neg hn]
    have := h.tok
    unfold textL at this
    show (match tokenOf k (textB t).data.toList with | .error e => (Except.error (e, p) : Except (Nat × Nat) (List Tok)) | .ok t => .ok [{ t with pos := p }]) = _
    rw [this]
theorem gtx_lex : ∀ (r : List (Tok × List UInt8)) (n p : Nat), GoodS r → n ≤ 2000 → (n + r.length ≤ 2000 → lexT n (spans (gtx r) p) = .ok (tksAt p r)) ∧ (2000 < n + r.length → ∃ q, lexT n (spans (gtx r) p) = .error (2, q))
  | [], n, p, _, hn => ⟨fun _ => by show lexT n (spans [] p) = _; rw [spans_nil]; rfl, fun h => absurd h (by simpa using hn)⟩
  | x :: r, n, p, h, hn => by
    obtain ⟨⟨k, hk, hh⟩, hg, hr⟩ := h
    have hsp := gtx_spans hk hh hg p
    have hgap : lexT (n + 1) (spans x.2 (p + (textL x.1).length)) = .ok [] := by
      rcases hg with hg | hg
      · rw [hg, spans_nil]; rfl
      · exact hg.at _ _
    show (_ → lexT n (spans (textL x.1 ++ (x.2 ++ gtx r)) p) = _) ∧ (_ → ∃ q, lexT n (spans (textL x.1 ++ (x.2 ++ gtx r)) p) = _)
    rw [hsp, lexT, tokS_good hk, List.length_cons]
    by_cases h2 : n = 2000
    · rw [if_pos h2]
      exact ⟨fun h => by omega, fun _ => ⟨p, catT_err⟩⟩
    · rw [if_neg h2, catT_ok]
      obtain ⟨i1, i2⟩ := gtx_lex r (n + 1) (p + (textL x.1).length + x.2.length) hr (by omega)
      have e : lexT (n + [({ x.1 with pos := p } : Tok)].length) (spans x.2 (p + (textL x.1).length) ++ spans (gtx r) (p + (textL x.1).length + x.2.length)) = lexT (n + 1) (spans (gtx r) (p + (textL x.1).length + x.2.length)) := by
        show lexT (n + 1) _ = _
        rw [lexT_append, hgap, catT_none]
      rw [e]
      refine ⟨fun h => by rw [i1 (by omega)]; rfl, fun h => ?_⟩
      obtain ⟨q, hq⟩ := i2 (by omega)
      exact ⟨q, by rw [hq]⟩
/-- What the lexer makes of texts and gaps. -/
theorem gtx_LEX {r : List (Tok × List UInt8)} (h : GoodS r) : ((gtx r).length ≤ 8000 → r.length ≤ 2000 → LEX (gtx r) = ⟨tksAt 0 r, 0, 0⟩) ∧ (8000 < (gtx r).length ∨ 2000 < r.length → (LEX (gtx r)).err = 2) := by
  obtain ⟨h1, h2⟩ := gtx_lex r 0 0 h (by omega)
  refine ⟨fun hl hr => LEX_of hl (r := .ok (tksAt 0 r)) (h1 (by omega)), fun hx => ?_⟩
  by_cases hl : 8000 < (gtx r).length
  · unfold LEX; rw [if_pos hl]
  · rcases hx with hx | hx
    · exact absurd hx hl
    · obtain ⟨q, hq⟩ := h2 (by omega)
      rw [LEX_of (by omega) hq]; rfl

/-! ### Tokens that are made -/
def nameT (w : List UInt8) : Tok := ⟨1, ⟨w.toArray⟩, 0, 0⟩
def numT (m : Nat) : Tok := ⟨2, ⟨#[]⟩, m, 0⟩
def semiT : Tok := ⟨3, ⟨#[59]⟩, 0, 0⟩
theorem textL_name (w : List UInt8) : textL (nameT w) = w := rfl
theorem textL_num (m : Nat) : textL (numT m) = Lib.decDigits m := rfl
theorem textL_semi : textL semiT = [59] := rfl
theorem run_all (p : UInt8 → Bool) : ∀ (l : List UInt8), (∀ c ∈ l, p c = true) → run p l = l.length
  | [], _ => rfl
  | c :: r, h => by
    unfold run
    rw [List.takeWhile_cons_of_pos (h c (List.mem_cons_self ..)), List.length_cons, List.length_cons]
    have := run_all p r (fun d hd => h d (List.mem_cons_of_mem _ hd))
    unfold run at this
    rw [this]
theorem spans_one {c : UInt8} {r : List UInt8} (h : spanLen (c :: r) = (c :: r).length) : spans (c :: r) 0 = [⟨0, cls c, ⟨(c :: r).toArray⟩⟩] := by
  rw [spans_cons, h, List.drop_length, spans_nil, List.take_length]
theorem good_name {w : List UInt8} (h0 : w ≠ []) (hh : ∀ c, w.head? = some c → cls c = 3) (ha : ∀ c ∈ w, inNam c = true) (hl : w.length ≤ 12) : GoodT (nameT w) 3 := by
  cases w with
  | nil => exact absurd rfl h0
  | cons c r =>
    have hc := hh c rfl
    refine ⟨?_, ?_, by decide, by decide, by decide⟩
    · rw [textL_name, spans_one, hc]
      · rfl
      · simp only [spanLen]
        rw [if_neg (by omega), if_pos hc]
        exact run_all _ _ ha
    · rw [textL_name]
      unfold tokenOf
      rw [if_pos rfl, if_neg (by omega)]
      rfl
theorem dgt_cls (m : Nat) : cls (dgt m) = 4 := by
  have : m % 10 < 10 := Nat.mod_lt _ (by decide)
  unfold dgt
  rcases (show m % 10 = 0 ∨ m % 10 = 1 ∨ m % 10 = 2 ∨ m % 10 = 3 ∨ m % 10 = 4 ∨ m % 10 = 5 ∨ m % 10 = 6 ∨ m % 10 = 7 ∨ m % 10 = 8 ∨ m % 10 = 9 by omega) with h | h | h | h | h | h | h | h | h | h <;> rw [h] <;> decide
theorem dgt_val (m : Nat) : (dgt m).toNat - 48 = m % 10 := by have := dgt_nat m; omega
theorem dec_cls : ∀ (m : Nat), ∀ c ∈ Lib.decDigits m, cls c = 4 := by
  intro m
  induction m using Nat.strongRecOn with
  | ind m ih =>
    intro c hc
    by_cases h : m < 10
    · rw [dec_small h] at hc
      simp only [List.mem_singleton] at hc
      rw [hc]; exact dgt_cls m
    · rw [dec_big h] at hc
      rcases List.mem_append.1 hc with hc | hc
      · exact ih (m / 10) (by omega) c hc
      · simp only [List.mem_singleton] at hc
        rw [hc]; exact dgt_cls m
theorem num_dec : ∀ (m : Nat), num (Lib.decDigits m) = m := by
  intro m
  induction m using Nat.strongRecOn with
  | ind m ih =>
    by_cases h : m < 10
    · rw [dec_small h, num_one, dgt_val]; omega
    · rw [dec_big h, num_snoc, ih (m / 10) (by omega), dgt_val]; omega
theorem dec_ne (m : Nat) : Lib.decDigits m ≠ [] := by
  by_cases h : m < 10
  · rw [dec_small h]; simp
  · rw [dec_big h]; simp
theorem dec_head : ∀ (m : Nat), 1 ≤ m → (Lib.decDigits m).head?.map (·.toNat) ≠ some 48 := by
  intro m
  induction m using Nat.strongRecOn with
  | ind m ih =>
    intro h1
    by_cases h : m < 10
    · rw [dec_small h]
      have := dgt_val m
      simp only [List.head?_cons, Option.map_some, ne_eq, Option.some.injEq]
      omega
    · rw [dec_big h, List.head?_append]
      have := ih (m / 10) (by omega) (by omega)
      cases hh : (Lib.decDigits (m / 10)).head? with
      | none => exact absurd (List.head?_eq_none_iff.1 hh) (dec_ne _)
      | some c => rw [hh] at this; simpa using this
theorem dec_one {m : Nat} (h : 1 < (Lib.decDigits m).length) : 1 ≤ m := by
  rcases Nat.eq_zero_or_pos m with h0 | h0
  · rw [h0, dec_small (by decide)] at h; simp at h
  · exact h0
theorem good_num {m : Nat} (h : m ≤ 1000000000) : GoodT (numT m) 4 := by
  have hd := dec_cls m
  obtain ⟨c, r, hcr⟩ : ∃ c r, Lib.decDigits m = c :: r := by
    cases hh : Lib.decDigits m with
    | nil => exact absurd hh (dec_ne m)
    | cons c r => exact ⟨c, r, rfl⟩
  have hc : cls c = 4 := hd c (by rw [hcr]; exact List.mem_cons_self ..)
  refine ⟨?_, ?_, by decide, by decide, by decide⟩
  · rw [textL_num]
    have e : textB (numT m) = ⟨(Lib.decDigits m).toArray⟩ := rfl
    rw [e, hcr, spans_one, hc]
    simp only [spanLen]
    rw [if_neg (by omega), if_neg (by omega), if_pos hc]
    refine run_all _ _ (fun d hd2 => ?_)
    exact num_of (hd d (by rw [hcr]; exact hd2))
  · rw [textL_num]
    unfold tokenOf
    rw [if_neg (by decide), if_pos rfl, if_neg, num_dec, if_neg (by omega)]
    · rfl
    · rintro ⟨h1, h2⟩
      exact dec_head m (dec_one h1) h2
theorem good_semi : GoodT semiT 5 := by
  refine ⟨?_, rfl, by decide, by decide, by decide⟩
  rw [textL_semi]
  exact spans_one (c := 59) (r := []) (by decide)
end Go.Proofs.YtmdogklgbifacaaDoor.Lx
