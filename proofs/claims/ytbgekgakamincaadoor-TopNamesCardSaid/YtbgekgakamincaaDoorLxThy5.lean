/- The lexer in plain Lean: the texts are at their offsets, gaps lie between. -/
import Derived.Test.YtbgekgakamincaaDoorLxC
namespace Go.Proofs.YtbgekgakamincaaDoor.Lx
set_option linter.unusedVariables false

/-- Bytes that are gaps; is a comment open at the end? -/
def gapsF (c : Bool) : List UInt8 → Option Bool
  | [] => some c
  | b :: r => if b.toNat = 10 then gapsF false r else if b.toNat = 35 then gapsF true r else if c = false ∧ b.toNat ≠ 32 ∧ b.toNat ≠ 9 then none else gapsF c r
theorem gapsF_append : ∀ (a b : List UInt8) (c : Bool), gapsF c (a ++ b) = (gapsF c a).bind (fun d => gapsF d b)
  | [], b, c => rfl
  | x :: a, b, c => by
    rw [List.cons_append]
    simp only [gapsF]
    split
    · exact gapsF_append a b false
    · split
      · exact gapsF_append a b true
      · split
        · rfl
        · exact gapsF_append a b c
theorem gapsF_com : ∀ (l : List UInt8), (∀ d ∈ l, inCom d = true) → gapsF true l = some true
  | [], _ => rfl
  | d :: l, h => by
    have h1 := h d (List.mem_cons_self ..)
    unfold inCom at h1
    rw [decide_eq_true_eq] at h1
    have ih := gapsF_com l fun e he => h e (List.mem_cons_of_mem _ he)
    simp only [gapsF]
    rw [if_neg h1]
    split
    · exact ih
    · rw [if_neg (by simp)]
      exact ih
theorem cls_one {d : UInt8} (h : cls d = 1) : d.toNat = 32 ∨ d.toNat = 9 ∨ d.toNat = 10 := by
  unfold cls at h
  split at h
  · assumption
  · split at h
    · cases h
    · split at h
      · cases h
      · split at h
        · cases h
        · split at h <;> cases h
theorem cls_two {d : UInt8} (h : cls d = 2) : d.toNat = 35 := by
  unfold cls at h
  split at h
  · cases h
  · split at h
    · assumption
    · split at h
      · cases h
      · split at h
        · cases h
        · split at h <;> cases h
/-- What the law asks of the tokens. -/
def chk (l : List UInt8) : Nat → List Tok → Prop
  | p, [] => ∃ c, gapsF false (l.drop p) = some c
  | p, t :: ts => textL t ≠ [] ∧ p ≤ t.pos ∧ t.pos + (textL t).length ≤ l.length ∧ (l.drop t.pos).take (textL t).length = textL t ∧ gapsF false ((l.take t.pos).drop p) = some false ∧ chk l (t.pos + (textL t).length) ts
theorem chk_of : ∀ (xs X : List Span) (l : List UInt8) (p n : Nat) (ts : List Tok) (c : Bool), spans l 0 = X ++ xs → lexT n xs = .ok ts → p ≤ spLen X → gapsF false ((l.take (spLen X)).drop p) = some c → (c = true → ∀ d r, l.drop (spLen X) = d :: r → d.toNat = 10) → chk l p ts
  | [], X, l, p, n, ts, c, hs, h, hp, hg, hc => by
    simp only [lexT] at h
    injection h with h
    subst h
    rw [List.append_nil] at hs
    have := spLen_all _ l 0 (Nat.le_refl _)
    rw [hs] at this
    rw [this, List.take_length] at hg
    exact ⟨c, hg⟩
  | x :: xs, X, l, p, n, ts, c, hs, h, hp, hg, hc => by
    obtain ⟨s1, d, r, s2, s3, s4, s5⟩ := spans_at hs
    rw [Nat.zero_add] at s1
    have h1 := spanLen_pos d r
    have hle := spanLen_le (d :: r)
    have hlen := congrArg List.length s2
    rw [List.length_drop] at hlen
    have hs' : spans l 0 = (X ++ [x]) ++ xs := by rw [hs]; simp
    have hX : spLen (X ++ [x]) = spLen X + spanLen (d :: r) := by rw [spLen_append, spLen_cons, s4]; rfl
    have htx : (l.drop (spLen X)).take (spanLen (d :: r)) = x.text.data.toList := by rw [s2, s5]
    have htake : l.take (spLen X + spanLen (d :: r)) = l.take (spLen X) ++ x.text.data.toList := by rw [List.take_add, htx]
    have htl : (l.take (spLen X)).length = spLen X := by rw [List.length_take]; omega
    have hnext : cls d = 2 → ∀ d' r', l.drop (spLen X + spanLen (d :: r)) = d' :: r' → d'.toNat = 10 := fun h2 d' r' e => by
      rw [← List.drop_drop, s2] at e
      have hlt : spanLen (d :: r) < (d :: r).length := by
        have := congrArg List.length e
        rw [List.length_drop] at this
        have h0 : 0 < (d' :: r').length := Nat.succ_pos _
        omega
      have hm := munch d r hlt
      have e' := List.drop_eq_getElem_cons hlt
      rw [e] at e'
      injection e' with e' _
      rw [← e', h2] at hm
      have hm : inCom d' = false := hm
      unfold inCom at hm
      rw [decide_eq_false_iff_not, Classical.not_not] at hm
      exact hm
    rw [lexT] at h
    cases hy : tokS n x with
    | error d => rw [hy, catT_err] at h; cases h
    | ok y =>
      rw [hy, catT_ok] at h
      cases hr : lexT (n + y.length) xs with
      | error d => rw [hr] at h; cases h
      | ok z =>
        rw [hr] at h
        injection h with h
        subst h
        rcases tokS_ok hy with ⟨rfl, hk⟩ | ⟨u, rfl, hu, c0, c1, c2, _⟩
        · have hg2 : gapsF false ((l.take (spLen (X ++ [x]))).drop p) = gapsF c x.text.data.toList := by
            rw [hX, htake, List.drop_append_of_le_length (by omega), gapsF_append, hg]
            rfl
          rcases hk with hk | hk
          · have hd1 : cls d = 1 := by rw [← s3]; exact hk
            have h3 : gapsF c x.text.data.toList = some false := by
              have : spanLen (d :: r) = 1 := by simp only [spanLen]; rw [if_neg (by omega), if_neg (by omega), if_neg (by omega)]
              rw [s5, this]
              show gapsF c [d] = some false
              simp only [gapsF]
              rcases cls_one hd1 with e | e | e
              · rw [if_neg (by omega), if_neg (by omega)]
                cases c with
                | false => rw [if_neg (by omega)]
                | true => have := hc rfl d r s2; omega
              · rw [if_neg (by omega), if_neg (by omega)]
                cases c with
                | false => rw [if_neg (by omega)]
                | true => have := hc rfl d r s2; omega
              · rw [if_pos e]
            exact chk_of xs (X ++ [x]) l p _ z false hs' hr (by omega) (hg2.trans h3) (fun h => by cases h)
          · have hd2 : cls d = 2 := by rw [← s3]; exact hk
            have h3 : gapsF c x.text.data.toList = some true := by
              have hsl : spanLen (d :: r) = run inCom (d :: r) := by simp only [spanLen]; rw [if_pos hd2]
              have hall : ∀ e ∈ (d :: r).take (spanLen (d :: r)), inCom e = true := by
                intro e he
                rw [hsl] at he
                obtain ⟨i, hi, rfl⟩ := List.mem_iff_getElem.1 he
                rw [List.length_take] at hi
                rw [List.getElem_take]
                exact runs_at inCom (d :: r) i (by omega)
              rw [s5]
              obtain ⟨q, hq⟩ : ∃ q, spanLen (d :: r) = q + 1 := ⟨spanLen (d :: r) - 1, by omega⟩
              rw [hq, List.take_succ_cons] at hall ⊢
              have e := cls_two hd2
              simp only [gapsF]
              rw [if_neg (by omega), if_pos e]
              exact gapsF_com _ fun e he => hall e (List.mem_cons_of_mem _ he)
            exact chk_of xs (X ++ [x]) l p _ z true hs' hr (by omega) (hg2.trans h3) (fun _ => by rw [hX]; exact hnext hd2)
        · have hcf : c = false := by
            cases c with
            | false => rfl
            | true =>
              have := hc rfl d r s2
              exact absurd (by rw [s3]; unfold cls; rw [if_pos (by omega)]) c1
          subst hcf
          obtain ⟨g1, g2⟩ := good_tok hs hu c0 c1 c2
          have hL : textL { u with pos := x.pos } = x.text.data.toList := by unfold textL; rw [g2]
          have hLl : (textL { u with pos := x.pos }).length = spanLen (d :: r) := by rw [hL]; rw [← s4]; exact Array.length_toList
          show textL { u with pos := x.pos } ≠ [] ∧ p ≤ x.pos ∧ x.pos + (textL { u with pos := x.pos }).length ≤ l.length ∧ (l.drop x.pos).take (textL { u with pos := x.pos }).length = textL { u with pos := x.pos } ∧ gapsF false ((l.take x.pos).drop p) = some false ∧ chk l (x.pos + (textL { u with pos := x.pos }).length) z
          rw [hLl, s1]
          refine ⟨fun e => ?_, hp, by omega, by rw [s1] at hL; rw [hL, ← htx], hg, ?_⟩
          · rw [s1, e] at hLl
            simp only [List.length_nil] at hLl
            omega
          · refine chk_of xs (X ++ [x]) l _ _ z false hs' hr (by omega) ?_ (fun h => by cases h)
            rw [hX, List.drop_of_length_le (by rw [List.length_take]; omega)]
            rfl
theorem chk_law {l : List UInt8} {ts : List Tok} (h : LEX l = ⟨ts, 0, 0⟩) : chk l 0 ts := by
  have hts := (LEX_good (l := l) (by rw [h])).2.1
  rw [h] at hts
  exact chk_of _ [] l 0 0 ts false rfl hts (Nat.le_refl _) rfl (fun h => by cases h)
end Go.Proofs.YtbgekgakamincaaDoor.Lx
