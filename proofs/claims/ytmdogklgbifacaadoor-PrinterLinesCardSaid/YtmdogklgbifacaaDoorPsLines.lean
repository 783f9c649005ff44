/- Lines of the canonical text: no newline inside a line; where commands begin. -/
import Derived.Test.YtmdogklgbifacaaDoorPsLine
import Derived.Test.YtmdogklgbifacaaDoorPrPart
namespace Go.Proofs.YtmdogklgbifacaaDoor.Pr
open Go.RowKit Go.Proofs.YtmdogklgbifacaaDoor.Lx Go.Proofs.YtmdogklgbifacaaDoor.Ps
set_option linter.unusedVariables false

theorem good10 {t : Tok} {k : Nat} (hk : k = 3 ∨ k = 4) (h : GoodT t k) : ∀ c ∈ textL t, c ≠ 10 := by
  have hs := h.spn
  cases hl : textL t with
  | nil => rw [hl, spans_nil] at hs; cases hs
  | cons c r =>
    rw [hl, spans_cons] at hs
    injection hs with h1 h2
    injection h1 with _ hc _
    have hlen : (c :: r).length ≤ spanLen (c :: r) := by
      cases hd : (c :: r).drop (spanLen (c :: r)) with
      | nil => exact List.drop_eq_nil_iff.1 hd
      | cons d s => rw [hd, spans_cons] at h2; cases h2
    intro d hd e
    subst e
    obtain ⟨i, hi, hid⟩ := List.mem_iff_getElem.1 hd
    rcases hk with rfl | rfl
    · have hsp : spanLen (c :: r) = run inNam (c :: r) := by simp only [spanLen]; rw [if_neg (by omega), if_pos hc]
      have := runs_at inNam (c :: r) i (by omega)
      rw [hid] at this
      exact absurd this (by decide)
    · have hsp : spanLen (c :: r) = run inNum (c :: r) := by simp only [spanLen]; rw [if_neg (by omega), if_neg (by omega), if_pos hc]
      have := runs_at inNum (c :: r) i (by omega)
      rw [hid] at this
      exact absurd this (by decide)
theorem items10 : ∀ (ts : List Tok), (∀ t ∈ ts, okTok t) → ∃ b, gtx (itemsOf ts) = b ++ [59, 10] ∧ ∀ c ∈ b, c ≠ 10
  | [], _ => ⟨[], rfl, fun c hc => by cases hc⟩
  | [t], h => by
    refine ⟨textL t, rfl, ?_⟩
    rcases (h t (List.mem_cons_self ..)).1 with q | q
    · exact good10 (.inl rfl) q
    · exact good10 (.inr rfl) q
  | t :: u :: r, h => by
    obtain ⟨b, h1, h2⟩ := items10 (u :: r) (fun x hx => h x (List.mem_cons_of_mem _ hx))
    have ht : ∀ c ∈ textL t, c ≠ 10 := by
      rcases (h t (List.mem_cons_self ..)).1 with q | q
      · exact good10 (.inl rfl) q
      · exact good10 (.inr rfl) q
    refine ⟨textL t ++ ([32] ++ b), ?_, fun c hc => ?_⟩
    · show textL t ++ ([32] ++ gtx (itemsOf (u :: r))) = _
      rw [h1]
      simp
    · rcases List.mem_append.1 hc with hc | hc
      · exact ht c hc
      · rcases List.mem_append.1 hc with hc | hc
        · rw [List.mem_singleton.1 hc]; decide
        · exact h2 c hc
theorem line10 {x : Cm} (h : cmB x = true) : ∀ c ∈ lnC x, c ≠ 10 := by
  have h1 := gtx_items [x] (fun y hy => by rw [List.mem_singleton.1 hy]; exact h)
  obtain ⟨b, h2, h3⟩ := items10 _ (wds_of h)
  have h4 : itemsL [x] = itemsOf (wds x.name.data.toList (wordsP x.kind.toNat) x.ns) := by rw [itemsL_cons]; show lineI _ _ _ ++ [] = _; rw [List.append_nil]; rfl
  rw [h4, h2, outL_cons] at h1
  have h5 : lnC x = b ++ [59] := by
    have h6 : (b ++ [59]) ++ [10] = lnC x ++ [10] := by
      rw [List.append_assoc]
      have : outL [] = [] := rfl
      rw [this, List.append_nil] at h1
      exact h1
    exact (List.append_inj_left' h6 rfl).symm
  intro c hc
  rw [h5] at hc
  rcases List.mem_append.1 hc with hc | hc
  · exact h3 c hc
  · rw [List.mem_singleton.1 hc]; decide
theorem cmdsAt_pos : ∀ (l : List Cm) (p i : Nat) (h : i < (cmdsAt p l).length), ((cmdsAt p l)[i]).pos = p + (outL (l.take i)).length
  | [], p, i, h => by simp [cmdsAt] at h
  | x :: l, p, 0, h => by simp [cmdsAt, outL]
  | x :: l, p, i + 1, h => by
    simp only [cmdsAt, List.getElem_cons_succ, List.take_succ_cons]
    rw [cmdsAt_pos l, outL_cons, List.length_append, List.length_append]
    simp only [List.length_cons, List.length_nil]
    omega
theorem outL_split {l : List Cm} {i : Nat} (h : i < l.length) : outL l = outL (l.take i) ++ (outL [l[i]] ++ outL (l.drop (i + 1))) := by
  conv => lhs; rw [← List.take_append_drop i l, List.drop_eq_getElem_cons h, outL_append, outL_cons]
  congr 1
  show _ = (outL [l[i]]) ++ _
  congr 1
  rw [outL_cons]
  show _ = _ ++ []
  rw [List.append_nil]
theorem outL_take {l : List Cm} {i : Nat} (h : i < l.length) : outL (l.take (i + 1)) = outL (l.take i) ++ outL [l[i]] := by
  rw [List.take_succ_eq_append_getElem h, outL_append]
theorem outL_one (x : Cm) : outL [x] = lnC x ++ [10] := by
  rw [outL_cons]
  show _ ++ [] = _
  rw [List.append_nil]
end Go.Proofs.YtmdogklgbifacaaDoor.Pr
