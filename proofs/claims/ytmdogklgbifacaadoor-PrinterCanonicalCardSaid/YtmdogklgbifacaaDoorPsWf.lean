/- The lexer's tokens are well formed; what is read of them is bounded. -/
import Derived.Test.YtmdogklgbifacaaDoorPsWord
namespace Go.Proofs.YtmdogklgbifacaaDoor.Ps
open Go.RowKit Go.Proofs.YtmdogklgbifacaaDoor.Lx Go.Proofs.YtmdogklgbifacaaDoor.Pr
set_option linter.unusedVariables false

/-- A span as it stands in a script. -/
structure SpT (L : Nat) (x : Span) : Prop where
  head : ∃ c r, x.text.data.toList = c :: r ∧ cls c = x.cls
  one : x.cls = 5 → x.text.data.toList = [59]
  le : x.cls ≤ 5
  size : x.text.data.toList.length ≤ L
  pos : x.pos ≤ L
theorem spans_spT (L : Nat) : ∀ (n : Nat) (l : List UInt8) (p : Nat), l.length ≤ n → p + l.length ≤ L → ∀ x ∈ spans l p, SpT L x
  | 0, l, p, h, _, x, hx => by
    obtain rfl : l = [] := List.eq_nil_of_length_eq_zero (by omega)
    rw [spans_nil] at hx; cases hx
  | n + 1, [], p, h, _, x, hx => by rw [spans_nil] at hx; cases hx
  | n + 1, c :: r, p, h, hL, x, hx => by
    have h1 := spanLen_pos c r
    have h2 := spanLen_le (c :: r)
    rw [spans_cons] at hx
    rcases List.mem_cons.1 hx with rfl | hx
    · have ht : (c :: r).take (spanLen (c :: r)) = c :: r.take (spanLen (c :: r) - 1) := by
        cases hs : spanLen (c :: r) with
        | zero => omega
        | succ k => rw [List.take_succ_cons]; rfl
      refine ⟨⟨c, _, ht, rfl⟩, fun h5 => ?_, cls_le c, ?_, ?_⟩
      · have h5' : cls c = 5 := h5
        have hs : spanLen (c :: r) = 1 := by
          simp only [spanLen]
          rw [if_neg (by omega), if_neg (by omega), if_neg (by omega)]
        show (c :: r).take (spanLen (c :: r)) = [59]
        rw [hs]
        have hc : c.toNat = 59 := by
          unfold cls at h5'
          repeat' split at h5'
          all_goals first | omega | assumption
        rw [show c = 59 from UInt8.toNat_inj.1 hc]
        rfl
      · show ((c :: r).take (spanLen (c :: r))).length ≤ L
        rw [List.length_take]
        omega
      · show p ≤ L
        omega
    · exact spans_spT L n _ _ (by rw [List.length_drop]; simp only [List.length_cons] at *; omega) (by rw [List.length_drop]; omega) x hx
def WfP (t : Tok) : Prop := WfT t ∧ t.pos ≤ 8000
theorem tok_wf {x : Span} (h : SpT 8000 x) {t : Tok} (ht : tokenOf x.cls x.text.data.toList = .ok t) (h0 : x.cls ≠ 0) (h1 : x.cls ≠ 1) (h2 : x.cls ≠ 2) : WfP { t with pos := x.pos } := by
  obtain ⟨c, r, hx, hc⟩ := h.head
  unfold tokenOf at ht
  by_cases k3 : x.cls = 3
  · rw [if_pos k3] at ht
    split at ht
    · cases ht
    · rename_i hl
      injection ht with ht
      subst ht
      refine ⟨⟨fun q => absurd q (show (1 : Nat) ≠ 2 by decide), fun q => absurd q (show (1 : Nat) ≠ 3 by decide), fun _ _ => ⟨rfl, ?_, ?_⟩, Nat.zero_le _, ?_⟩, h.pos⟩
      · show x.text.data.toList ≠ [59]
        intro q
        rw [hx] at q
        injection q with q _
        rw [q, k3] at hc
        revert hc
        decide
      · show x.text.data.toList ≠ []
        rw [hx]; simp
      · show x.text.data.toList.length ≤ 8000
        omega
  · rw [if_neg k3] at ht
    by_cases k4 : x.cls = 4
    · rw [if_pos k4] at ht
      split at ht
      · cases ht
      · split at ht
        · cases ht
        · rename_i hn
          injection ht with ht
          subst ht
          exact ⟨⟨fun _ => rfl, fun q => absurd q (show (2 : Nat) ≠ 3 by decide), fun q => absurd rfl q, by show num x.text.data.toList ≤ 1000000000; omega, by show (0 : Nat) ≤ 8000; omega⟩, h.pos⟩
    · rw [if_neg k4] at ht
      injection ht with ht
      subst ht
      have h5 : x.cls = 5 := by have := h.le; omega
      exact ⟨⟨fun q => absurd q (show (3 : Nat) ≠ 2 by decide), fun _ => h.one h5, fun _ q => absurd rfl q, Nat.zero_le _, h.size⟩, h.pos⟩
theorem lexE_wf : ∀ (xs : List Span) (acc a : List Tok), (∀ x ∈ xs, SpT 8000 x) → (∀ t ∈ acc, WfP t) → acc.length ≤ 2000 → lexE acc xs = .ok a → (∀ t ∈ a, WfP t) ∧ a.length ≤ 2000
  | [], acc, a, _, hacc, hl, h => by
    simp only [lexE] at h
    injection h with h
    subst h
    exact ⟨hacc, hl⟩
  | x :: xs, acc, a, hx, hacc, hl, h => by
    simp only [lexE] at h
    cases hs : stepS acc x with
    | error e => rw [hs] at h; cases h
    | ok b =>
      rw [hs] at h
      refine lexE_wf xs b a (fun y hy => hx y (List.mem_cons_of_mem _ hy)) ?_ (stepS_len hs hl) h
      unfold stepS at hs
      split at hs
      · injection hs with hs; subst hs; exact hacc
      · rename_i h12
        split at hs
        · cases hs
        · rename_i h0
          split at hs
          · cases hs
          · split at hs
            · cases hs
            · rename_i t ht
              injection hs with hs
              subst hs
              intro u hu
              rcases List.mem_append.1 hu with hu | hu
              · exact hacc u hu
              · rw [List.mem_singleton] at hu
                subst hu
                exact tok_wf (hx x (List.mem_cons_self ..)) ht h0 (fun q => h12 (.inl q)) (fun q => h12 (.inr q))
theorem lex_wf (l : List UInt8) : (∀ t ∈ (LEX l).toks, WfP t) ∧ (LEX l).toks.length ≤ 2000 := by
  unfold LEX
  split
  · show (∀ t ∈ ([] : List Tok), WfP t) ∧ ([] : List Tok).length ≤ 2000
    exact ⟨fun t ht => (by cases ht), by simp⟩
  · rename_i h8
    cases hr : lexE [] (spans l 0) with
    | error e =>
      show (∀ t ∈ ([] : List Tok), WfP t) ∧ ([] : List Tok).length ≤ 2000
      exact ⟨fun t ht => (by cases ht), by simp⟩
    | ok a => exact lexE_wf (spans l 0) [] a (fun x hx => spans_spT 8000 l.length l 0 (Nat.le_refl _) (by omega) x hx) (fun t ht => by cases ht) (by decide) hr
/-- What is read is bounded. -/
structure PcOk (c : PC) : Prop where
  kind : c.kind ≤ 11
  name : c.name.size ≤ 8000
  ns : ∀ v ∈ c.ns, -1000000000 ≤ v ∧ v ≤ 1000000000
  len : c.ns.length ≤ 12
  pos : c.pos ≤ 8000
theorem nm_ok : ∀ (ts : List Tok) (ps : List (List UInt8)) (nm : ByteArray), (∀ t ∈ ts, WfP t) → nm.size ≤ 8000 → (nmB nm ts ps).size ≤ 8000
  | [], ps, nm, _, h => by simpa [nmB] using h
  | t :: ts, [], nm, _, h => by simpa [nmB] using h
  | t :: ts, p :: ps, nm, hw, h => by
    simp only [nmB]
    refine nm_ok ts ps _ (fun u hu => hw u (List.mem_cons_of_mem _ hu)) ?_
    split
    · exact (hw t (List.mem_cons_self ..)).1.size
    · exact h
theorem ns_ok : ∀ (ts : List Tok) (ps : List (List UInt8)) (neg : Bool), (∀ t ∈ ts, WfP t) → ∀ v ∈ nsB neg ts ps, -1000000000 ≤ v ∧ v ≤ 1000000000
  | [], ps, neg, _, v, hv => by simp [nsB] at hv
  | t :: ts, [], neg, _, v, hv => by simp [nsB] at hv
  | t :: ts, p :: ps, neg, hw, v, hv => by
    have hn := (hw t (List.mem_cons_self ..)).1.n
    have hw' : ∀ u ∈ ts, WfP u := fun u hu => hw u (List.mem_cons_of_mem _ hu)
    simp only [nsB] at hv
    split at hv
    · rcases List.mem_cons.1 hv with rfl | hv
      · split <;> omega
      · exact ns_ok ts ps _ hw' v hv
    · exact ns_ok ts ps _ hw' v hv
theorem ns_len : ∀ (ts : List Tok) (ps : List (List UInt8)) (neg : Bool), (nsB neg ts ps).length ≤ ps.length
  | [], ps, neg => by simp [nsB]
  | t :: ts, [], neg => by simp [nsB]
  | t :: ts, p :: ps, neg => by
    simp only [nsB]
    split
    · have := ns_len ts ps false; simp only [List.length_cons]; omega
    · have := ns_len ts ps (decide (p = [100]) && t.text.data.toList == bSlow); simp only [List.length_cons]; omega
theorem look_mem {l : List (List UInt8 × Nat)} {w : List UInt8} {k : Nat} (h : lookB l w = some k) : k ∈ l.map (·.2) := by
  unfold lookB at h
  obtain ⟨x, hx, rfl⟩ := Option.map_eq_some_iff.1 h
  exact List.mem_map_of_mem (List.mem_of_find?_eq_some hx)
theorem sel_kind {ts : List Tok} {k : Nat} (h : selB ts = .ok k) : 1 ≤ k ∧ k ≤ 11 := by
  have hb : ∀ l : List Nat, (l.all fun k => decide (1 ≤ k ∧ k ≤ 11)) = true → k ∈ l → 1 ≤ k ∧ k ≤ 11 := fun l hl hk => by simpa using List.all_eq_true.1 hl k hk
  unfold selB at h
  split at h
  · split at h
    · cases hq : lookB evTab (txtB ts[2]?) with
      | none => rw [hq] at h; cases h
      | some j => rw [hq] at h; injection h with h; subst h; exact hb _ (by decide) (look_mem hq)
    · cases h
  · cases hq : lookB cmdTab (txtB ts.head?) with
    | none => rw [hq] at h; cases h
    | some j => rw [hq] at h; injection h with h; subst h; exact hb _ (by decide) (look_mem hq)
end Go.Proofs.YtmdogklgbifacaaDoor.Ps
