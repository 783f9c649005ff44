/- The reader's word, name; what a part of a form does. -/
import Derived.Test.YtmdogklgbifacaaDoorPsRd
import Derived.Test.YtmdogklgbifacaaDoorPrA
namespace Go.Proofs.YtmdogklgbifacaaDoor.Ps
open Go.RowKit Go.Proofs.YtmdogklgbifacaaDoor.Lx Go.Proofs.YtmdogklgbifacaaDoor.Pr
set_option linter.unusedVariables false

/-- A token as the lexer makes it. -/
structure WfT (t : Tok) : Prop where
  w2 : t.kind = 2 → t.text.data.toList = []
  w3 : t.kind = 3 → t.text.data.toList = [59]
  w1 : t.kind ≠ 2 → t.kind ≠ 3 → t.kind = 1 ∧ t.text.data.toList ≠ [59] ∧ t.text.data.toList ≠ []
  n : t.n ≤ 1000000000
  size : t.text.size ≤ 8000
def Wf (ts : List Tok) : Prop := ∀ t ∈ ts, WfT t
theorem Wf.drop {ts : List Tok} (h : Wf ts) (k : Nat) : Wf (ts.drop k) := fun t ht => h t (List.mem_of_mem_drop ht)
theorem Wf.tail {t : Tok} {ts : List Tok} (h : Wf (t :: ts)) : Wf ts := fun u hu => h u (List.mem_cons_of_mem _ hu)
def pvE (p : Nat) : Ending := .panicked [{ v := FV p, recovered := false }]
/-- What reading the parts of a form does. -/
def Post (wP : World) (rb e : Nat) (ps : List (List UInt8)) (ts : List Tok) (K : Int) (nm : ByteArray) (NV : Value) (ns : List Int) (at_ : Int) (W : World) (e' : Ending) (W' : World) : Prop :=
  ∃ A' n' c' nm' NV' ns', RS wP rb e A' n' c' (ts.drop (matchB ts ps)) K nm' NV' ns' at_ W' ∧ Gr rb NV.ownBlock W W' ∧ (NV'.ownBlock = NV.ownBlock ∨ ∃ k, NV'.ownBlock = some k ∧ W.heap.size ≤ k) ∧
    ((matchB ts ps = ps.length ∧ e' = .returned (.tuple #[]) ∧ nm' = nmB nm ts ps ∧ ns' = ns ++ nsB false ts ps) ∨ (matchB ts ps < ps.length ∧ e' = pvE (nextT (ts.drop (matchB ts ps)) e).pos))
theorem match_append : ∀ (p1 p2 : List (List UInt8)) (ts : List Tok), matchB ts (p1 ++ p2) = if matchB ts p1 = p1.length then p1.length + matchB (ts.drop p1.length) p2 else matchB ts p1
  | [], p2, ts => by cases ts <;> simp [matchB]
  | p :: p1, p2, [] => by simp [matchB]
  | p :: p1, p2, t :: ts => by
    simp only [List.cons_append, matchB, List.length_cons, List.drop_succ_cons]
    by_cases hf : fitsB t p = true
    · rw [if_pos hf, if_pos hf, match_append p1 p2 ts]
      by_cases hm : matchB ts p1 = p1.length
      · rw [if_pos hm, if_pos (by omega)]; omega
      · rw [if_neg hm, if_neg (by omega)]
    · rw [if_neg hf, if_neg hf, if_neg (by omega)]
theorem ns_append : ∀ (p1 p2 : List (List UInt8)) (ts : List Tok) (neg : Bool), matchB ts p1 = p1.length → p1.getLast? ≠ some [100] → (neg = false ∨ p1 ≠ []) → nsB neg ts (p1 ++ p2) = nsB neg ts p1 ++ nsB false (ts.drop p1.length) p2
  | [], p2, ts, neg, _, _, h => by
    have hn : neg = false := h.elim id (fun h => absurd rfl h)
    subst hn
    cases ts <;> simp [nsB]
  | p :: p1, p2, [], neg, hm, _, _ => by simp [matchB] at hm
  | p :: p1, p2, t :: ts, neg, hm, hl, _ => by
    simp only [matchB, List.length_cons] at hm
    have hf : fitsB t p = true := by
      by_cases hf : fitsB t p = true
      · exact hf
      · rw [if_neg hf] at hm; omega
    rw [if_pos hf] at hm
    have hm2 : matchB ts p1 = p1.length := by omega
    simp only [List.cons_append, nsB, List.length_cons, List.drop_succ_cons]
    cases p1 with
    | nil =>
      have hp : p ≠ [100] := fun e => hl (by rw [e]; rfl)
      by_cases h35 : p = [35]
      · rw [if_pos h35, if_pos h35]
        cases ts <;> simp [nsB]
      · rw [if_neg h35, if_neg h35, decide_eq_false hp, Bool.false_and]
        cases ts <;> simp [nsB]
    | cons q r =>
      have hl2 : (q :: r).getLast? ≠ some [100] := fun e => hl (by rw [List.getLast?_cons_cons]; exact e)
      by_cases h35 : p = [35]
      · rw [if_pos h35, if_pos h35, ns_append (q :: r) p2 ts false hm2 hl2 (.inl rfl)]; rfl
      · rw [if_neg h35, if_neg h35, ns_append (q :: r) p2 ts _ hm2 hl2 (.inr (by simp))]
theorem nm_append : ∀ (p1 p2 : List (List UInt8)) (ts : List Tok) (nm : ByteArray), matchB ts p1 = p1.length → nmB nm ts (p1 ++ p2) = nmB (nmB nm ts p1) (ts.drop p1.length) p2
  | [], p2, ts, nm, _ => by cases ts <;> simp [nmB]
  | p :: p1, p2, [], nm, hm => by simp [matchB] at hm
  | p :: p1, p2, t :: ts, nm, hm => by
    simp only [matchB, List.length_cons] at hm
    have hf : fitsB t p = true := by
      by_cases hf : fitsB t p = true
      · exact hf
      · rw [if_neg hf] at hm; omega
    rw [if_pos hf] at hm
    simp only [List.cons_append, nmB, List.length_cons, List.drop_succ_cons]
    exact nm_append p1 p2 ts _ (by omega)
section
variable {wP W W1 W2 : World} {rb e : Nat} {ps p1 p2 : List (List UInt8)} {ts : List Tok} {K : Int} {nm : ByteArray} {NV : Value} {ns : List Int} {at_ : Int} {e1 e2 : Ending}
/-- Where the first parts fail all fails. -/
theorem Post.fail (h : Post wP rb e p1 ts K nm NV ns at_ W e1 W1) (hm : matchB ts p1 < p1.length) : Post wP rb e (p1 ++ p2) ts K nm NV ns at_ W e1 W1 := by
  obtain ⟨A', n', c', nm', NV', ns', h1, h2, h3, h4⟩ := h
  have hma : matchB ts (p1 ++ p2) = matchB ts p1 := by rw [match_append, if_neg (by omega)]
  refine ⟨A', n', c', nm', NV', ns', by rw [hma]; exact h1, h2, h3, .inr ⟨by rw [hma, List.length_append]; omega, ?_⟩⟩
  rw [hma]
  rcases h4 with ⟨h, _⟩ | ⟨_, h⟩
  · omega
  · exact h
/-- The first parts being read, others. -/
theorem Post.trans (h : Post wP rb e p1 ts K nm NV ns at_ W e1 W1) (hm : matchB ts p1 = p1.length) (hl : p1.getLast? ≠ some [100])
    (k : ∀ A' n' c' nm' NV' ns', RS wP rb e A' n' c' (ts.drop p1.length) K nm' NV' ns' at_ W1 → Post wP rb e p2 (ts.drop p1.length) K nm' NV' ns' at_ W1 e2 W2) : Post wP rb e (p1 ++ p2) ts K nm NV ns at_ W e2 W2 := by
  obtain ⟨A', n', c', nm', NV', ns', h1, h2, h3, h4⟩ := h
  rw [hm] at h1
  obtain ⟨_, _, h5, h6⟩ : matchB ts p1 = p1.length ∧ e1 = .returned (.tuple #[]) ∧ nm' = nmB nm ts p1 ∧ ns' = ns ++ nsB false ts p1 := by
    rcases h4 with h | ⟨h, _⟩
    · exact h
    · omega
  obtain ⟨A2, n2, c2, nm2, NV2, ns2, g1, g2, g3, g4⟩ := k A' n' c' nm' NV' ns' h1
  have hma : matchB ts (p1 ++ p2) = p1.length + matchB (ts.drop p1.length) p2 := by rw [match_append, if_pos hm]
  have hd : ts.drop (matchB ts (p1 ++ p2)) = (ts.drop p1.length).drop (matchB (ts.drop p1.length) p2) := by rw [hma, List.drop_drop]
  refine ⟨A2, n2, c2, nm2, NV2, ns2, by rw [hd]; exact g1, h2.trans g2 ?_, ?_, ?_⟩
  · rcases h3 with h | ⟨k, h, hk⟩
    · exact .inr (.inl h)
    · exact .inr (.inr ⟨k, h, hk⟩)
  · rcases g3 with g | ⟨k, g, hk⟩
    · rcases h3 with h | ⟨k, h, hk⟩
      · exact .inl (g.trans h)
      · exact .inr ⟨k, g.trans h, hk⟩
    · exact .inr ⟨k, g, Nat.le_trans h2.size hk⟩
  · rcases g4 with ⟨q1, q2, q3, q4⟩ | ⟨q1, q2⟩
    · refine .inl ⟨by rw [hma, q1, List.length_append], q2, ?_, ?_⟩
      · rw [q3, h5, nm_append p1 p2 ts nm hm]
      · rw [q4, h6, ns_append p1 p2 ts false hm hl (.inl rfl), List.append_assoc]
    · exact .inr ⟨by rw [hma, List.length_append]; omega, by rw [hd]; exact q2⟩
theorem RS.post0 {A : Option Addr} {n c : Nat} (h : RS wP rb e A n c ts K nm NV ns at_ W) : Post wP rb e [] ts K nm NV ns at_ W (.returned (.tuple #[])) W :=
  ⟨A, n, c, nm, NV, ns, by simpa [matchB] using h, Gr.refl _ _ _, .inl rfl, .inl ⟨by cases ts <;> rfl, rfl, by cases ts <;> rfl, by cases ts <;> simp [nsB]⟩⟩
end
end Go.Proofs.YtmdogklgbifacaaDoor.Ps
