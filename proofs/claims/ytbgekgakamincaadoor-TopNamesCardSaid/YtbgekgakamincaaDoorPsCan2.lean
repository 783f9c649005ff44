/- Other gaps: the same commands. -/
import Derived.Test.YtbgekgakamincaaDoorPsCan
import Derived.Test.YtbgekgakamincaaDoorPsD
namespace Go.Proofs.YtbgekgakamincaaDoor.Ps
open Go.RowKit Go.Proofs.YtbgekgakamincaaDoor.Lx Go.Proofs.YtbgekgakamincaaDoor.Pr
set_option linter.unusedVariables false

/-- A token without its place. -/
def er (t : Tok) : Nat × ByteArray × Nat := (t.kind, t.text, t.n)
theorem er_fit {t u : Tok} (h : er t = er u) (p : List UInt8) : fitsB t p = fitsB u p := by
  unfold er at h
  injection h with h1 h2
  injection h2 with h2 h3
  unfold fitsB
  rw [h1, h2]
theorem er_match : ∀ (ts us : List Tok) (ps : List (List UInt8)), ts.map er = us.map er → matchB ts ps = matchB us ps
  | [], [], ps, _ => rfl
  | [], u :: us, ps, h => by cases h
  | t :: ts, [], ps, h => by cases h
  | t :: ts, u :: us, [], _ => rfl
  | t :: ts, u :: us, p :: ps, h => by
    injection h with h1 h2
    simp only [matchB]
    rw [er_fit h1, er_match ts us ps h2]
theorem er_ns : ∀ (ts us : List Tok) (ps : List (List UInt8)) (neg : Bool), ts.map er = us.map er → nsB neg ts ps = nsB neg us ps
  | [], [], ps, _, _ => rfl
  | [], u :: us, ps, _, h => by cases h
  | t :: ts, [], ps, _, h => by cases h
  | t :: ts, u :: us, [], _, _ => rfl
  | t :: ts, u :: us, p :: ps, neg, h => by
    injection h with h1 h2
    unfold er at h1
    injection h1 with h3 h4
    injection h4 with h4 h5
    simp only [nsB]
    rw [h4, h5, er_ns ts us ps _ h2, er_ns ts us ps _ h2]
theorem er_nm : ∀ (ts us : List Tok) (ps : List (List UInt8)) (nm : ByteArray), ts.map er = us.map er → nmB nm ts ps = nmB nm us ps
  | [], [], ps, _, _ => rfl
  | [], u :: us, ps, _, h => by cases h
  | t :: ts, [], ps, _, h => by cases h
  | t :: ts, u :: us, [], _, _ => rfl
  | t :: ts, u :: us, p :: ps, nm, h => by
    injection h with h1 h2
    unfold er at h1
    injection h1 with h3 h4
    injection h4 with h4 h5
    simp only [nmB]
    rw [h4, er_nm ts us ps _ h2]
theorem er_get {ts us : List Tok} (h : ts.map er = us.map er) (i : Nat) : (ts[i]?).map er = (us[i]?).map er := by
  rw [← List.getElem?_map, ← List.getElem?_map, h]
theorem er_txt {a b : Option Tok} (h : a.map er = b.map er) : txtB a = txtB b := by
  cases a <;> cases b
  · rfl
  · cases h
  · cases h
  · injection h with h
    unfold er at h
    injection h with _ h
    injection h with h _
    show _ = _
    unfold txtB
    simp only [h]
theorem er_kind {a b : Option Tok} (h : a.map er = b.map er) : a.map (·.kind) = b.map (·.kind) := by
  cases a <;> cases b
  · rfl
  · cases h
  · cases h
  · injection h with h
    unfold er at h
    injection h with h _
    simp only [Option.map_some, h]
theorem er_sel {ts us : List Tok} (h : ts.map er = us.map er) : selB ts = selB us := by
  have h0 := er_txt (er_get h 0)
  rw [← List.head?_eq_getElem?, ← List.head?_eq_getElem?] at h0
  unfold selB
  rw [h0, er_kind (er_get h 1), er_txt (er_get h 2)]
theorem er_rd {ts us : List Tok} (h : ts.map er = us.map er) : (rdB ts).2 = (rdB us).2 ∧ (rdB ts).1.map keyP = (rdB us).1.map keyP := by
  unfold rdB
  rw [er_sel h]
  cases selB us with
  | error n => exact ⟨rfl, rfl⟩
  | ok k =>
    simp only
    rw [er_match ts us _ h]
    by_cases hm : matchB us (expL (k : Int)) = (expL (k : Int)).length
    · rw [if_pos hm, if_pos hm]
      refine ⟨rfl, ?_⟩
      show some (keyP (builtB k ts)) = some (keyP (builtB k us))
      unfold keyP builtB
      rw [er_nm ts us _ _ h, er_ns ts us _ _ h]
    · rw [if_neg hm, if_neg hm]
      exact ⟨rfl, rfl⟩
theorem loop_grow (e : Nat) : ∀ (F : Nat) (ts : List Tok) (r : PR), (loopB e F ts r).dgs = [] → r.dgs = []
  | 0, ts, r, h => h
  | F + 1, ts, r, h => by
    simp only [loopB] at h
    split at h
    · exact h
    · split at h
      · rename_i c m hr
        exact loop_grow e F (ts.drop m) ⟨r.out ++ [c], r.dgs⟩ h
      · rename_i m hr
        have := loop_grow e F (skipB (ts.drop m)) ⟨r.out, r.dgs ++ [posB (ts.drop m).head? e]⟩ h
        simp at this
theorem er_loop (e e' : Nat) : ∀ (F : Nat) (ts us : List Tok) (pcs qcs out : List PC), ts.map er = us.map er → pcs.map keyP = qcs.map keyP → loopB e F ts ⟨pcs, []⟩ = ⟨out, []⟩ → ∃ out', loopB e' F us ⟨qcs, []⟩ = ⟨out', []⟩ ∧ out.map keyP = out'.map keyP
  | 0, ts, us, pcs, qcs, out, h, hk, hl => by
    injection hl with hl _
    subst hl
    exact ⟨qcs, rfl, hk⟩
  | F + 1, ts, us, pcs, qcs, out, h, hk, hl => by
    simp only [loopB] at hl ⊢
    by_cases h0 : ts = []
    · have h0' : us = [] := by subst h0; cases us with | nil => rfl | cons a b => cases h
      rw [if_pos (.inl h0)] at hl
      rw [if_pos (.inl h0')]
      injection hl with hl _
      subst hl
      exact ⟨qcs, rfl, hk⟩
    · have h0' : us ≠ [] := fun q => h0 (by subst q; cases ts with | nil => rfl | cons a b => cases h)
      rw [if_neg (by rintro (q | q); exact h0 q; cases q)] at hl
      rw [if_neg (by rintro (q | q); exact h0' q; cases q)]
      obtain ⟨h1, h2⟩ := er_rd h
      cases hr : rdB ts with
      | mk a m =>
        cases hr' : rdB us with
        | mk a' m' =>
          rw [hr, hr'] at h1 h2
          have h1' : m = m' := h1
          subst h1'
          rw [hr] at hl
          cases a with
          | none =>
            simp only at hl
            have := loop_grow e F _ _ (by rw [hl])
            simp at this
          | some c =>
            cases a' with
            | none => cases h2
            | some c' =>
              have h2' : keyP c = keyP c' := by injection h2
              simp only at hl ⊢
              exact er_loop e e' F (ts.drop m) (us.drop m) _ _ out (by rw [List.map_drop, List.map_drop, h]) (by rw [List.map_append, List.map_append, hk]; simp [h2']) hl
theorem loop_all (e : Nat) (Q : PC → Prop) : ∀ (F : Nat) (ts : List Tok) (r : PR), (∀ t ∈ ts, WfP t) → (∀ ts c m, (∀ t ∈ ts, WfP t) → rdB ts = (some c, m) → Q c) → (∀ c ∈ r.out, Q c) → ∀ c ∈ (loopB e F ts r).out, Q c
  | 0, ts, r, _, _, h => h
  | F + 1, ts, r, hw, hq, h => by
    simp only [loopB]
    split
    · exact h
    · split
      · rename_i c m hr
        refine loop_all e Q F _ _ (fun t ht => hw t (List.mem_of_mem_drop ht)) hq (fun x hx => ?_)
        rcases List.mem_append.1 hx with hx | hx
        · exact h x hx
        · rw [List.mem_singleton.1 hx]; exact hq ts c m hw hr
      · rename_i m hr
        refine loop_all e Q F _ _ (fun t ht => ?_) hq h
        unfold skipB at ht
        exact hw t (List.mem_of_mem_drop ((List.dropWhile_sublist _).subset (List.mem_of_mem_tail ht)))
/-- A script without diagnostics. -/
theorem parse_good {l : List UInt8} (h : (PARSE l).2 = []) (he : (LEX l).err = 0) : (PARSE l).1.length ≤ 300 ∧ (∀ c ∈ (PARSE l).1, cmdB (c.kind : Nat) c.name c.ns = true) ∧ loopB l.length ((LEX l).toks.length + 1) (LEX l).toks ⟨[], []⟩ = ⟨(PARSE l).1, []⟩ := by
  have hp := lex_ok l he
  obtain ⟨r, hr⟩ : ∃ r, loopB l.length ((LEX l).toks.length + 1) (LEX l).toks ⟨[], []⟩ = r := ⟨_, rfl⟩
  have hall : ∀ c ∈ r.out, cmdB (c.kind : Nat) c.name c.ns = true := by
    rw [← hr]
    exact loop_all l.length _ _ _ _ (lex_wf l).1 (fun ts c m hw hq => rd_cmd hw hq) (fun c hc => by cases hc)
  rw [hr] at hp ⊢
  obtain ⟨out, dgs⟩ := r
  unfold finB at hp
  split at hp
  · rename_i hd
    rw [hp] at h
    exact absurd (List.map_eq_nil_iff.1 h) hd
  · rename_i hd
    have hd' : dgs = [] := Classical.not_not.1 hd
    subst hd'
    split at hp
    · rw [hp] at h; cases h
    · rename_i h3
      have h3' : ¬ 300 < out.length := h3
      rw [hp]
      exact ⟨by show out.length ≤ 300; omega, hall, rfl⟩
theorem parse_same {l l' : List UInt8} (h : (PARSE l).2 = []) (he : (LEX l).err = 0) (he' : (LEX l').err = 0) (ht : (LEX l).toks.map er = (LEX l').toks.map er) : (PARSE l').2 = [] ∧ (PARSE l').1.map keyP = (PARSE l).1.map keyP := by
  obtain ⟨h1, _, h3⟩ := parse_good h he
  have hlen : (LEX l).toks.length = (LEX l').toks.length := by have := congrArg List.length ht; rwa [List.length_map, List.length_map] at this
  obtain ⟨out', g1, g2⟩ := er_loop l.length l'.length _ _ _ [] [] _ ht rfl h3
  rw [hlen] at g1
  have hp := lex_ok l' he'
  rw [g1] at hp
  have hl' : out'.length ≤ 300 := by have := congrArg List.length g2; rw [List.length_map, List.length_map] at this; omega
  have : PARSE l' = (out', []) := by
    rw [hp]
    unfold finB
    rw [if_neg (fun q => q rfl), dif_neg (by show ¬ 300 < out'.length; omega)]
  rw [this]
  exact ⟨rfl, g2.symm⟩
end Go.Proofs.YtbgekgakamincaaDoor.Ps
