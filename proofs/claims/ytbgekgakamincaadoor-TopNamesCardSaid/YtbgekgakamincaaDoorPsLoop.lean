/- The parser in plain Lean: tokens joined, cut, moved; what it reads command by command. -/
import Derived.Test.YtbgekgakamincaaDoorPsRead
import Derived.Test.YtbgekgakamincaaDoorPsCan2
namespace Go.Proofs.YtbgekgakamincaaDoor.Ps
open Go.RowKit Go.Proofs.YtbgekgakamincaaDoor.Lx Go.Proofs.YtbgekgakamincaaDoor.Pr
set_option linter.unusedVariables false

/-! ### Tokens joined, cut -/
theorem match_more : ∀ (ts us : List Tok) (ps : List (List UInt8)), matchB ts ps = ps.length → matchB (ts ++ us) ps = ps.length
  | ts, us, [], _ => by cases (ts ++ us) <;> rfl
  | [], us, p :: ps, h => by simp [matchB] at h
  | t :: ts, us, p :: ps, h => by
    obtain ⟨h1, h2⟩ := fit_of h
    simp only [List.cons_append, matchB]
    rw [if_pos h1, match_more ts us ps h2, List.length_cons]; omega
theorem match_take : ∀ (ts : List Tok) (ps : List (List UInt8)) (j : Nat), matchB ts ps = ps.length → j ≤ ps.length → matchB (ts.take j) ps = j
  | ts, ps, 0, _, _ => by rw [List.take_zero]; cases ps <;> rfl
  | ts, [], j + 1, _, h => absurd h (by simp)
  | [], p :: ps, j + 1, h, _ => by simp [matchB] at h
  | t :: ts, p :: ps, j + 1, h, hj => by
    obtain ⟨h1, h2⟩ := fit_of h
    rw [List.take_succ_cons]
    simp only [matchB]
    rw [if_pos h1, match_take ts ps j h2 (by simpa using hj)]; omega
theorem nm_more : ∀ (ts us : List Tok) (ps : List (List UInt8)) (nm : ByteArray), matchB ts ps = ps.length → nmB nm (ts ++ us) ps = nmB nm ts ps
  | ts, us, [], nm, _ => by cases ts <;> cases us <;> rfl
  | [], us, p :: ps, nm, h => by simp [matchB] at h
  | t :: ts, us, p :: ps, nm, h => by
    obtain ⟨h1, h2⟩ := fit_of h
    simp only [List.cons_append, nmB]
    exact nm_more ts us ps _ h2
theorem ns_more : ∀ (ts us : List Tok) (ps : List (List UInt8)) (neg : Bool), matchB ts ps = ps.length → nsB neg (ts ++ us) ps = nsB neg ts ps
  | ts, us, [], neg, _ => by cases ts <;> cases us <;> rfl
  | [], us, p :: ps, neg, h => by simp [matchB] at h
  | t :: ts, us, p :: ps, neg, h => by
    obtain ⟨h1, h2⟩ := fit_of h
    simp only [List.cons_append, nsB]
    rw [ns_more ts us ps _ h2, ns_more ts us ps _ h2]
theorem look_nil_cmd : lookB cmdTab [] = none := by decide
theorem look_nil_ev : lookB evTab [] = none := by decide
/-- The kind hangs on the first three tokens at most. -/
theorem sel_more {ts us : List Tok} {k : Nat} (h : selB ts = .ok k) : selB (ts ++ us) = .ok k := by
  unfold selB at h ⊢
  cases ts with
  | nil =>
    rw [if_neg (by show ¬ ([] : List UInt8) = bAt; decide)] at h
    have : lookB cmdTab (txtB ([] : List Tok).head?) = none := look_nil_cmd
    rw [this] at h
    cases h
  | cons t r =>
    have e0 : (t :: r ++ us).head? = (t :: r).head? := rfl
    rw [e0]
    by_cases hat : txtB (t :: r).head? = bAt
    · rw [if_pos hat] at h ⊢
      by_cases hn : ((t :: r)[1]?.map (·.kind)) = some 2
      · rw [if_pos hn] at h
        cases r with
        | nil => cases hn
        | cons t1 r1 =>
          rw [if_pos (by simpa using hn)]
          cases r1 with
          | nil =>
            have : lookB evTab (txtB (t :: t1 :: ([] : List Tok))[2]?) = none := look_nil_ev
            rw [this] at h; cases h
          | cons t2 r2 => exact h
      · rw [if_neg hn] at h; cases h
    · rw [if_neg hat] at h ⊢
      exact h
theorem rd_hit {ts : List Tok} {c : PC} {n : Nat} (h : rdB ts = (some c, n)) : ∃ k, selB ts = .ok k ∧ matchB ts (expL (k : Nat)) = n ∧ n = (expL (k : Nat)).length ∧ c = builtB k ts := by
  unfold rdB at h
  cases hs : selB ts with
  | error m => rw [hs] at h; cases h
  | ok k =>
    rw [hs] at h
    simp only at h
    by_cases hm : matchB ts (expL (k : Nat)) = (expL (k : Nat)).length
    · rw [if_pos hm] at h
      injection h with h1 h2
      injection h1 with h1
      exact ⟨k, rfl, hm.trans h2, h2.symm, h1.symm⟩
    · rw [if_neg hm] at h; cases h
theorem ne_of_rd {ts : List Tok} {c : PC} {n : Nat} (h : rdB ts = (some c, n)) : ts ≠ [] := by
  rintro rfl
  obtain ⟨k, hs, _⟩ := rd_hit h
  unfold selB at hs
  rw [if_neg (by show ¬ ([] : List UInt8) = bAt; decide)] at hs
  have : lookB cmdTab (txtB ([] : List Tok).head?) = none := look_nil_cmd
  rw [this] at hs
  cases hs
theorem built_more {ts us : List Tok} {k : Nat} (h0 : ts ≠ []) (hm : matchB ts (expL (k : Nat)) = (expL (k : Nat)).length) : builtB k (ts ++ us) = builtB k ts := by
  unfold builtB
  rw [nm_more ts us _ _ hm, ns_more ts us _ _ hm]
  cases ts with
  | nil => exact absurd rfl h0
  | cons t r => rfl
theorem rd_more {ts us : List Tok} {c : PC} {n : Nat} (h : rdB ts = (some c, n)) : rdB (ts ++ us) = (some c, n) := by
  have h0 := ne_of_rd h
  obtain ⟨k, hs, hm, hn, hc⟩ := rd_hit h
  rw [hn] at hm
  unfold rdB
  rw [sel_more hs]
  simp only
  rw [if_pos (match_more ts us _ hm), built_more h0 hm, hc, hn]
theorem sel_three {ts : List Tok} {k : Nat} (h : selB ts = .ok k) (j : Nat) (hj : 3 ≤ j) : selB (ts.take j) = .ok k := by
  unfold selB at h ⊢
  have e0 : (ts.take j).head? = ts.head? := by rw [List.head?_eq_getElem?, List.head?_eq_getElem?, List.getElem?_take, if_pos (by omega)]
  have e1 : (ts.take j)[1]? = ts[1]? := by rw [List.getElem?_take, if_pos (by omega)]
  have e2 : (ts.take j)[2]? = ts[2]? := by rw [List.getElem?_take, if_pos (by omega)]
  rw [e0, e1, e2]
  exact h
theorem rd_len {ts : List Tok} (hw : ∀ t ∈ ts, WfP t) {c : PC} {n : Nat} (h : rdB ts = (some c, n)) : 3 ≤ n ∧ n ≤ ts.length := by
  obtain ⟨k, hs, hm, hn, hc⟩ := rd_hit h
  have h1 := expL_len (sel_kind hs)
  have h2 := (matchB_le ts (expL (k : Nat))).2
  omega
theorem rd_take {ts : List Tok} (hw : ∀ t ∈ ts, WfP t) {c : PC} {n : Nat} (h : rdB ts = (some c, n)) : rdB (ts.take n) = (some c, n) := by
  have h3 := rd_len hw h
  obtain ⟨k, hs, hm, hn, hc⟩ := rd_hit h
  have hm' : matchB (ts.take n) (expL (k : Nat)) = (expL (k : Nat)).length := by rw [match_take ts _ n (by omega) (by omega)]; exact hn
  have h0 : ts.take n ≠ [] := by
    intro q
    have := congrArg List.length q
    rw [List.length_take] at this
    simp only [List.length_nil] at this
    omega
  unfold rdB
  rw [sel_three hs n h3.1]
  simp only
  rw [if_pos hm', ← hn, hc]
  have := built_more (us := ts.drop n) h0 hm'
  rw [List.take_append_drop] at this
  rw [this]
/-- A command that is cut off. -/
theorem rd_short {ts : List Tok} (hw : ∀ t ∈ ts, WfP t) {c : PC} {n j : Nat} (h : rdB ts = (some c, n)) (h1 : 1 ≤ j) (h2 : j < n) : rdB (ts.take j) = (none, j) := by
  have h3 := rd_len hw h
  obtain ⟨k, hs, hm, hn, hc⟩ := rd_hit h
  have hmj : matchB (ts.take j) (expL (k : Nat)) = j := match_take ts _ j (by omega) (by omega)
  by_cases hj : 3 ≤ j
  · unfold rdB
    rw [sel_three hs j hj]
    simp only
    rw [hmj, if_neg (by omega)]
  · have e0 : (ts.take j).head? = ts.head? := by rw [List.head?_eq_getElem?, List.head?_eq_getElem?, List.getElem?_take, if_pos (by omega)]
    have e2 : (ts.take j)[2]? = none := by rw [List.getElem?_take, if_neg (by omega)]
    have hs' := hs
    unfold selB at hs'
    by_cases hat : txtB ts.head? = bAt
    · rw [if_pos hat] at hs'
      by_cases hk : (ts[1]?.map (·.kind)) = some 2
      · have hj' : j = 1 ∨ j = 2 := by omega
        rcases hj' with rfl | rfl
        · refine rd_of_err ?_
          unfold selB
          rw [e0, if_pos hat, if_neg]
          rw [List.getElem?_take, if_neg (by omega)]
          simp
        · refine rd_of_err ?_
          unfold selB
          rw [e0, if_pos hat, if_pos, e2]
          · have : lookB evTab (txtB none) = none := look_nil_ev
            rw [this]
          · rw [List.getElem?_take, if_pos (by omega)]; exact hk
      · rw [if_neg hk] at hs'; cases hs'
    · rw [if_neg hat] at hs'
      have : selB (ts.take j) = .ok k := by
        unfold selB
        rw [e0, if_neg hat]
        exact hs'
      rw [rd_of_ok this, hmj, if_neg (by omega)]

/-! ### Tokens moved -/
def mvC (d : Nat) (c : PC) : PC := { c with pos := c.pos + d }
theorem mv_er (d : Nat) : ∀ (ts : List Tok), (mv d ts).map er = ts.map er
  | [] => rfl
  | t :: ts => by
    show er _ :: (mv d ts).map er = _
    rw [mv_er d ts]; rfl
theorem rd_mv (d : Nat) {ts : List Tok} {c : PC} {n : Nat} (h : rdB ts = (some c, n)) : rdB (mv d ts) = (some (mvC d c), n) := by
  have h0 := ne_of_rd h
  obtain ⟨k, hs, hm, hn, hc⟩ := rd_hit h
  have he := mv_er d ts
  unfold rdB
  rw [er_sel he, hs]
  simp only
  rw [er_match _ _ _ he, if_pos (by omega), ← hn, hc]
  unfold builtB mvC
  rw [er_nm _ _ _ _ he, er_ns _ _ _ _ he]
  cases ts with
  | nil => exact absurd rfl h0
  | cons t r => rfl
theorem mv_drop (d n : Nat) (ts : List Tok) : (mv d ts).drop n = mv d (ts.drop n) := by unfold mv; rw [List.map_drop]
theorem mv_wf {d : Nat} {ts : List Tok} (h : ∀ t ∈ ts, WfT t) : ∀ t ∈ mv d ts, WfT t := by
  intro t ht
  unfold mv at ht
  obtain ⟨u, hu, rfl⟩ := List.mem_map.1 ht
  have := h u hu
  exact ⟨this.w2, this.w3, this.w1, this.n, this.size⟩

/-! ### Commands, one after the other -/
inductive Reads : List Tok → List PC → Prop
  | nil : Reads [] []
  | cons {ts : List Tok} {c : PC} {n : Nat} {cs : List PC} : rdB ts = (some c, n) → 1 ≤ n → n ≤ ts.length → Reads (ts.drop n) cs → Reads ts (c :: cs)
theorem Reads.mv {ts : List Tok} {cs : List PC} (d : Nat) (h : Reads ts cs) : Reads (Lx.mv d ts) (cs.map (mvC d)) := by
  induction h with
  | nil => exact .nil
  | cons h h1 h2 _ ih => exact .cons (rd_mv d h) h1 (by rw [mv_len]; exact h2) (by rw [mv_drop]; exact ih)
theorem Reads.append {ts us : List Tok} {cs ds : List PC} (h : Reads ts cs) (g : Reads us ds) : Reads (ts ++ us) (cs ++ ds) := by
  induction h with
  | nil => exact g
  | cons h h1 h2 _ ih => exact .cons (rd_more h) h1 (by rw [List.length_append]; omega) (by rw [List.drop_append_of_le_length h2]; exact ih)
theorem Reads.len {ts : List Tok} {cs : List PC} (h : Reads ts cs) : cs.length ≤ ts.length := by
  induction h with
  | nil => exact Nat.le_refl _
  | cons h h1 h2 _ ih => rw [List.length_cons]; rw [List.length_drop] at ih; omega
/-- The loop over commands that are read. -/
theorem loop_reads {ts : List Tok} {cs : List PC} (h : Reads ts cs) (e : Nat) (us : List Tok) : ∀ (f : Nat) (out : List PC), loopB e (f + cs.length) (ts ++ us) ⟨out, []⟩ = loopB e f us ⟨out ++ cs, []⟩ := by
  induction h with
  | nil => intro f out; simp
  | @cons ts c n cs h h1 h2 _ ih =>
    intro f out
    have h0 := ne_of_rd h
    have hne : ts ++ us ≠ [] := fun q => h0 (List.append_eq_nil_iff.1 q).1
    show loopB e (f + cs.length + 1) (ts ++ us) ⟨out, []⟩ = _
    simp only [loopB]
    rw [if_neg (by rintro (q | q); exact hne q; cases q), rd_more h]
    simp only
    rw [List.drop_append_of_le_length h2, ih f (out ++ [c]), List.append_assoc]; rfl
/-- The loop's fuel. -/
theorem loop_end (e : Nat) (f : Nat) (r : PR) : loopB e f [] r = r := by
  cases f with
  | zero => rfl
  | succ f => simp only [loopB]; rw [if_pos (.inl trivial)]
theorem reads_loop (e : Nat) : ∀ (F : Nat) (ts : List Tok) (out out' : List PC), (∀ t ∈ ts, WfP t) → ts.length < F → loopB e F ts ⟨out, []⟩ = ⟨out', []⟩ → ∃ cs, out' = out ++ cs ∧ Reads ts cs
  | 0, ts, out, out', _, h, _ => absurd h (by omega)
  | F + 1, ts, out, out', hw, hF, hl => by
    simp only [loopB] at hl
    by_cases h0 : ts = []
    · rw [if_pos (.inl h0)] at hl
      injection hl with hl _
      subst hl h0
      exact ⟨[], by simp, .nil⟩
    · rw [if_neg (by rintro (q | q); exact h0 q; cases q)] at hl
      cases hr : rdB ts with
      | mk a m =>
        rw [hr] at hl
        cases a with
        | none =>
          simp only at hl
          have := loop_grow e F _ _ (by rw [hl])
          simp at this
        | some c =>
          simp only at hl
          have h3 := rd_len hw hr
          obtain ⟨cs, h1, h2⟩ := reads_loop e F (ts.drop m) (out ++ [c]) out' (fun t ht => hw t (List.mem_of_mem_drop ht)) (by rw [List.length_drop]; omega) hl
          exact ⟨c :: cs, by rw [h1, List.append_assoc]; rfl, .cons hr (by omega) h3.2 h2⟩
theorem loop_of {ts : List Tok} {cs : List PC} (h : Reads ts cs) (e f : Nat) (hf : ts.length < f) : loopB e f ts ⟨[], []⟩ = ⟨cs, []⟩ := by
  have h1 := h.len
  have := loop_reads h e [] (f - cs.length) []
  rw [List.append_nil, List.nil_append, loop_end, Nat.sub_add_cancel (by omega)] at this
  exact this
theorem fin_good {cs : List PC} (h : cs.length ≤ 300) : finB ⟨cs, []⟩ = (cs, []) := by
  unfold finB
  rw [if_neg (fun q => q rfl), dif_neg (by show ¬ 300 < cs.length; omega)]
/-- A script without diagnostics, token by token. -/
theorem good_reads {l : List UInt8} (h : (PARSE l).2 = []) : (LEX l).err = 0 ∧ Reads (LEX l).toks (PARSE l).1 ∧ (PARSE l).1.length ≤ 300 := by
  have he : (LEX l).err = 0 := by
    by_cases he : (LEX l).err = 0
    · exact he
    · rw [lex_err l he] at h; cases h
  obtain ⟨g1, _, g3⟩ := parse_good h he
  obtain ⟨cs, h1, h2⟩ := reads_loop l.length _ _ [] _ (lex_wf l).1 (Nat.lt_succ_self _) g3
  rw [List.nil_append] at h1
  subst h1
  exact ⟨he, h2, g1⟩
theorem parse_reads {l : List UInt8} {cs : List PC} (he : (LEX l).err = 0) (h : Reads (LEX l).toks cs) (hc : cs.length ≤ 300) : PARSE l = (cs, []) := by
  rw [lex_ok l he, loop_of h l.length _ (Nat.lt_succ_self _), fin_good hc]

/-! ### Tokens cut: whole commands or one cut off -/
theorem fit_kind {t : Tok} {p : List UInt8} (ht : WfP t) (h : fitsB t p = true) (hp : p ≠ [59]) : t.kind ≠ 3 := by
  intro h3
  unfold fitsB at h
  split at h
  · have := of_decide_eq_true h; omega
  · split at h
    · rw [Bool.and_eq_true] at h; have := of_decide_eq_true h.1; omega
    · split at h
      · rw [Bool.and_eq_true] at h; have := of_decide_eq_true h.1; omega
      · rw [Bool.and_eq_true] at h
        have h2 : t.text.data.toList = p := by simpa using h.2
        exact hp (by rw [← h2, ht.1.w3 h3])
theorem fit_semi {t : Tok} (ht : WfP t) (h : fitsB t [59] = true) : t.kind = 3 := by
  rw [ft_lit t (by decide) (by decide) (by decide), Bool.and_eq_true] at h
  have h2 : t.text.data.toList = [59] := by simpa using h.2
  by_cases h3 : t.kind = 3
  · exact h3
  · have h4 : t.kind ≠ 2 := of_decide_eq_true h.1
    exact absurd h2 (ht.1.w1 h4 h3).2.1
/-- The semicolons in tokens that fit. -/
def semis (ts : List Tok) : Nat := (ts.filter fun t => decide (t.kind = 3)).length
theorem semis_append (a b : List Tok) : semis (a ++ b) = semis a + semis b := by unfold semis; rw [List.filter_append, List.length_append]
theorem fits_semis : ∀ (ts : List Tok) (ps : List (List UInt8)), (∀ t ∈ ts, WfP t) → matchB ts ps = ps.length → [59] ∉ ps → ∀ i (h : i < ps.length) (h' : i < ts.length), ts[i].kind ≠ 3
  | ts, [], _, _, _, i, h, _ => absurd h (by simp)
  | [], p :: ps, _, h, _, i, _, h' => absurd h' (by simp)
  | t :: ts, p :: ps, hw, h, hp, 0, _, _ => by
    obtain ⟨h1, h2⟩ := fit_of h
    exact fit_kind (hw t (List.mem_cons_self ..)) h1 (fun q => hp (by rw [q]; exact List.mem_cons_self ..))
  | t :: ts, p :: ps, hw, h, hp, i + 1, hi, hi' => by
    obtain ⟨h1, h2⟩ := fit_of h
    simp only [List.getElem_cons_succ]
    exact fits_semis ts ps (fun u hu => hw u (List.mem_cons_of_mem _ hu)) h2 (fun q => hp (List.mem_cons_of_mem _ q)) i (by simpa using hi) (by simpa using hi')
theorem exp_semi {k : Nat} (h1 : 1 ≤ k) (h2 : k < 12) : ∃ ps, expL (k : Nat) = ps ++ [[59]] ∧ [59] ∉ ps := by
  rcases kinds11 h1 h2 with rfl | rfl | rfl | rfl | rfl | rfl | rfl | rfl | rfl | rfl | rfl
  · exact ⟨[[109, 101, 115, 104], [100, 97, 116, 97], [35], [114, 97, 110, 103, 101], [35]], by rw [show ((1 : Nat) : Int) = 1 from rfl, expL_1]; rfl, by decide⟩
  · exact ⟨[[114, 111, 111, 116], [110], [97, 116], [35], [35]], by rw [show ((2 : Nat) : Int) = 2 from rfl, expL_2]; rfl, by decide⟩
  · exact ⟨[[110, 111, 100, 101], [110], [97, 116], [35], [35], [100], [35], [98, 97, 116, 116, 101, 114, 121], [35]], by rw [show ((3 : Nat) : Int) = 3 from rfl, expL_3]; rfl, by decide⟩
  · exact ⟨[[97, 116], [35], [109, 111, 118, 101], [110], [35], [35]], by rw [show ((4 : Nat) : Int) = 4 from rfl, expL_4]; rfl, by decide⟩
  · exact ⟨[[97, 116], [35], [102, 97, 105, 108], [110]], by rw [show ((5 : Nat) : Int) = 5 from rfl, expL_5]; rfl, by decide⟩
  · exact ⟨[[97, 116], [35], [115, 116, 97, 114, 116], [110]], by rw [show ((6 : Nat) : Int) = 6 from rfl, expL_6]; rfl, by decide⟩
  · exact ⟨[[97, 116], [35], [114, 101, 97, 100], [110], [35]], by rw [show ((7 : Nat) : Int) = 7 from rfl, expL_7]; rfl, by decide⟩
  · exact ⟨[[97, 116], [35], [106, 97, 109], [35], [35], [114, 97, 100, 105, 117, 115], [35], [99, 104, 97, 110, 110, 101, 108], [35], [102, 111, 114], [35]], by rw [show ((8 : Nat) : Int) = 8 from rfl, expL_8]; rfl, by decide⟩
  · exact ⟨[[97, 116], [35], [114, 101, 112, 108, 97, 121], [35], [97, 116], [35], [35]], by rw [show ((9 : Nat) : Int) = 9 from rfl, expL_9]; rfl, by decide⟩
  · exact ⟨[[97, 116], [35], [112, 114, 111, 103, 114, 97, 109], [35], [115, 105, 122, 101], [35]], by rw [show ((10 : Nat) : Int) = 10 from rfl, expL_10]; rfl, by decide⟩
  · exact ⟨[[114, 117, 110], [35]], by rw [show ((11 : Nat) : Int) = 11 from rfl, expL_11]; rfl, by decide⟩
theorem match_split : ∀ (ps : List (List UInt8)) (q : List UInt8) (ts : List Tok), matchB ts (ps ++ [q]) = (ps ++ [q]).length → matchB ts ps = ps.length ∧ ∃ h : ps.length < ts.length, fitsB ts[ps.length] q = true
  | [], q, [], h => by simp [matchB] at h
  | [], q, t :: ts, h => by
    obtain ⟨h1, _⟩ := fit_of h
    exact ⟨rfl, by simp, h1⟩
  | p :: ps, q, [], h => by simp [matchB] at h
  | p :: ps, q, t :: ts, h => by
    obtain ⟨h1, h2⟩ := fit_of (ps := ps ++ [q]) h
    obtain ⟨h3, h4, h5⟩ := match_split ps q ts h2
    refine ⟨?_, by simp only [List.length_cons]; omega, h5⟩
    simp only [matchB]
    rw [if_pos h1, h3, List.length_cons]; omega
/-- Of a command's tokens the last one alone is a semicolon. -/
theorem rd_semi {ts : List Tok} (hw : ∀ t ∈ ts, WfP t) {c : PC} {n : Nat} (h : rdB ts = (some c, n)) : ∀ i (h : i < ts.length), i < n → (ts[i].kind = 3 ↔ i + 1 = n) := by
  obtain ⟨k, hs, hm, hn, hc⟩ := rd_hit h
  have hk := sel_kind hs
  obtain ⟨ps, he, hno⟩ := exp_semi (k := k) (by omega) (by omega)
  rw [hn, he] at hm
  obtain ⟨m1, m2, m3⟩ := match_split ps [59] ts hm
  have hpl : ps.length + 1 = n := by rw [hn, he, List.length_append]; rfl
  intro i hi hin
  by_cases hlast : i = ps.length
  · subst hlast
    exact ⟨fun _ => hpl, fun _ => fit_semi (hw _ (List.getElem_mem _)) m3⟩
  · have := fits_semis ts ps hw m1 hno i (by omega) hi
    exact ⟨fun q => absurd q this, fun q => by omega⟩
theorem semis_take {ts : List Tok} (hw : ∀ t ∈ ts, WfP t) {c : PC} {n : Nat} (h : rdB ts = (some c, n)) : (∀ j, j < n → semis (ts.take j) = 0) ∧ semis (ts.take n) = 1 := by
  have h3 := rd_len hw h
  have hz : ∀ j, j < n → semis (ts.take j) = 0 := by
    intro j hj
    unfold semis
    rw [List.length_eq_zero_iff, List.filter_eq_nil_iff]
    intro t ht
    obtain ⟨i, hi, rfl⟩ := List.mem_iff_getElem.1 ht
    rw [List.length_take] at hi
    rw [List.getElem_take]
    simp only [decide_eq_true_eq]
    intro q
    have := (rd_semi hw h i (by omega) (by omega)).1 q
    omega
  refine ⟨hz, ?_⟩
  have e : ts.take n = ts.take (n - 1) ++ [ts[n - 1]'(by omega)] := by
    have := List.take_succ_eq_append_getElem (l := ts) (i := n - 1) (by omega)
    rw [Nat.sub_add_cancel (by omega)] at this
    exact this
  rw [e, semis_append, hz (n - 1) (by omega)]
  have hk : (ts[n - 1]'(by omega)).kind = 3 := (rd_semi hw h (n - 1) (by omega) (by omega)).2 (by omega)
  unfold semis
  rw [List.filter_cons_of_pos (by simpa using hk)]
  rfl
theorem drop_at {ts : List Tok} {n k : Nat} (h : n ≤ k) (hk : k < ts.length) (hd : k - n < (ts.drop n).length) : (ts.drop n)[k - n] = ts[k] := by
  simp only [List.getElem_drop]
  congr 1
  omega
/-- Cut behind a semicolon: the commands before. -/
theorem Reads.cut {ts : List Tok} {cs : List PC} (h : Reads ts cs) : (∀ t ∈ ts, WfP t) → ∀ k (hk : k < ts.length), ts[k].kind = 3 → Reads (ts.take (k + 1)) (cs.take (semis (ts.take (k + 1)))) ∧ semis (ts.take (k + 1)) ≤ cs.length := by
  induction h with
  | nil => intro _ k hk; exact absurd hk (by simp)
  | @cons ts c n cs h h1 h2 _ ih =>
    intro hw k hk h3
    have hs := semis_take hw h
    have hsm := rd_semi hw h
    have hnk : n ≤ k + 1 := by
      rcases Nat.lt_or_ge k n with hlt | hge
      · have := (hsm k hk hlt).1 h3; omega
      · omega
    have e : ts.take (k + 1) = ts.take n ++ (ts.drop n).take (k + 1 - n) := by
      rw [← List.take_add, show n + (k + 1 - n) = k + 1 by omega]
    have hl : (ts.take n).length = n := by rw [List.length_take]; omega
    have hone : Reads (ts.take n) [c] := .cons (rd_take hw h) h1 (by rw [hl]; exact Nat.le_refl _) (by rw [List.drop_of_length_le (by rw [hl]; exact Nat.le_refl _)]; exact .nil)
    rw [e, semis_append, hs.2]
    rcases Nat.eq_or_lt_of_le hnk with q | q
    · rw [← q, Nat.sub_self, List.take_zero, List.append_nil]
      exact ⟨hone, by simp [semis]⟩
    · have hd : k - n < (ts.drop n).length := by rw [List.length_drop]; omega
      have hnk' : n ≤ k := by omega
      have := ih (fun t ht => hw t (List.mem_of_mem_drop ht)) (k - n) hd (by rw [drop_at hnk' hk hd]; exact h3)
      rw [show k - n + 1 = k + 1 - n by omega] at this
      refine ⟨?_, by rw [List.length_cons]; omega⟩
      rw [Nat.add_comm 1, List.take_succ_cons]
      exact hone.append this.1
/-- Cut elsewhere: one diagnostic at the end. -/
theorem Reads.broken {ts : List Tok} {cs : List PC} (h : Reads ts cs) (e : Nat) : (∀ t ∈ ts, WfP t) → ∀ k (hk : k < ts.length), ts[k].kind ≠ 3 → ∀ f out, k + 1 < f → ∃ out', loopB e f (ts.take (k + 1)) ⟨out, []⟩ = ⟨out', [e]⟩ := by
  induction h with
  | nil => intro _ k hk; exact absurd hk (by simp)
  | @cons ts c n cs h h1 h2 _ ih =>
    intro hw k hk h3 f out hf
    have hsm := rd_semi hw h
    obtain ⟨f, rfl⟩ : ∃ g, f = g + 1 := ⟨f - 1, by omega⟩
    rcases Nat.lt_or_ge (k + 1) n with hlt | hge
    · have hne : ts.take (k + 1) ≠ [] := by
        intro q
        have := congrArg List.length q
        rw [List.length_take] at this
        simp only [List.length_nil] at this
        omega
      refine ⟨out, ?_⟩
      simp only [loopB]
      rw [if_neg (by rintro (q | q); exact hne q; cases q), rd_short hw h (by omega) hlt]
      simp only
      rw [List.drop_of_length_le (l := ts.take (k + 1)) (by rw [List.length_take]; omega)]
      show loopB e f (skipB []) ⟨out, [] ++ [posB none e]⟩ = _
      have : skipB [] = [] := rfl
      rw [this, loop_end]; rfl
    · have hnk : n ≠ k + 1 := by
        intro q
        exact h3 ((hsm k hk (by omega)).2 q.symm)
      have hd : k - n < (ts.drop n).length := by rw [List.length_drop]; omega
      have e1 : ts.take (k + 1) = ts.take n ++ (ts.drop n).take (k - n + 1) := by
        rw [← List.take_add, show n + (k - n + 1) = k + 1 by omega]
      have hl : (ts.take n).length = n := by rw [List.length_take]; omega
      have hnk' : n ≤ k := by omega
      obtain ⟨out', ho⟩ := ih (fun t ht => hw t (List.mem_of_mem_drop ht)) (k - n) hd (by rw [drop_at hnk' hk hd]; exact h3) f (out ++ [c]) (by omega)
      refine ⟨out', ?_⟩
      have hne : ts.take n ++ (ts.drop n).take (k - n + 1) ≠ [] := by
        intro q
        have := congrArg List.length q
        rw [List.length_append, hl] at this
        simp only [List.length_nil] at this
        omega
      rw [e1]
      simp only [loopB]
      rw [if_neg (by rintro (q | q); exact hne q; cases q), rd_more (rd_take hw h)]
      simp only
      rw [List.drop_append_of_le_length (by omega), List.drop_of_length_le (l := ts.take n) (by omega), List.nil_append]
      exact ho
end Go.Proofs.YtbgekgakamincaaDoor.Ps
