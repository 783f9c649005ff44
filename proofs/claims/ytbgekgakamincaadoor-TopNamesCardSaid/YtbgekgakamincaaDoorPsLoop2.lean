/- The parser in plain Lean: scripts joined and cut; the order of offsets; how many diagnostics. -/
import Derived.Test.YtbgekgakamincaaDoorPsLoop
import Derived.Test.YtbgekgakamincaaDoorLxThy5
namespace Go.Proofs.YtbgekgakamincaaDoor.Ps
open Go.RowKit Go.Proofs.YtbgekgakamincaaDoor.Lx Go.Proofs.YtbgekgakamincaaDoor.Pr
set_option linter.unusedVariables false

/-! ### Scripts joined -/
theorem lexT_less : ∀ (xs : List Span) (m n : Nat) (y : List Tok), lexT n xs = .ok y → m ≤ n → n + y.length ≤ 2000 → lexT m xs = .ok y
  | [], m, n, y, h, _, _ => by
    simp only [lexT] at h ⊢
    exact h
  | x :: xs, m, n, y, h, hm, hl => by
    rw [lexT] at h ⊢
    cases ht : tokS n x with
    | error d => rw [ht, catT_err] at h; cases h
    | ok t =>
      rw [ht, catT_ok] at h
      cases hr : lexT (n + t.length) xs with
      | error d => rw [hr] at h; cases h
      | ok z =>
        rw [hr] at h
        injection h with h
        subst h
        rw [List.length_append] at hl
        have h1 : tokS m x = .ok t := by
          rcases tokS_ok ht with ⟨rfl, hc⟩ | ⟨u, rfl, hu, c0, c1, c2, hn⟩
          · unfold tokS; rw [if_pos hc]
          · simp only [List.length_singleton] at hl
            unfold tokS
            rw [if_neg (fun q => q.elim c1 c2), if_neg c0, if_neg (by omega), hu]
        rw [h1, catT_ok, lexT_less xs (m + t.length) (n + t.length) z hr (by omega) (by omega)]
/-- A script and another one behind a line feed. -/
theorem join_lex {a c : List UInt8} (ha : (LEX a).err = 0) (h : (LEX (a ++ 10 :: c)).err = 0) : (LEX c).err = 0 ∧ (LEX (a ++ 10 :: c)).toks = (LEX a).toks ++ mv (a.length + 1) (LEX c).toks := by
  have h1 := (LEX_good ha).2.1
  obtain ⟨g1, g2, _⟩ := LEX_good h
  have hlen := LEX_len (a ++ 10 :: c)
  have hs : spans (a ++ 10 :: c) 0 = spans a 0 ++ (⟨a.length, 1, ⟨#[10]⟩⟩ :: mvS (a.length + 1) (spans c 0)) := by
    rw [spans_append _ a (10 :: c) 0 (Nat.le_refl _) ?_, Nat.zero_add, spans_cons, ← spans_from]
    · rfl
    · intro d t h
      injection h with h _
      subst h
      exact ext_line _
  have hg : ∀ n, tokS n ⟨a.length, 1, ⟨#[10]⟩⟩ = .ok [] := fun n => by unfold tokS; rw [if_pos (.inl rfl)]
  have hE : lexT 0 (spans (a ++ 10 :: c) 0) = catT (.ok (LEX a).toks) (fun k => lexT k (mvS (a.length + 1) (spans c 0))) := by
    rw [hs, lexT_append, h1]
    congr 1
    funext k
    rw [lexT, hg, catT_none, Nat.zero_add, Nat.add_zero]
  rw [g2, catT_ok] at hE
  cases hr : lexT (LEX a).toks.length (mvS (a.length + 1) (spans c 0)) with
  | error d => rw [hr] at hE; cases hE
  | ok y =>
    rw [hr] at hE
    injection hE with hE
    rw [lexT_mv] at hr
    cases hr2 : lexT (LEX a).toks.length (spans c 0) with
    | error d => rw [hr2] at hr; cases hr
    | ok z =>
      rw [hr2] at hr
      injection hr with hr
      subst hr
      rw [hE, List.length_append, mv_len] at hlen
      have h3 := lexT_less _ 0 _ z hr2 (Nat.zero_le _) hlen
      have hc : LEX c = ⟨z, 0, 0⟩ := LEX_of (by rw [List.length_append, List.length_cons] at g1; omega) (r := .ok z) h3
      rw [hc]
      exact ⟨rfl, hE⟩
/-- Commands of two scripts. -/
theorem join_parse {a b : List UInt8} (ha : (PARSE a).2 = []) (hb : (PARSE b).2 = []) (hu : (LEX (a ++ 10 :: b)).err = 0) (hl : (PARSE a).1.length + (PARSE b).1.length ≤ 300) :
    PARSE (a ++ 10 :: b) = ((PARSE a).1 ++ (PARSE b).1.map (mvC (a.length + 1)), []) := by
  obtain ⟨a1, a2, _⟩ := good_reads ha
  obtain ⟨b1, b2, _⟩ := good_reads hb
  obtain ⟨_, h2⟩ := join_lex a1 hu
  refine parse_reads hu ?_ (by rw [List.length_append, List.length_map]; exact hl)
  rw [h2]
  exact a2.append (b2.mv _)
/-- Something that begins no command, between two scripts. -/
theorem wrong_parse {a b m : List UInt8} {M : List Tok} (ha : (PARSE a).2 = []) (hb : (PARSE b).2 = []) (hu : (LEX (a ++ 10 :: (m ++ 10 :: b))).err = 0) (hm : LEX m = ⟨M, 0, 0⟩)
    (hM : ∃ t r, M = t :: r ∧ t.pos = 0 ∧ t.text.data.toList ≠ bAt ∧ lookB cmdTab t.text.data.toList = none) (hs : ∃ r s, M = r ++ [s] ∧ s.kind = 3 ∧ ∀ t ∈ r, t.kind ≠ 3) :
    PARSE (a ++ 10 :: (m ++ 10 :: b)) = ([], [(7, a.length + 1)]) := by
  obtain ⟨a1, a2, _⟩ := good_reads ha
  obtain ⟨b1, b2, _⟩ := good_reads hb
  obtain ⟨h1, h2⟩ := join_lex a1 hu
  obtain ⟨h3, h4⟩ := join_lex (a := m) (by rw [hm]) h1
  rw [hm] at h4
  have h4 : (LEX (m ++ 10 :: b)).toks = M ++ mv (m.length + 1) (LEX b).toks := h4
  obtain ⟨t, r, hMt, ht0, ht1, ht2⟩ := hM
  obtain ⟨r', s, hMs, hs3, hsr⟩ := hs
  obtain ⟨U, hU⟩ : ∃ U, mv (m.length + 1) (LEX b).toks = U := ⟨_, rfl⟩
  obtain ⟨ys, hys⟩ : ∃ ys, (PARSE b).1.map (mvC (m.length + 1)) = ys := ⟨_, rfl⟩
  have hbU : Reads U ys := by rw [← hU, ← hys]; exact b2.mv _
  rw [hU] at h4
  obtain ⟨D, hD⟩ : ∃ D, a.length + 1 = D := ⟨_, rfl⟩
  rw [hD] at h2 ⊢
  rw [lex_ok _ hu, h2, h4]
  have hrd : rdB (mv D (M ++ U)) = (none, 0) := by
    refine rd_of_err ?_
    rw [er_sel (mv_er D (M ++ U)), hMt]
    show selB (t :: (r ++ U)) = _
    unfold selB
    rw [if_neg (show ¬ txtB (t :: (r ++ U)).head? = bAt from ht1)]
    have : txtB (t :: (r ++ U)).head? = t.text.data.toList := rfl
    rw [this, ht2]
  have hpos : posB (mv D (M ++ U)).head? (a ++ 10 :: (m ++ 10 :: b)).length = D := by
    rw [hMt]
    show t.pos + D = D
    omega
  have hskip : skipB (mv D (M ++ U)) = mv D U := by
    unfold skipB
    rw [hMs, List.append_assoc]
    have hd : ∀ (r : List Tok), (∀ t ∈ r, t.kind ≠ 3) → (mv D (r ++ ([s] ++ U))).dropWhile (fun t => decide (t.kind ≠ 3)) = mv D (s :: U) := by
      intro r
      induction r with
      | nil =>
        intro _
        show List.dropWhile _ ({ s with pos := s.pos + D } :: mv D U) = _
        rw [List.dropWhile_cons_of_neg (by simpa using hs3)]; rfl
      | cons u r ih =>
        intro h
        show List.dropWhile _ ({ u with pos := u.pos + D } :: mv D (r ++ ([s] ++ U))) = _
        rw [List.dropWhile_cons_of_pos (by simpa using h u (List.mem_cons_self ..))]
        exact ih (fun v hv => h v (List.mem_cons_of_mem _ hv))
    rw [hd r' hsr]; rfl
  obtain ⟨F, hF⟩ : ∃ F, ((LEX a).toks ++ mv D (M ++ U)).length = F := ⟨_, rfl⟩
  rw [hF]
  rw [List.length_append, mv_len, List.length_append] at hF
  have hal := a2.len
  have hMl : 1 ≤ M.length := by rw [hMt, List.length_cons]; omega
  obtain ⟨f, hf⟩ : ∃ f, F + 1 = f + 1 + (PARSE a).1.length := ⟨F - (PARSE a).1.length, by omega⟩
  rw [hf, loop_reads a2]
  simp only [loopB]
  have hne : mv D (M ++ U) ≠ [] := by rw [hMt]; intro q; cases q
  rw [if_neg (by rintro (q | q); exact hne q; cases q), hrd]
  simp only
  rw [List.drop_zero, hpos, hskip]
  have hlast : ∀ (ts : List Tok) (cs : List PC), Reads ts cs → ∀ (e f : Nat) (out : List PC) (d : Nat), ∃ out', loopB e (f + cs.length) ts ⟨out, [d]⟩ = ⟨out', [d]⟩ := by
    intro ts cs h
    induction h with
    | nil => intro e f out d; rw [loop_end]; exact ⟨_, rfl⟩
    | @cons ts c n cs h h1 h2 _ ih =>
      intro e f out d
      have h0 := ne_of_rd h
      show ∃ out', loopB e (f + cs.length + 1) ts ⟨out, [d]⟩ = _
      simp only [loopB]
      rw [if_neg (by rintro (q | q); exact h0 q; simp at q), h]
      exact ih e f (out ++ [c]) d
  have hUl := hbU.len
  obtain ⟨out', ho⟩ := hlast _ _ (hbU.mv D) (a ++ 10 :: (m ++ 10 :: b)).length (f - ys.length) ([] ++ (PARSE a).1) D
  rw [List.length_map, Nat.sub_add_cancel (by omega)] at ho
  show finB (loopB _ f (mv D U) ⟨[] ++ (PARSE a).1, [D]⟩) = _
  rw [ho]
  unfold finB
  rw [if_pos (by simp)]
  rfl

/-! ### A script cut behind a token -/
theorem cut_lex {l : List UInt8} (he : (LEX l).err = 0) {k : Nat} (hk : k < (LEX l).toks.length) :
    (LEX l).toks[k].pos + (textL (LEX l).toks[k]).length ≤ l.length ∧ LEX (l.take ((LEX l).toks[k].pos + (textL (LEX l).toks[k]).length)) = ⟨(LEX l).toks.take (k + 1), 0, 0⟩ := by
  obtain ⟨g1, g2, _⟩ := LEX_good he
  obtain ⟨X, x, Y, e1, e2, e3, c1, c2, e4⟩ := lexT_find _ 0 k _ g2 hk
  obtain ⟨s1, d, r, s2, s3, s4, s5⟩ := spans_at e1
  rw [Nat.zero_add] at s1
  rw [Nat.zero_add, lexT] at e3
  cases hy : tokS k x with
  | error d => rw [hy, catT_err] at e3; cases e3
  | ok y =>
    rw [hy, catT_ok] at e3
    cases hr : lexT (k + y.length) Y with
    | error d => rw [hr] at e3; cases e3
    | ok z =>
      rw [hr] at e3
      injection e3 with e3
      rcases tokS_ok hy with ⟨_, hc⟩ | ⟨u, rfl, hu, c0, _, _, _⟩
      · exact absurd hc (fun q => q.elim c1 c2)
      · have hget : (LEX l).toks[k] = { u with pos := x.pos } := by
          have h1 : ((LEX l).toks.drop k)[0]? = (LEX l).toks[k]? := by rw [List.getElem?_drop, Nat.add_zero]
          rw [← e3, List.getElem?_eq_getElem hk] at h1
          injection h1 with h1
          exact h1.symm
        have hgt := (good_tok e1 hu c0 c1 c2).2
        have htl : (textL (LEX l).toks[k]).length = x.text.size := by
          rw [hget]
          unfold textL
          rw [hgt]
          exact Array.length_toList
        have hsp : spLen (X ++ [x]) = (LEX l).toks[k].pos + (textL (LEX l).toks[k]).length := by
          rw [spLen_append, spLen_cons, htl, e4, s1]; rfl
        have e1' : spans l 0 = (X ++ [x]) ++ Y := by rw [e1]; simp
        obtain ⟨p1, p2, p3⟩ := spans_prefix (X ++ [x]) Y l 0 e1'
        rw [hsp] at p1 p3
        refine ⟨p3, LEX_of (by rw [List.length_take]; omega) (r := .ok ((LEX l).toks.take (k + 1))) ?_⟩
        have htk : ((LEX l).toks.take k).length = k := by rw [List.length_take]; omega
        rw [p1, lexT_append, e2, catT_ok, htk, Nat.zero_add]
        show (match lexT k [x] with | .error e => (Except.error e : Except (Nat × Nat) (List Tok)) | .ok y => .ok ((LEX l).toks.take k ++ y)) = _
        rw [lexT, hy, catT_ok]
        show Except.ok ((LEX l).toks.take k ++ ([{ u with pos := x.pos }] ++ [])) = _
        rw [List.append_nil, ← hget, ← List.take_succ_eq_append_getElem hk]
theorem cut_parse {l : List UInt8} (h : (PARSE l).2 = []) {k : Nat} (hk : k < (LEX l).toks.length) :
    ((LEX l).toks[k].kind = 3 → PARSE (l.take ((LEX l).toks[k].pos + (textL (LEX l).toks[k]).length)) = ((PARSE l).1.take (semis ((LEX l).toks.take (k + 1))), []) ∧ semis ((LEX l).toks.take (k + 1)) ≤ (PARSE l).1.length) ∧
    ((LEX l).toks[k].kind ≠ 3 → PARSE (l.take ((LEX l).toks[k].pos + (textL (LEX l).toks[k]).length)) = ([], [(7, (LEX l).toks[k].pos + (textL (LEX l).toks[k]).length)])) := by
  obtain ⟨he, hr, h3⟩ := good_reads h
  obtain ⟨c1, c2⟩ := cut_lex he hk
  have hw := (lex_wf l).1
  refine ⟨fun hk3 => ?_, fun hk3 => ?_⟩
  · obtain ⟨q1, q2⟩ := hr.cut hw k hk hk3
    refine ⟨parse_reads (by rw [c2]) (by rw [c2]; exact q1) (by rw [List.length_take]; omega), q2⟩
  · obtain ⟨S, hS⟩ : ∃ S, (LEX l).toks[k].pos + (textL (LEX l).toks[k]).length = S := ⟨_, rfl⟩
    rw [hS] at c1 c2 ⊢
    have hl : (l.take S).length = S := by rw [List.length_take]; omega
    obtain ⟨out', ho⟩ := hr.broken S hw k hk hk3 (((LEX l).toks.take (k + 1)).length + 1) [] (by rw [List.length_take]; omega)
    rw [lex_ok _ (by rw [c2]), c2, hl]
    show finB (loopB S (((LEX l).toks.take (k + 1)).length + 1) ((LEX l).toks.take (k + 1)) ⟨[], []⟩) = _
    rw [ho]
    unfold finB
    rw [if_pos (by simp)]
    rfl

/-! ### The order of offsets -/
theorem chk_sort : ∀ (ts : List Tok) (l : List UInt8) (p : Nat), chk l p ts → (ts.map (·.pos)).Pairwise (· < ·) ∧ ∀ t ∈ ts, p ≤ t.pos ∧ t.pos < l.length ∧ t.pos + (textL t).length ≤ l.length ∧ (l.drop t.pos).take (textL t).length = textL t
  | [], l, p, _ => ⟨.nil, fun t ht => by cases ht⟩
  | t :: ts, l, p, h => by
    obtain ⟨h1, h2, h3, h4, _, h6⟩ := h
    obtain ⟨i1, i2⟩ := chk_sort ts l _ h6
    have hp : 1 ≤ (textL t).length := List.length_pos_iff.2 h1
    refine ⟨?_, fun u hu => ?_⟩
    · rw [List.map_cons]
      refine List.Pairwise.cons (fun q hq => ?_) i1
      obtain ⟨u, hu, rfl⟩ := List.mem_map.1 hq
      have := (i2 u hu).1
      omega
    · rcases List.mem_cons.1 hu with rfl | hu
      · exact ⟨h2, by omega, h3, h4⟩
      · have := i2 u hu
        exact ⟨by omega, this.2.1, this.2.2.1, this.2.2.2⟩
theorem lexR_eta {L : LexR} (h : L.err = 0) (p : L.pos = 0) : L = ⟨L.toks, 0, 0⟩ := by
  cases L
  simp_all
/-- Where the tokens of a script lie. -/
theorem lex_sort (l : List UInt8) : ((LEX l).toks.map (·.pos)).Pairwise (· < ·) ∧ ∀ t ∈ (LEX l).toks, t.pos < l.length ∧ t.pos + (textL t).length ≤ l.length ∧ (l.drop t.pos).take (textL t).length = textL t := by
  by_cases he : (LEX l).err = 0
  · have hp := (LEX_good he).2.2
    have : LEX l = ⟨(LEX l).toks, 0, 0⟩ := lexR_eta he hp
    obtain ⟨h1, h2⟩ := chk_sort _ l 0 (chk_law this)
    exact ⟨h1, fun t ht => (h2 t ht).2⟩
  · have : (LEX l).toks = [] := by
      by_cases h8 : 8000 < l.length
      · unfold LEX; rw [if_pos h8]
      · rw [LEX_of (by omega) (LEX_bad (by omega) he)]; rfl
    rw [this]
    exact ⟨.nil, fun t ht => by cases ht⟩
/-- What a command's offset points at. -/
def AtTok (l : List UInt8) (c : PC) : Prop := c.pos + (headW c.kind).length ≤ l.length ∧ (l.drop c.pos).take (headW c.kind).length = headW c.kind ∧ 1 ≤ c.kind ∧ c.kind < 12
theorem reads_pos {ts : List Tok} {cs : List PC} (h : Reads ts cs) : (∀ t ∈ ts, WfP t) → (cs.map (·.pos)).Sublist (ts.map (·.pos)) ∧ ∀ c ∈ cs, 1 ≤ c.kind ∧ c.kind < 12 ∧ ∃ t ∈ ts, t.pos = c.pos ∧ t.kind ≠ 2 ∧ t.text.data.toList = headW c.kind := by
  induction h with
  | nil => intro _; exact ⟨.slnil, fun c hc => by cases hc⟩
  | @cons ts c n cs h h1 h2 _ ih =>
    intro hw
    obtain ⟨i1, i2⟩ := ih (fun t ht => hw t (List.mem_of_mem_drop ht))
    have h0 := ne_of_rd h
    obtain ⟨k, hs, hm, hn, hc⟩ := rd_hit h
    have hk := sel_kind hs
    cases ts with
    | nil => exact absurd rfl h0
    | cons t r =>
      have ht := hw t (List.mem_cons_self ..)
      have hcp : c.pos = t.pos := by rw [hc]; rfl
      have hck : c.kind = k := by rw [hc]; rfl
      obtain ⟨n, rfl⟩ : ∃ j, n = j + 1 := ⟨n - 1, by omega⟩
      refine ⟨?_, fun x hx => ?_⟩
      · rw [List.map_cons, List.map_cons, hcp]
        refine List.Sublist.cons_cons _ ?_
        rw [List.drop_succ_cons] at i1
        exact i1.trans ((List.drop_sublist n r).map _)
      · rcases List.mem_cons.1 hx with rfl | hx
        · refine ⟨by omega, by omega, t, List.mem_cons_self .., hcp.symm, ?_⟩
          rw [hck]
          obtain ⟨p, ps, hp⟩ : ∃ p ps, expL (k : Nat) = p :: ps := by
            cases he : expL (k : Nat) with
            | nil => rw [he] at hn; simp at hn
            | cons p ps => exact ⟨p, ps, rfl⟩
          have hph := head_eq hp
          rw [hp, hn, hp] at hm
          obtain ⟨f1, _⟩ := fit_of hm
          have hlit : p ≠ [35] ∧ p ≠ [110] ∧ p ≠ [100] := by
            rw [hph]
            unfold headW
            rcases kinds11 (j := k) (by omega) (by omega) with rfl | rfl | rfl | rfl | rfl | rfl | rfl | rfl | rfl | rfl | rfl
            · rw [show ((1 : Nat) : Int) = 1 from rfl, expL_1]; decide
            · rw [show ((2 : Nat) : Int) = 2 from rfl, expL_2]; decide
            · rw [show ((3 : Nat) : Int) = 3 from rfl, expL_3]; decide
            · rw [show ((4 : Nat) : Int) = 4 from rfl, expL_4]; decide
            · rw [show ((5 : Nat) : Int) = 5 from rfl, expL_5]; decide
            · rw [show ((6 : Nat) : Int) = 6 from rfl, expL_6]; decide
            · rw [show ((7 : Nat) : Int) = 7 from rfl, expL_7]; decide
            · rw [show ((8 : Nat) : Int) = 8 from rfl, expL_8]; decide
            · rw [show ((9 : Nat) : Int) = 9 from rfl, expL_9]; decide
            · rw [show ((10 : Nat) : Int) = 10 from rfl, expL_10]; decide
            · rw [show ((11 : Nat) : Int) = 11 from rfl, expL_11]; decide
          rw [ft_lit t hlit.1 hlit.2.1 hlit.2.2, Bool.and_eq_true] at f1
          exact ⟨of_decide_eq_true f1.1, by rw [← hph]; simpa using f1.2⟩
        · obtain ⟨q1, q2, u, hu, q3⟩ := i2 x hx
          exact ⟨q1, q2, u, List.mem_of_mem_drop hu, q3⟩
/-- The offsets of a good script's commands. -/
theorem good_pos {l : List UInt8} (h : (PARSE l).2 = []) : ((PARSE l).1.map (·.pos)).Pairwise (· < ·) ∧ ∀ c ∈ (PARSE l).1, AtTok l c := by
  obtain ⟨he, hr, _⟩ := good_reads h
  obtain ⟨h1, h2⟩ := reads_pos hr (lex_wf l).1
  obtain ⟨s1, s2⟩ := lex_sort l
  refine ⟨s1.sublist h1, fun c hc => ?_⟩
  obtain ⟨k1, k2, t, ht, hp, hk, hx⟩ := h2 c hc
  obtain ⟨q1, q2, q3⟩ := s2 t ht
  have htx : textL t = headW c.kind := by unfold textL textB; rw [if_neg hk]; exact hx
  rw [htx, hp] at q2 q3
  exact ⟨q2, q3, k1, k2⟩

/-! ### Diagnostics -/
theorem posB_drop {ts : List Tok} {e : Nat} (h : ∀ t ∈ ts, t.pos < e) : posB ts.head? e ≤ e := by
  cases ts with
  | nil => exact Nat.le_refl _
  | cons t r => exact Nat.le_of_lt (h t (List.mem_cons_self ..))
/-- Diagnostics so far, in order and ahead of the tokens to come. -/
structure DgOk (e : Nat) (ts : List Tok) (ds : List Nat) : Prop where
  sort : ds.Pairwise (· < ·)
  le : ∀ d ∈ ds, d ≤ e
  ahead : ts ≠ [] → ∀ d ∈ ds, ∀ t ∈ ts, d < t.pos
  few : ds.length ≤ 20
theorem loop_dgs (e : Nat) : ∀ (F : Nat) (ts : List Tok) (r : PR), (ts.map (·.pos)).Pairwise (· < ·) → (∀ t ∈ ts, t.pos < e) → DgOk e ts r.dgs → ∃ us, DgOk e us (loopB e F ts r).dgs
  | 0, ts, r, _, _, h => ⟨ts, h⟩
  | F + 1, ts, r, hs, he, h => by
    simp only [loopB]
    split
    · exact ⟨ts, h⟩
    · rename_i hc
      have hne : ts ≠ [] := fun q => hc (.inl q)
      have h20 : r.dgs.length ≠ 20 := fun q => hc (.inr q)
      have hmapd : ∀ n, ((ts.drop n).map (·.pos)).Pairwise (· < ·) := fun n => hs.sublist ((List.drop_sublist n ts).map _)
      split
      · rename_i c m hr
        refine loop_dgs e F _ _ (hmapd m) (fun t ht => he t (List.mem_of_mem_drop ht)) ⟨h.sort, h.le, fun q d hd t ht => h.ahead hne d hd t (List.mem_of_mem_drop ht), h.few⟩
      · rename_i m hr
        have hmem : ∀ t ∈ skipB (ts.drop m), t ∈ ts.drop m := fun t ht => by
          unfold skipB at ht
          exact (List.dropWhile_sublist _).subset (List.mem_of_mem_tail ht)
        have hsub : (skipB (ts.drop m)).Sublist (ts.drop m) := by
          unfold skipB
          exact (List.tail_sublist _).trans (List.dropWhile_sublist _)
        refine loop_dgs e F _ _ ((hmapd m).sublist (hsub.map _)) (fun t ht => he t (List.mem_of_mem_drop (hmem t ht))) ⟨?_, ?_, ?_, ?_⟩
        · show (r.dgs ++ [posB (ts.drop m).head? e]).Pairwise (· < ·)
          rw [List.pairwise_append]
          refine ⟨h.sort, List.pairwise_singleton _ _, fun d hd x hx => ?_⟩
          rw [List.mem_singleton.1 hx]
          cases hdm : ts.drop m with
          | nil =>
            show d < e
            cases ts with
            | nil => exact absurd rfl hne
            | cons t ts' =>
              have h1 := h.ahead hne d hd t (List.mem_cons_self ..)
              have h2 := he t (List.mem_cons_self ..)
              omega
          | cons t ts' => exact h.ahead hne d hd t (List.mem_of_mem_drop (by rw [hdm]; exact List.mem_cons_self ..))
        · intro d hd
          rcases List.mem_append.1 hd with hd | hd
          · exact h.le d hd
          · rw [List.mem_singleton.1 hd]
            exact posB_drop (fun t ht => he t (List.mem_of_mem_drop ht))
        · intro hsk d hd t ht
          rcases List.mem_append.1 hd with hd | hd
          · exact h.ahead hne d hd t (List.mem_of_mem_drop (hmem t ht))
          · rw [List.mem_singleton.1 hd]
            have hsm := hmapd m
            cases hdm : ts.drop m with
            | nil => rw [hdm] at hsk; exact absurd rfl hsk
            | cons u us =>
              show u.pos < t.pos
              rw [hdm] at hsm ht
              rw [List.map_cons] at hsm
              have ht2 : t ∈ us := by
                unfold skipB at ht
                have hl := List.dropWhile_sublist (fun t : Tok => decide (t.kind ≠ 3)) (l := u :: us)
                cases hdw : (u :: us).dropWhile (fun t : Tok => decide (t.kind ≠ 3)) with
                | nil => rw [hdw] at ht; cases ht
                | cons v vs =>
                  rw [hdw] at ht hl
                  have ht : t ∈ vs := ht
                  exact (List.Sublist.of_cons_cons hl).subset ht
              exact (List.pairwise_cons.1 hsm).1 _ (List.mem_map_of_mem ht2)
        · show (r.dgs ++ [posB (ts.drop m).head? e]).length ≤ 20
          rw [List.length_append, List.length_singleton]
          have := h.few
          omega
theorem lexE_err : ∀ (xs : List Span) (acc : List Tok) (e p : Nat), lexE acc xs = .error (e, p) → e ≠ 0 ∧ ∃ x ∈ xs, x.pos = p
  | [], acc, e, p, h => by cases h
  | x :: xs, acc, e, p, h => by
    simp only [lexE] at h
    cases hs : stepS acc x with
    | error d =>
      rw [hs] at h
      injection h with h
      subst h
      have hd : (e ≠ 0) ∧ x.pos = p := by
        unfold stepS at hs
        split at hs
        · cases hs
        · split at hs
          · injection hs with hs; injection hs with h1 h2; exact ⟨by omega, h2⟩
          · split at hs
            · injection hs with hs; injection hs with h1 h2; exact ⟨by omega, h2⟩
            · split at hs
              · rename_i d ht
                injection hs with hs
                injection hs with h1 h2
                refine ⟨?_, h2⟩
                subst h1
                unfold tokenOf at ht
                split at ht
                · split at ht
                  · injection ht with ht; omega
                  · cases ht
                · split at ht
                  · split at ht
                    · injection ht with ht; omega
                    · split at ht
                      · injection ht with ht; omega
                      · cases ht
                  · cases ht
              · cases hs
      exact ⟨hd.1, x, List.mem_cons_self .., hd.2⟩
    | ok a =>
      rw [hs] at h
      obtain ⟨h1, y, hy, h2⟩ := lexE_err xs a e p h
      exact ⟨h1, y, List.mem_cons_of_mem _ hy, h2⟩
theorem lex_pos (l : List UInt8) (h : (LEX l).err ≠ 0) : (LEX l).pos ≤ l.length := by
  unfold LEX at h ⊢
  split
  · exact Nat.zero_le _
  · rename_i h8
    rw [if_neg h8] at h
    cases hs : lexE [] (spans l 0) with
    | ok t => rw [hs] at h; exact absurd rfl h
    | error d =>
      obtain ⟨e, p⟩ := d
      obtain ⟨_, x, hx, hp⟩ := lexE_err _ _ _ _ hs
      have := (spans_pos l.length l 0 (Nat.le_refl _) x hx).2
      show p ≤ _
      omega
/-- The diagnostics of a script: how many, in which order, where. -/
theorem parse_dgs (l : List UInt8) : ((PARSE l).2 ≠ [] → (PARSE l).1 = []) ∧ (PARSE l).2.length ≤ 20 ∧ ((PARSE l).2.map (·.2)).Pairwise (· < ·) ∧ ∀ d ∈ (PARSE l).2, d.2 ≤ l.length ∧ d.1 ≠ 0 := by
  by_cases he : (LEX l).err = 0
  · rw [lex_ok l he]
    obtain ⟨s1, s2⟩ := lex_sort l
    obtain ⟨us, hd⟩ := loop_dgs l.length ((LEX l).toks.length + 1) (LEX l).toks ⟨[], []⟩ s1 (fun t ht => (s2 t ht).1) ⟨.nil, fun d hd => by (cases hd), fun _ d hd => by (cases hd), Nat.zero_le _⟩
    have hpos : ∀ c ∈ (loopB l.length ((LEX l).toks.length + 1) (LEX l).toks ⟨[], []⟩).out, c.pos ≤ l.length := by
      have key : ∀ (F : Nat) (ts : List Tok) (r : PR), (∀ t ∈ ts, t.pos < l.length) → (∀ c ∈ r.out, c.pos ≤ l.length) → ∀ c ∈ (loopB l.length F ts r).out, c.pos ≤ l.length := by
        intro F
        induction F with
        | zero => intro ts r _ h; exact h
        | succ F ih =>
          intro ts r ht h
          simp only [loopB]
          split
          · exact h
          · split
            · rename_i c m hr
              refine ih _ _ (fun t q => ht t (List.mem_of_mem_drop q)) (fun x hx => ?_)
              rcases List.mem_append.1 hx with hx | hx
              · exact h x hx
              · rw [List.mem_singleton.1 hx]
                obtain ⟨k, _, _, _, hc⟩ := rd_hit hr
                rw [hc]
                have h0 := ne_of_rd hr
                cases ts with
                | nil => exact absurd rfl h0
                | cons t ts' => exact Nat.le_of_lt (ht t (List.mem_cons_self ..))
            · rename_i m hr
              refine ih _ _ (fun t q => ht t ?_) h
              unfold skipB at q
              exact List.mem_of_mem_drop ((List.dropWhile_sublist _).subset (List.mem_of_mem_tail q))
      exact key _ _ _ (fun t ht => (s2 t ht).1) (fun c hc => by cases hc)
    obtain ⟨r, hr⟩ : ∃ r, loopB l.length ((LEX l).toks.length + 1) (LEX l).toks ⟨[], []⟩ = r := ⟨_, rfl⟩
    rw [hr] at hd hpos ⊢
    unfold finB
    split
    · refine ⟨fun _ => rfl, by rw [List.length_map]; exact hd.few, ?_, fun d hx => ?_⟩
      · show ((r.dgs.map fun p => (7, p)).map (·.2)).Pairwise _
        rw [List.map_map]
        have : ((fun x : Nat × Nat => x.2) ∘ fun p => (7, p)) = id := rfl
        rw [this, List.map_id]
        exact hd.sort
      · obtain ⟨p, hp, rfl⟩ := List.mem_map.1 hx
        exact ⟨hd.le p hp, by show 7 ≠ 0; decide⟩
    · split
      · rename_i h3
        refine ⟨fun _ => rfl, by show 1 ≤ 20; decide, List.pairwise_singleton _ _, fun d hx => ?_⟩
        rw [List.mem_singleton.1 hx]
        exact ⟨hpos _ (List.getElem_mem _), by show 2 ≠ 0; decide⟩
      · exact ⟨fun q => absurd rfl q, Nat.zero_le _, .nil, fun d hx => by cases hx⟩
  · rw [lex_err l he]
    refine ⟨fun _ => rfl, by show 1 ≤ 20; decide, List.pairwise_singleton _ _, fun d hx => ?_⟩
    rw [List.mem_singleton.1 hx]
    exact ⟨lex_pos l he, he⟩

/-! ### Other gaps -/
theorem er_kinds {t u : Tok} (h : er t = er u) : t.kind = u.kind := by unfold er at h; injection h
theorem er_skip : ∀ {ts us : List Tok}, ts.map er = us.map er → (skipB ts).map er = (skipB us).map er
  | [], [], _ => rfl
  | [], u :: us, h => by cases h
  | t :: ts, [], h => by cases h
  | t :: ts, u :: us, h => by
    have h0 := h
    injection h with h1 h2
    unfold skipB
    by_cases hk : t.kind = 3
    · rw [List.dropWhile_cons_of_neg (by simpa using hk), List.dropWhile_cons_of_neg (by rw [er_kinds h1] at hk; simpa using hk)]
      exact h2
    · rw [List.dropWhile_cons_of_pos (by simpa using hk), List.dropWhile_cons_of_pos (by rw [er_kinds h1] at hk; simpa using hk)]
      exact er_skip h2
theorem er_loop2 (e e' : Nat) : ∀ (F : Nat) (ts us : List Tok) (r q : PR), ts.map er = us.map er → r.out.map keyP = q.out.map keyP → r.dgs.length = q.dgs.length → (loopB e F ts r).out.map keyP = (loopB e' F us q).out.map keyP ∧ (loopB e F ts r).dgs.length = (loopB e' F us q).dgs.length
  | 0, ts, us, r, q, _, h1, h2 => ⟨h1, h2⟩
  | F + 1, ts, us, r, q, h, h1, h2 => by
    simp only [loopB]
    have hnil : ts = [] ↔ us = [] := by
      cases ts <;> cases us
      · simp
      · cases h
      · cases h
      · simp
    by_cases hc : ts = [] ∨ r.dgs.length = 20
    · rw [if_pos hc, if_pos (by rw [← hnil, ← h2]; exact hc)]
      exact ⟨h1, h2⟩
    · rw [if_neg hc, if_neg (by rw [← hnil, ← h2]; exact hc)]
      obtain ⟨g1, g2⟩ := er_rd h
      cases hr : rdB ts with
      | mk a m =>
        cases hr' : rdB us with
        | mk a' m' =>
          rw [hr, hr'] at g1 g2
          have g1 : m = m' := g1
          subst g1
          have hd : (ts.drop m).map er = (us.drop m).map er := by rw [List.map_drop, List.map_drop, h]
          cases a with
          | none =>
            cases a' with
            | some c' => cases g2
            | none =>
              simp only
              exact er_loop2 e e' F _ _ _ _ (er_skip hd) h1 (by rw [List.length_append, List.length_append, h2]; rfl)
          | some c =>
            cases a' with
            | none => cases g2
            | some c' =>
              have g2' : keyP c = keyP c' := by injection g2
              simp only
              exact er_loop2 e e' F _ _ _ _ hd (by rw [List.map_append, List.map_append, h1]; simp [g2']) h2
/-- The same tokens at other offsets: the same commands, as many diagnostics with the same errors. -/
theorem parse_er {l l' : List UInt8} (he : (LEX l).err = 0) (he' : (LEX l').err = 0) (ht : (LEX l).toks.map er = (LEX l').toks.map er) : (PARSE l).1.map keyP = (PARSE l').1.map keyP ∧ (PARSE l).2.map (·.1) = (PARSE l').2.map (·.1) := by
  have hlen : (LEX l).toks.length = (LEX l').toks.length := by have := congrArg List.length ht; rwa [List.length_map, List.length_map] at this
  obtain ⟨h1, h2⟩ := er_loop2 l.length l'.length ((LEX l).toks.length + 1) (LEX l).toks (LEX l').toks ⟨[], []⟩ ⟨[], []⟩ ht rfl rfl
  rw [lex_ok l he, lex_ok l' he', ← hlen]
  obtain ⟨r, hr⟩ : ∃ r, loopB l.length ((LEX l).toks.length + 1) (LEX l).toks ⟨[], []⟩ = r := ⟨_, rfl⟩
  obtain ⟨q, hq⟩ : ∃ q, loopB l'.length ((LEX l).toks.length + 1) (LEX l').toks ⟨[], []⟩ = q := ⟨_, rfl⟩
  rw [hr, hq] at h1 h2 ⊢
  have hol : r.out.length = q.out.length := by have := congrArg List.length h1; rwa [List.length_map, List.length_map] at this
  unfold finB
  by_cases hd : r.dgs = []
  · have hd' : q.dgs = [] := List.eq_nil_of_length_eq_zero (by rw [← h2, hd]; rfl)
    rw [if_neg (fun x => x hd), if_neg (fun x => x hd')]
    by_cases h3 : 300 < r.out.length
    · rw [dif_pos h3, dif_pos (by omega)]
      exact ⟨rfl, rfl⟩
    · rw [dif_neg h3, dif_neg (by omega)]
      exact ⟨h1, rfl⟩
  · have hd' : q.dgs ≠ [] := fun x => hd (List.eq_nil_of_length_eq_zero (by rw [h2, x]; rfl))
    rw [if_pos hd, if_pos hd']
    refine ⟨rfl, ?_⟩
    show (r.dgs.map fun p => (7, p)).map (·.1) = (q.dgs.map fun p => (7, p)).map (·.1)
    rw [List.map_map, List.map_map]
    have hc : ∀ l : List Nat, l.map ((fun x : Nat × Nat => x.1) ∘ fun p => (7, p)) = List.replicate l.length 7 := by
      intro l
      rw [List.eq_replicate_iff]
      refine ⟨by rw [List.length_map], fun b hb => ?_⟩
      obtain ⟨x, _, rfl⟩ := List.mem_map.1 hb
      rfl
    rw [hc, hc, h2]
end Go.Proofs.YtbgekgakamincaaDoor.Ps
