/- The printer in plain Lean: the lines' tokens. -/
import Derived.Test.YtmdogklgbifacaaDoorLxGtx
import Derived.Test.YtmdogklgbifacaaDoorPrPrint
namespace Go.Proofs.YtmdogklgbifacaaDoor.Pr
open Go.RowKit Go.Proofs.YtmdogklgbifacaaDoor.Lx
set_option linter.unusedVariables false

/-- The words of a form. -/
def wordsP (k : Nat) : List (List UInt8) :=
  if k = 1 then [[109, 101, 115, 104], [100, 97, 116, 97], [35], [114, 97, 110, 103, 101], [35]]
  else if k = 2 then [[114, 111, 111, 116], [78], [97, 116], [35], [35]]
  else if k = 3 then [[110, 111, 100, 101], [78], [97, 116], [35], [35], [37], [98, 97, 116, 116, 101, 114, 121], [35]]
  else if k = 4 then [[97, 116], [35], [109, 111, 118, 101], [78], [35], [35]]
  else if k = 5 then [[97, 116], [35], [102, 97, 105, 108], [78]]
  else if k = 6 then [[97, 116], [35], [115, 116, 97, 114, 116], [78]]
  else if k = 7 then [[97, 116], [35], [114, 101, 97, 100], [78], [35]]
  else if k = 8 then [[97, 116], [35], [106, 97, 109], [35], [35], [114, 97, 100, 105, 117, 115], [35], [99, 104, 97, 110, 110, 101, 108], [35], [102, 111, 114], [35]]
  else if k = 9 then [[97, 116], [35], [114, 101, 112, 108, 97, 121], [35], [97, 116], [35], [35]]
  else if k = 10 then [[97, 116], [35], [112, 114, 111, 103, 114, 97, 109], [35], [115, 105, 122, 101], [35]]
  else if k = 11 then [[114, 117, 110], [35]]
  else []
/-- The tokens of a command's words. -/
def wds (nm : List UInt8) : List (List UInt8) → List Int → List Tok
  | [], _ => []
  | p :: r, ns => if p = [78] then nameT nm :: wds nm r ns else if p = [37] then nameT (if ns.headD 0 < 0 then [115, 108, 111, 119] else [102, 97, 115, 116]) :: numT (ns.headD 0).natAbs :: wds nm r ns.tail
    else if p = [35] then numT (ns.headD 0).natAbs :: wds nm r ns.tail else nameT p :: wds nm r ns
/-- The words of a line, with what follows each. -/
def itemsOf : List Tok → List (Tok × List UInt8)
  | [] => [(semiT, [10])]
  | [t] => [(t, []), (semiT, [10])]
  | t :: u :: r => (t, [32]) :: itemsOf (u :: r)
def lineI (k : Int) (nm : List UInt8) (ns : List Int) : List (Tok × List UInt8) := itemsOf (wds nm (wordsP k.toNat) ns)
def okTok (t : Tok) : Prop := (GoodT t 3 ∨ GoodT t 4) ∧ blanks (textL t) = 0
theorem blanks_append : ∀ a b, blanks (a ++ b) = blanks a + blanks b
  | [], b => by simp [blanks]
  | c :: a, b => by simp only [List.cons_append, blanks, blanks_append a b]; omega
theorem blanks_none : ∀ (l : List UInt8), (∀ c ∈ l, c.toNat ≠ 32) → blanks l = 0
  | [], _ => rfl
  | c :: r, h => by
    simp only [blanks]
    rw [if_neg (h c (List.mem_cons_self ..)), blanks_none r fun d hd => h d (List.mem_cons_of_mem _ hd)]
theorem nam_ne {c : UInt8} (h : inNam c = true) : c.toNat ≠ 32 := by
  intro e
  have hc : cls c = 1 := by unfold cls; rw [if_pos (.inl e)]
  unfold inNam at h
  rw [hc] at h
  simp at h
  omega
theorem okTok_name {w : List UInt8} (h0 : w ≠ []) (hh : ∀ c, w.head? = some c → cls c = 3) (ha : ∀ c ∈ w, inNam c = true) (hl : w.length ≤ 12) : okTok (nameT w) :=
  ⟨.inl (good_name h0 hh ha hl), by rw [textL_name]; exact blanks_none _ fun c hc => nam_ne (ha c hc)⟩
theorem okTok_num {m : Nat} (h : m ≤ 1000000000) : okTok (numT m) :=
  ⟨.inr (good_num h), by rw [textL_num]; exact blanks_none _ fun c hc => nam_ne (by unfold inNam; rw [dec_cls m c hc]; simp)⟩
theorem kw_ok : ∀ w ∈ kw, okTok (nameT w) := by
  have h : ∀ w ∈ kw, w ≠ [] ∧ (w.head?.all fun c => decide (cls c = 3)) = true ∧ w.all inNam = true ∧ w.length ≤ 12 := by decide
  intro w hw
  obtain ⟨h1, h2, h3, h4⟩ := h w hw
  exact okTok_name h1 (fun c hc => by rw [hc] at h2; simpa using h2) (List.all_eq_true.1 h3) h4
theorem chsB_nam : ∀ (l : List UInt8) (i : Nat), chsB i l = true → ∀ c ∈ l, inNam c = true
  | [], i, _, c, hc => absurd hc (by simp)
  | d :: r, i, h, c, hc => by
    simp only [chsB, Bool.and_eq_true] at h
    rcases List.mem_cons.1 hc with rfl | hc
    · have := h.1
      unfold chB at this
      unfold inNam
      simp only [Bool.or_eq_true, Bool.and_eq_true, decide_eq_true_eq] at this ⊢
      rcases this with h | ⟨_, h | h⟩
      · exact .inl h
      · exact .inr (.inr h)
      · exact .inr (.inl h)
    · exact chsB_nam r (i + 1) h.2 c hc
theorem name_ok {s : ByteArray} (h : nameB s = true) : okTok (nameT s.data.toList) := by
  have h12 := name_size h
  have h0 := name_ne h
  have hl : s.data.toList.length = s.size := Array.length_toList
  unfold nameB at h
  simp only [Bool.and_eq_true] at h
  refine okTok_name (fun e => h0 (by rw [← hl, e]; rfl)) (fun c hc => ?_) (chsB_nam _ 0 h.2) (by omega)
  cases hd : s.data.toList with
  | nil => rw [hd] at hc; cases hc
  | cons d r =>
    rw [hd] at hc
    injection hc with hc
    subst hc
    have := h.2
    rw [hd] at this
    simp only [chsB, Bool.and_eq_true] at this
    have := this.1
    unfold chB at this
    simpa using this
theorem wds_ok (nm : List UInt8) : ∀ (ps : List (List UInt8)) (ns : List Int), (∀ p ∈ ps, p = [78] ∨ p = [37] ∨ p = [35] ∨ p ∈ kw) → ([78] ∈ ps → okTok (nameT nm)) → (∀ v ∈ ns, -1000000000 ≤ v ∧ v ≤ 1000000000) → ∀ t ∈ wds nm ps ns, okTok t
  | [], ns, _, _, _, t, ht => absurd ht (by simp [wds])
  | p :: r, ns, hp, hn, hv, t, ht => by
    have hh : -1000000000 ≤ ns.headD 0 ∧ ns.headD 0 ≤ 1000000000 := by
      cases ns with
      | nil => exact ⟨by decide, by decide⟩
      | cons v t => exact hv v (List.mem_cons_self ..)
    have htl : ∀ v ∈ ns.tail, -1000000000 ≤ v ∧ v ≤ 1000000000 := fun v h => hv v (List.mem_of_mem_tail h)
    have i1 := wds_ok nm r ns (fun q hq => hp q (List.mem_cons_of_mem _ hq)) (fun h => hn (List.mem_cons_of_mem _ h)) hv t
    have i2 := wds_ok nm r ns.tail (fun q hq => hp q (List.mem_cons_of_mem _ hq)) (fun h => hn (List.mem_cons_of_mem _ h)) htl t
    have hnum : okTok (numT (ns.headD 0).natAbs) := okTok_num (by omega)
    simp only [wds] at ht
    split at ht
    · rename_i h78
      rcases List.mem_cons.1 ht with rfl | ht
      · exact hn (by rw [h78]; exact List.mem_cons_self ..)
      · exact i1 ht
    · split at ht
      · rcases List.mem_cons.1 ht with rfl | ht
        · split <;> exact kw_ok _ (by decide)
        · rcases List.mem_cons.1 ht with rfl | ht
          · exact hnum
          · exact i2 ht
      · split at ht
        · rcases List.mem_cons.1 ht with rfl | ht
          · exact hnum
          · exact i2 ht
        · rename_i h1 h2 h3
          rcases List.mem_cons.1 ht with rfl | ht
          · rcases hp p (List.mem_cons_self ..) with h | h | h | h
            · exact absurd h h1
            · exact absurd h h2
            · exact absurd h h3
            · exact kw_ok p h
          · exact i1 ht
theorem wordsP_ok {k : Int} (h : kind11 k) : (∀ p ∈ wordsP k.toNat, p = [78] ∨ p = [37] ∨ p = [35] ∨ p ∈ kw) ∧ ([78] ∈ wordsP k.toNat → (shapeOf k).1 = true) ∧ wordsP k.toNat ≠ [] := by
  rcases h with rfl | rfl | rfl | rfl | rfl | rfl | rfl | rfl | rfl | rfl | rfl <;> decide
theorem ext_semi {k : Nat} (h : k = 3 ∨ k = 4) : ext k 59 = false := by rcases h with rfl | rfl <;> decide
theorem goodS_items : ∀ (ts : List Tok) (R : List (Tok × List UInt8)), (∀ t ∈ ts, okTok t) → GoodS R → GoodS (itemsOf ts ++ R)
  | [], R, _, hR => ⟨⟨5, good_semi, fun d u e => by injection e with e _; rw [← e]; decide⟩, .inr good_line, hR⟩
  | [t], R, h, hR => by
    refine ⟨?_, .inl rfl, ⟨5, good_semi, fun d u e => by injection e with e _; rw [← e]; decide⟩, .inr good_line, hR⟩
    rcases (h t (List.mem_cons_self ..)).1 with hk | hk
    · exact ⟨3, hk, fun d u e => by injection e with e _; rw [← e]; decide⟩
    · exact ⟨4, hk, fun d u e => by injection e with e _; rw [← e]; decide⟩
  | t :: u :: r, R, h, hR => by
    refine ⟨?_, .inr good_blank, goodS_items (u :: r) R (fun x hx => h x (List.mem_cons_of_mem _ hx)) hR⟩
    rcases (h t (List.mem_cons_self ..)).1 with hk | hk
    · exact ⟨3, hk, fun d u e => by injection e with e _; rw [← e]; decide⟩
    · exact ⟨4, hk, fun d u e => by injection e with e _; rw [← e]; decide⟩
theorem items_len : ∀ (ts : List Tok), ts ≠ [] → (itemsOf ts).length = ts.length + 1
  | [], h => absurd rfl h
  | [t], _ => rfl
  | t :: u :: r, _ => by simp only [itemsOf, List.length_cons]; rw [items_len (u :: r) (by simp)]; rfl
theorem items_blanks : ∀ (ts : List Tok), ts ≠ [] → (∀ t ∈ ts, okTok t) → blanks (gtx (itemsOf ts)) + 1 = ts.length
  | [], h, _ => absurd rfl h
  | [t], _, h => by
    show blanks (textL t ++ ([] ++ ([59] ++ ([10] ++ [])))) + 1 = 1
    rw [blanks_append, (h t (List.mem_cons_self ..)).2]; rfl
  | t :: u :: r, _, h => by
    have := items_blanks (u :: r) (by simp) (fun x hx => h x (List.mem_cons_of_mem _ hx))
    show blanks (textL t ++ ([32] ++ gtx (itemsOf (u :: r)))) + 1 = _
    rw [blanks_append, blanks_append, (h t (List.mem_cons_self ..)).2]
    show 0 + (1 + _) + 1 = _
    rw [List.length_cons]
    omega
theorem line_items {k : Int} {nm : List UInt8} {ns : List Int} (hk : kind11 k) (hl : (ns.length : Int) = (shapeOf k).2) : gtx (lineI k nm ns) = lineL k nm ns ++ [10] := by
  rcases hk with rfl | rfl | rfl | rfl | rfl | rfl | rfl | rfl | rfl | rfl | rfl
  · have h : ns.length = 2 := by simp [shapeOf] at hl; omega
    match ns, h with
    | [v0, v1], _ => simp [lineI, wordsP, wds, itemsOf, gtx, lineL, formP, wrF, textL_name, textL_num, textL_semi, dg]
  · have h : ns.length = 2 := by simp [shapeOf] at hl; omega
    match ns, h with
    | [v0, v1], _ => simp [lineI, wordsP, wds, itemsOf, gtx, lineL, formP, wrF, textL_name, textL_num, textL_semi, dg]
  · have h : ns.length = 4 := by simp [shapeOf] at hl; omega
    match ns, h with
    | [v0, v1, v2, v3], _ => simp [lineI, wordsP, wds, itemsOf, gtx, lineL, formP, wrF, textL_name, textL_num, textL_semi, dg, driftL]; split <;> simp
  · have h : ns.length = 3 := by simp [shapeOf] at hl; omega
    match ns, h with
    | [v0, v1, v2], _ => simp [lineI, wordsP, wds, itemsOf, gtx, lineL, formP, wrF, textL_name, textL_num, textL_semi, dg]
  · have h : ns.length = 1 := by simp [shapeOf] at hl; omega
    match ns, h with
    | [v0], _ => simp [lineI, wordsP, wds, itemsOf, gtx, lineL, formP, wrF, textL_name, textL_num, textL_semi, dg]
  · have h : ns.length = 1 := by simp [shapeOf] at hl; omega
    match ns, h with
    | [v0], _ => simp [lineI, wordsP, wds, itemsOf, gtx, lineL, formP, wrF, textL_name, textL_num, textL_semi, dg]
  · have h : ns.length = 2 := by simp [shapeOf] at hl; omega
    match ns, h with
    | [v0, v1], _ => simp [lineI, wordsP, wds, itemsOf, gtx, lineL, formP, wrF, textL_name, textL_num, textL_semi, dg]
  · have h : ns.length = 6 := by simp [shapeOf] at hl; omega
    match ns, h with
    | [v0, v1, v2, v3, v4, v5], _ => simp [lineI, wordsP, wds, itemsOf, gtx, lineL, formP, wrF, textL_name, textL_num, textL_semi, dg]
  · have h : ns.length = 4 := by simp [shapeOf] at hl; omega
    match ns, h with
    | [v0, v1, v2, v3], _ => simp [lineI, wordsP, wds, itemsOf, gtx, lineL, formP, wrF, textL_name, textL_num, textL_semi, dg]
  · have h : ns.length = 3 := by simp [shapeOf] at hl; omega
    match ns, h with
    | [v0, v1, v2], _ => simp [lineI, wordsP, wds, itemsOf, gtx, lineL, formP, wrF, textL_name, textL_num, textL_semi, dg]
  · have h : ns.length = 1 := by simp [shapeOf] at hl; omega
    match ns, h with
    | [v0], _ => simp [lineI, wordsP, wds, itemsOf, gtx, lineL, formP, wrF, textL_name, textL_num, textL_semi, dg]

/-- The tokens of commands' lines. -/
def itemsL (l : List Cm) : List (Tok × List UInt8) := l.flatMap fun x => lineI x.kind x.name.data.toList x.ns
theorem itemsL_cons (x : Cm) (l : List Cm) : itemsL (x :: l) = lineI x.kind x.name.data.toList x.ns ++ itemsL l := by unfold itemsL; rw [List.flatMap_cons]
theorem outL_cons (x : Cm) (l : List Cm) : outL (x :: l) = (lnC x ++ [10]) ++ outL l := by unfold outL; rw [List.flatMap_cons]
theorem wds_ne (nm : List UInt8) {ps : List (List UInt8)} (h : ps ≠ []) (ns : List Int) : wds nm ps ns ≠ [] := by
  cases ps with
  | nil => exact absurd rfl h
  | cons p r => simp only [wds]; split <;> (try split) <;> (try split) <;> simp
theorem wds_of {x : Cm} (h : cmB x = true) : ∀ t ∈ wds x.name.data.toList (wordsP x.kind.toNat) x.ns, okTok t := by
  have ho := okC_of h
  obtain ⟨h1, h2, _⟩ := wordsP_ok ho.kind
  exact wds_ok _ _ _ h1 (fun h => name_ok (ho.named (h2 h))) ho.range
theorem gtx_items : ∀ (l : List Cm), (∀ x ∈ l, cmB x = true) → gtx (itemsL l) = outL l
  | [], _ => rfl
  | x :: l, h => by
    have ho := okC_of (h x (List.mem_cons_self ..))
    rw [itemsL_cons, outL_cons, gtx_append, gtx_items l fun y hy => h y (List.mem_cons_of_mem _ hy), line_items ho.kind ho.len]
    rfl
theorem good_items : ∀ (l : List Cm), (∀ x ∈ l, cmB x = true) → GoodS (itemsL l)
  | [], _ => trivial
  | x :: l, h => by
    rw [itemsL_cons]
    exact goodS_items _ _ (wds_of (h x (List.mem_cons_self ..))) (good_items l fun y hy => h y (List.mem_cons_of_mem _ hy))
theorem line_tokens {x : Cm} (h : cmB x = true) : (lineI x.kind x.name.data.toList x.ns).length = 2 + blanks (lnC x) := by
  have ho := okC_of h
  have hne := wds_ne x.name.data.toList (wordsP_ok ho.kind).2.2 x.ns
  have h1 := items_len _ hne
  have h2 := items_blanks _ hne (wds_of h)
  have h3 : gtx (itemsOf (wds x.name.data.toList (wordsP x.kind.toNat) x.ns)) = lnC x ++ [10] := line_items ho.kind ho.len
  rw [h3, blanks_append] at h2
  have h4 : blanks [10] = 0 := rfl
  unfold lineI
  omega
theorem items_tok : ∀ (l : List Cm), (∀ x ∈ l, cmB x = true) → (itemsL l).length = tokL l
  | [], _ => rfl
  | x :: l, h => by
    rw [itemsL_cons, List.length_append, items_tok l fun y hy => h y (List.mem_cons_of_mem _ hy), line_tokens (h x (List.mem_cons_self ..))]
    rfl
/-- What the lexer makes of printed commands. -/
theorem lex_out {l : List Cm} (h : ∀ x ∈ l, cmB x = true) : ((outL l).length ≤ 8000 → tokL l ≤ 2000 → LEX (outL l) = ⟨tksAt 0 (itemsL l), 0, 0⟩) ∧ (8000 < (outL l).length ∨ 2000 < tokL l → (LEX (outL l)).err = 2) := by
  have := gtx_LEX (good_items l h)
  rw [gtx_items l h, items_tok l h] at this
  exact this
theorem valid_all {l : List Cm} (h : validB l = true) : l.length ≤ 300 ∧ ∀ x ∈ l, cmB x = true := by
  unfold validB at h
  simp only [Bool.and_eq_true, decide_eq_true_eq] at h
  exact ⟨h.1, List.all_eq_true.1 h.2⟩
/-- The program prints what the reference prints. -/
theorem print_law (l : List Cm) : printL l = rprintL l := by
  unfold printL rprintL
  cases hv : validB l with
  | false => rfl
  | true =>
    rw [if_neg (show ¬ (true = false) by decide), if_neg (show ¬ (true = false) by decide)]
    obtain ⟨h1, h2⟩ := lex_out (valid_all hv).2
    by_cases hx : 8000 < (outL l).length ∨ 2000 < tokL l
    · rw [if_pos hx, if_pos (by rw [h2 hx]; decide)]
    · rw [if_neg hx, h1 (by omega) (by omega), if_neg (by simp)]
end Go.Proofs.YtmdogklgbifacaaDoor.Pr
