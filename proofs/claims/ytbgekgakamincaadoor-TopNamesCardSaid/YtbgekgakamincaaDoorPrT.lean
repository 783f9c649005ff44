/- Drifts in plain Lean. The printer in plain Lean: lines of commands. The printer in plain Lean: the text of commands, its size, its tokens counted. The printer in plain Lean: the lines' tokens. The printer in plain Lean: what Print answers for two lists joined. The printer in plain Lean: parts of lists of commands. -/
import Derived.Lib.ItoaLen
import Derived.Test.YtbgekgakamincaaDoorLxC
import Derived.Test.YtbgekgakamincaaDoorPrA

/- Drifts in plain Lean. -/
namespace Go.Proofs.YtbgekgakamincaaDoor.Pr
open Go.RowKit Go.Proofs.YtbgekgakamincaaDoor.Lx
set_option linter.unusedVariables false

theorem dec_len {n : Nat} (h : n ≤ 1000000000) : (Lib.decDigits n).length ≤ 21 := by
  rw [← Lib.itoa_nonneg]; exact Lib.itoa_length_le _ (by omega) (by omega)
/-- The text of a drift. -/
def driftL (v : Int) : List UInt8 := (if v < 0 then [115, 108, 111, 119, 32] else [102, 97, 115, 116, 32]) ++ Lib.decDigits v.natAbs
end Go.Proofs.YtbgekgakamincaaDoor.Pr

/- The printer in plain Lean: lines of commands. -/
namespace Go.Proofs.YtbgekgakamincaaDoor.Pr
open Go.RowKit Go.Proofs.YtbgekgakamincaaDoor.Lx
set_option linter.unusedVariables false

/-- The printer's form of a kind. -/
def formP (k : Nat) : List UInt8 :=
  if k = 1 then [109, 101, 115, 104, 32, 100, 97, 116, 97, 32, 35, 32, 114, 97, 110, 103, 101, 32, 35]
  else if k = 2 then [114, 111, 111, 116, 32, 78, 32, 97, 116, 32, 35, 32, 35]
  else if k = 3 then [110, 111, 100, 101, 32, 78, 32, 97, 116, 32, 35, 32, 35, 32, 37, 32, 98, 97, 116, 116, 101, 114, 121, 32, 35]
  else if k = 4 then [97, 116, 32, 35, 32, 109, 111, 118, 101, 32, 78, 32, 35, 32, 35]
  else if k = 5 then [97, 116, 32, 35, 32, 102, 97, 105, 108, 32, 78]
  else if k = 6 then [97, 116, 32, 35, 32, 115, 116, 97, 114, 116, 32, 78]
  else if k = 7 then [97, 116, 32, 35, 32, 114, 101, 97, 100, 32, 78, 32, 35]
  else if k = 8 then [97, 116, 32, 35, 32, 106, 97, 109, 32, 35, 32, 35, 32, 114, 97, 100, 105, 117, 115, 32, 35, 32, 99, 104, 97, 110, 110, 101, 108, 32, 35, 32, 102, 111, 114, 32, 35]
  else if k = 9 then [97, 116, 32, 35, 32, 114, 101, 112, 108, 97, 121, 32, 35, 32, 97, 116, 32, 35, 32, 35]
  else if k = 10 then [97, 116, 32, 35, 32, 112, 114, 111, 103, 114, 97, 109, 32, 35, 32, 115, 105, 122, 101, 32, 35]
  else if k = 11 then [114, 117, 110, 32, 35]
  else []
/-- The digits of a number. -/
def dg (v : Int) : List UInt8 := Lib.decDigits v.natAbs
/-- What stands behind a part of a form. -/
def wrF (nm : List UInt8) : List UInt8 → List Int → List UInt8
  | [], _ => []
  | c :: r, ns => if c = 78 then nm ++ wrF nm r ns else if c = 37 then driftL (ns.headD 0) ++ wrF nm r ns.tail else if c = 35 then dg (ns.headD 0) ++ wrF nm r ns.tail else c :: wrF nm r ns
/-- The line of a command, without its line feed. -/
def lineL (k : Int) (nm : List UInt8) (ns : List Int) : List UInt8 := wrF nm (formP k.toNat) ns ++ [59]
def kind11 (k : Int) : Prop := k = 1 ∨ k = 2 ∨ k = 3 ∨ k = 4 ∨ k = 5 ∨ k = 6 ∨ k = 7 ∨ k = 8 ∨ k = 9 ∨ k = 10 ∨ k = 11
theorem numsB_get : ∀ (ns : List Int) (k : Int) (i : Nat), numsB k i ns = true → ∀ j (h : j < ns.length), numB k (i + j) ns[j] = true
  | [], k, i, h, j, hj => absurd hj (by simp)
  | v :: r, k, i, h, 0, hj => by simp only [numsB, Bool.and_eq_true] at h; exact h.1
  | v :: r, k, i, h, j + 1, hj => by
    simp only [numsB, Bool.and_eq_true] at h
    have := numsB_get r k (i + 1) h.2 j (by simpa using hj)
    rw [show i + (j + 1) = i + 1 + j by omega]
    exact this
structure OkC (k : Int) (nm : ByteArray) (ns : List Int) : Prop where
  kind : kind11 k
  len : (ns.length : Int) = (shapeOf k).2
  named : (shapeOf k).1 = true → nameB nm = true
  bare : (shapeOf k).1 = false → nm.size = 0
  nums : ∀ j (h : j < ns.length), numB k j ns[j] = true
theorem okC_of {k : Int} {nm : ByteArray} {ns : List Int} (h : cmdB k nm ns = true) : OkC k nm ns := by
  unfold cmdB at h
  simp only [Bool.and_eq_true, decide_eq_true_eq, Bool.or_eq_true, Bool.not_eq_true'] at h
  obtain ⟨⟨h1, h2⟩, h3, h4⟩ := h
  refine ⟨?_, h1, ?_, ?_, fun j hj => by have := numsB_get ns k 0 h4 j hj; rwa [Nat.zero_add] at this⟩
  · by_cases hk : k = 1 ∨ k = 2 ∨ k = 3 ∨ k = 4 ∨ k = 5 ∨ k = 6 ∨ k = 7 ∨ k = 8 ∨ k = 9 ∨ k = 10 ∨ k = 11
    · exact hk
    · rw [shape_none hk] at h1; exact absurd h1 (by simp only; omega)
  · intro hn
    rcases h3 with h3 | h3
    · rw [hn] at h3; cases h3
    · exact h3
  · intro hn
    rw [hn, beq_iff_eq] at h2
    exact Classical.not_not.1 (of_decide_eq_false h2.symm)
theorem num_range {k : Int} {j : Nat} {v : Int} (h : numB k j v = true) : -1000000000 ≤ v ∧ v ≤ 1000000000 ∧ (¬ (k = 3 ∧ j = 2) → 0 ≤ v) := by
  unfold numB at h
  simp only [Bool.and_eq_true, decide_eq_true_eq, Bool.or_eq_true] at h
  obtain ⟨h1, h2 | ⟨h2, h3, h4⟩⟩ := h
  · exact ⟨by omega, h1, fun _ => h2⟩
  · exact ⟨h4, h1, fun hn => absurd ⟨h2, h3⟩ hn⟩
theorem name_size {nm : ByteArray} (h : nameB nm = true) : nm.size ≤ 12 := by
  unfold nameB at h
  simp only [Bool.and_eq_true, decide_eq_true_eq] at h
  exact h.1.2.1
theorem OkC.name12 {k : Int} {nm : ByteArray} {ns : List Int} (h : OkC k nm ns) : nm.size ≤ 12 := by
  cases hs : (shapeOf k).1 with
  | true => exact name_size (h.named hs)
  | false => rw [h.bare hs]; omega
end Go.Proofs.YtbgekgakamincaaDoor.Pr

/- The printer in plain Lean: the text of commands, its size, its tokens counted. -/
namespace Go.Proofs.YtbgekgakamincaaDoor.Pr
open Go.RowKit Go.Proofs.YtbgekgakamincaaDoor.Lx
set_option linter.unusedVariables false

def blanks : List UInt8 → Nat
  | [] => 0
  | c :: r => (if c.toNat = 32 then 1 else 0) + blanks r
theorem blanks_le : ∀ l, blanks l ≤ l.length
  | [] => Nat.le_refl _
  | c :: r => by have := blanks_le r; simp only [blanks, List.length_cons]; split <;> omega
/-- The line of a command that lies in memory. -/
def lnC (x : Cm) : List UInt8 := lineL x.kind x.name.data.toList x.ns
/-- The text of commands. -/
def outL (l : List Cm) : List UInt8 := l.flatMap fun x => lnC x ++ [10]
/-- How many tokens it has. -/
def tokL : List Cm → Nat
  | [] => 0
  | x :: r => (2 + blanks (lnC x)) + tokL r
theorem tokL_append : ∀ a b, tokL (a ++ b) = tokL a + tokL b
  | [], b => by simp [tokL]
  | x :: a, b => by rw [List.cons_append]; simp only [tokL]; rw [tokL_append a b]; omega
theorem dg_len {v : Int} (h0 : -1000000000 ≤ v) (h1 : v ≤ 1000000000) : (dg v).length ≤ 21 := dec_len (by omega)
theorem drift_len {v : Int} (h0 : -1000000000 ≤ v) (h1 : v ≤ 1000000000) : (driftL v).length ≤ 26 := by
  unfold driftL
  have := dec_len (n := v.natAbs) (by omega)
  rw [List.length_append]
  split <;> simp only [List.length_cons, List.length_nil] <;> omega
theorem wrF_len (nm : List UInt8) (hn : nm.length ≤ 12) : ∀ (f : List UInt8) (ns : List Int), (∀ v ∈ ns, -1000000000 ≤ v ∧ v ≤ 1000000000) → (wrF nm f ns).length ≤ f.length * 26
  | [], ns, h => by simp [wrF]
  | c :: r, ns, h => by
    have hh : -1000000000 ≤ ns.headD 0 ∧ ns.headD 0 ≤ 1000000000 := by
      cases ns with
      | nil => exact ⟨by decide, by decide⟩
      | cons v t => exact h v (List.mem_cons_self ..)
    have ht : ∀ v ∈ ns.tail, -1000000000 ≤ v ∧ v ≤ 1000000000 := fun v hv => h v (List.mem_of_mem_tail hv)
    have h1 := wrF_len nm hn r ns h
    have h2 := wrF_len nm hn r ns.tail ht
    have h3 := dg_len hh.1 hh.2
    have h4 := drift_len hh.1 hh.2
    simp only [wrF, List.length_cons]
    split
    · rw [List.length_append]; omega
    · split
      · rw [List.length_append]; omega
      · split
        · rw [List.length_append]; omega
        · rw [List.length_cons]; omega
theorem ite_len {p : Prop} [Decidable p] {a b : List UInt8} (ha : a.length ≤ 40) (hb : b.length ≤ 40) : (if p then a else b).length ≤ 40 := by split <;> assumption
theorem formP_len (k : Nat) : (formP k).length ≤ 40 := by
  unfold formP
  repeat (refine ite_len (by decide) ?_)
  decide
theorem OkC.range {k : Int} {nm : ByteArray} {ns : List Int} (h : OkC k nm ns) : ∀ v ∈ ns, -1000000000 ≤ v ∧ v ≤ 1000000000 := by
  intro v hv
  obtain ⟨j, hj, rfl⟩ := List.getElem_of_mem hv
  have := num_range (h.nums j hj)
  exact ⟨this.1, this.2.1⟩
theorem lnC_len {x : Cm} (h : cmB x = true) : (lnC x).length ≤ 1041 := by
  have ho := okC_of h
  have h1 := wrF_len x.name.data.toList (by rw [show x.name.data.toList.length = x.name.size from Array.length_toList]; exact ho.name12) (formP x.kind.toNat) x.ns ho.range
  have h2 := formP_len x.kind.toNat
  unfold lnC lineL
  rw [List.length_append]
  simp only [List.length_cons, List.length_nil]
  omega
/-- What the reference prints: a text and an error's number. -/
def rprintL (l : List Cm) : List UInt8 × Nat :=
  if validB l = false then ([], 1) else if 8000 < (outL l).length ∨ 2000 < tokL l then ([], 2) else (outL l, 0)
theorem outL_snoc (l : List Cm) (x : Cm) : outL (l ++ [x]) = outL l ++ (lnC x ++ [10]) := by unfold outL; rw [List.flatMap_append]; simp
theorem tokL_snoc (l : List Cm) (x : Cm) : tokL (l ++ [x]) = tokL l + (2 + blanks (lnC x)) := by rw [tokL_append]; simp [tokL]
/-- What the program prints. -/
def printL (l : List Cm) : List UInt8 × Nat :=
  if validB l = false then ([], 1) else if (LEX (outL l)).err ≠ 0 then ([], 2) else (outL l, 0)
theorem outL_len : ∀ (l : List Cm), (∀ x ∈ l, cmB x = true) → (outL l).length ≤ l.length * 1042
  | [], _ => Nat.le_refl _
  | x :: l, h => by
    have h1 := outL_len l (fun y hy => h y (List.mem_cons_of_mem _ hy))
    have h2 := lnC_len (h x (List.mem_cons_self ..))
    have e : outL (x :: l) = (lnC x ++ [10]) ++ outL l := by unfold outL; rw [List.flatMap_cons]
    rw [e, List.length_append, List.length_append]
    simp only [List.length_cons, List.length_nil]
    omega
end Go.Proofs.YtbgekgakamincaaDoor.Pr

/- The printer in plain Lean: the lines' tokens. -/
namespace Go.Proofs.YtbgekgakamincaaDoor.Pr
open Go.RowKit Go.Proofs.YtbgekgakamincaaDoor.Lx
set_option linter.unusedVariables false

/-- The words of a form. -/
def wordsP (k : Nat) : List (List UInt8) :=
  if k = 1 then [[109, 101, 115, 104], [100, 97, 116, 97], [35], [114, 97, 110, 103, 101], [35]]
  else if k = 2 then [[114, 111, 111, 116], [78], [97, 116], [35], [35]]
  else if k = 3 then [[110, 111, 100, 101], [78], [97, 116], [35], [35], [37], [98, 97, 116, 116, 101, 114, 121], [35]]
  else if k = 4 then [[97, 116], [35], [109, 111, 118, 101], [78], [35], [35]]
  else if k = 5 then [[97, 116], [35], [102, 97, 105, 108], [78]]
  else if k = 6 then [[97, 116], [35], [115, 116, 97, 114, 116], [78]]
  else if k = 7 then [[97, 116], [35], [114, 101, 97, 100], [78], [35]]
  else if k = 8 then [[97, 116], [35], [106, 97, 109], [35], [35], [114, 97, 100, 105, 117, 115], [35], [99, 104, 97, 110, 110, 101, 108], [35], [102, 111, 114], [35]]
  else if k = 9 then [[97, 116], [35], [114, 101, 112, 108, 97, 121], [35], [97, 116], [35], [35]]
  else if k = 10 then [[97, 116], [35], [112, 114, 111, 103, 114, 97, 109], [35], [115, 105, 122, 101], [35]]
  else if k = 11 then [[114, 117, 110], [35]]
  else []
/-- The tokens of a command's words. -/
def wds (nm : List UInt8) : List (List UInt8) → List Int → List Tok
  | [], _ => []
  | p :: r, ns => if p = [78] then nameT nm :: wds nm r ns else if p = [37] then nameT (if ns.headD 0 < 0 then [115, 108, 111, 119] else [102, 97, 115, 116]) :: numT (ns.headD 0).natAbs :: wds nm r ns.tail
    else if p = [35] then numT (ns.headD 0).natAbs :: wds nm r ns.tail else nameT p :: wds nm r ns
/-- The words of a line, with what follows each. -/
def itemsOf : List Tok → List (Tok × List UInt8)
  | [] => [(semiT, [10])]
  | [t] => [(t, []), (semiT, [10])]
  | t :: u :: r => (t, [32]) :: itemsOf (u :: r)
def lineI (k : Int) (nm : List UInt8) (ns : List Int) : List (Tok × List UInt8) := itemsOf (wds nm (wordsP k.toNat) ns)
def okTok (t : Tok) : Prop := (GoodT t 3 ∨ GoodT t 4) ∧ blanks (textL t) = 0
theorem blanks_append : ∀ a b, blanks (a ++ b) = blanks a + blanks b
  | [], b => by simp [blanks]
  | c :: a, b => by simp only [List.cons_append, blanks, blanks_append a b]; omega
theorem blanks_none : ∀ (l : List UInt8), (∀ c ∈ l, c.toNat ≠ 32) → blanks l = 0
  | [], _ => rfl
  | c :: r, h => by
    simp only [blanks]
    rw [if_neg (h c (List.mem_cons_self ..)), blanks_none r fun d hd => h d (List.mem_cons_of_mem _ hd)]
theorem nam_ne {c : UInt8} (h : inNam c = true) : c.toNat ≠ 32 := by
  intro e
  have hc : cls c = 1 := by unfold cls; rw [if_pos (.inl e)]
  unfold inNam at h
  rw [hc] at h
  simp at h
  omega
theorem okTok_name {w : List UInt8} (h0 : w ≠ []) (hh : ∀ c, w.head? = some c → cls c = 3) (ha : ∀ c ∈ w, inNam c = true) (hl : w.length ≤ 12) : okTok (nameT w) :=
  ⟨.inl (good_name h0 hh ha hl), by rw [textL_name]; exact blanks_none _ fun c hc => nam_ne (ha c hc)⟩
theorem okTok_num {m : Nat} (h : m ≤ 1000000000) : okTok (numT m) :=
  ⟨.inr (good_num h), by rw [textL_num]; exact blanks_none _ fun c hc => nam_ne (by unfold inNam; rw [dec_cls m c hc]; simp)⟩
theorem kw_ok : ∀ w ∈ kw, okTok (nameT w) := by
  have h : ∀ w ∈ kw, w ≠ [] ∧ (w.head?.all fun c => decide (cls c = 3)) = true ∧ w.all inNam = true ∧ w.length ≤ 12 := by decide
  intro w hw
  obtain ⟨h1, h2, h3, h4⟩ := h w hw
  exact okTok_name h1 (fun c hc => by rw [hc] at h2; simpa using h2) (List.all_eq_true.1 h3) h4
theorem chsB_nam : ∀ (l : List UInt8) (i : Nat), chsB i l = true → ∀ c ∈ l, inNam c = true
  | [], i, _, c, hc => absurd hc (by simp)
  | d :: r, i, h, c, hc => by
    simp only [chsB, Bool.and_eq_true] at h
    rcases List.mem_cons.1 hc with rfl | hc
    · have := h.1
      unfold chB at this
      unfold inNam
      simp only [Bool.or_eq_true, Bool.and_eq_true, decide_eq_true_eq] at this ⊢
      rcases this with h | ⟨_, h | h⟩
      · exact .inl h
      · exact .inr (.inr h)
      · exact .inr (.inl h)
    · exact chsB_nam r (i + 1) h.2 c hc
theorem name_ok {s : ByteArray} (h : nameB s = true) : okTok (nameT s.data.toList) := by
  have h12 := name_size h
  have h0 := name_ne h
  have hl : s.data.toList.length = s.size := Array.length_toList
  unfold nameB at h
  simp only [Bool.and_eq_true] at h
  refine okTok_name (fun e => h0 (by rw [← hl, e]; rfl)) (fun c hc => ?_) (chsB_nam _ 0 h.2) (by omega)
  cases hd : s.data.toList with
  | nil => rw [hd] at hc; cases hc
  | cons d r =>
    rw [hd] at hc
    injection hc with hc
    subst hc
    have := h.2
    rw [hd] at this
    simp only [chsB, Bool.and_eq_true] at this
    have := this.1
    unfold chB at this
    simpa using this
theorem wds_ok (nm : List UInt8) : ∀ (ps : List (List UInt8)) (ns : List Int), (∀ p ∈ ps, p = [78] ∨ p = [37] ∨ p = [35] ∨ p ∈ kw) → ([78] ∈ ps → okTok (nameT nm)) → (∀ v ∈ ns, -1000000000 ≤ v ∧ v ≤ 1000000000) → ∀ t ∈ wds nm ps ns, okTok t
  | [], ns, _, _, _, t, ht => absurd ht (by simp [wds])
  | p :: r, ns, hp, hn, hv, t, ht => by
    have hh : -1000000000 ≤ ns.headD 0 ∧ ns.headD 0 ≤ 1000000000 := by
      cases ns with
      | nil => exact ⟨by decide, by decide⟩
      | cons v t => exact hv v (List.mem_cons_self ..)
    have htl : ∀ v ∈ ns.tail, -1000000000 ≤ v ∧ v ≤ 1000000000 := fun v h => hv v (List.mem_of_mem_tail h)
    have i1 := wds_ok nm r ns (fun q hq => hp q (List.mem_cons_of_mem _ hq)) (fun h => hn (List.mem_cons_of_mem _ h)) hv t
    have i2 := wds_ok nm r ns.tail (fun q hq => hp q (List.mem_cons_of_mem _ hq)) (fun h => hn (List.mem_cons_of_mem _ h)) htl t
    have hnum : okTok (numT (ns.headD 0).natAbs) := okTok_num (by omega)
    simp only [wds] at ht
    split at ht
    · rename_i h78
      rcases List.mem_cons.1 ht with rfl | ht
      · exact hn (by rw [h78]; exact List.mem_cons_self ..)
      · exact i1 ht
    · split at ht
      · rcases List.mem_cons.1 ht with rfl | ht
        · split <;> exact kw_ok _ (by decide)
        · rcases List.mem_cons.1 ht with rfl | ht
          · exact hnum
          · exact i2 ht
      · split at ht
        · rcases List.mem_cons.1 ht with rfl | ht
          · exact hnum
          · exact i2 ht
        · rename_i h1 h2 h3
          rcases List.mem_cons.1 ht with rfl | ht
          · rcases hp p (List.mem_cons_self ..) with h | h | h | h
            · exact absurd h h1
            · exact absurd h h2
            · exact absurd h h3
            · exact kw_ok p h
          · exact i1 ht
theorem wordsP_ok {k : Int} (h : kind11 k) : (∀ p ∈ wordsP k.toNat, p = [78] ∨ p = [37] ∨ p = [35] ∨ p ∈ kw) ∧ ([78] ∈ wordsP k.toNat → (shapeOf k).1 = true) ∧ wordsP k.toNat ≠ [] := by
  rcases h with rfl | rfl | rfl | rfl | rfl | rfl | rfl | rfl | rfl | rfl | rfl <;> decide
theorem ext_semi {k : Nat} (h : k = 3 ∨ k = 4) : ext k 59 = false := by rcases h with rfl | rfl <;> decide
theorem goodS_items : ∀ (ts : List Tok) (R : List (Tok × List UInt8)), (∀ t ∈ ts, okTok t) → GoodS R → GoodS (itemsOf ts ++ R)
  | [], R, _, hR => ⟨⟨5, good_semi, fun d u e => by injection e with e _; rw [← e]; decide⟩, .inr good_line, hR⟩
  | [t], R, h, hR => by
    refine ⟨?_, .inl rfl, ⟨5, good_semi, fun d u e => by injection e with e _; rw [← e]; decide⟩, .inr good_line, hR⟩
    rcases (h t (List.mem_cons_self ..)).1 with hk | hk
    · exact ⟨3, hk, fun d u e => by injection e with e _; rw [← e]; decide⟩
    · exact ⟨4, hk, fun d u e => by injection e with e _; rw [← e]; decide⟩
  | t :: u :: r, R, h, hR => by
    refine ⟨?_, .inr good_blank, goodS_items (u :: r) R (fun x hx => h x (List.mem_cons_of_mem _ hx)) hR⟩
    rcases (h t (List.mem_cons_self ..)).1 with hk | hk
    · exact ⟨3, hk, fun d u e => by injection e with e _; rw [← e]; decide⟩
    · exact ⟨4, hk, fun d u e => by injection e with e _; rw [← e]; decide⟩
theorem items_len : ∀ (ts : List Tok), ts ≠ [] → (itemsOf ts).length = ts.length + 1
  | [], h => absurd rfl h
  | [t], _ => rfl
  | t :: u :: r, _ => by simp only [itemsOf, List.length_cons]; rw [items_len (u :: r) (by simp)]; rfl
theorem items_blanks : ∀ (ts : List Tok), ts ≠ [] → (∀ t ∈ ts, okTok t) → blanks (gtx (itemsOf ts)) + 1 = ts.length
  | [], h, _ => absurd rfl h
  | [t], _, h => by
    show blanks (textL t ++ ([] ++ ([59] ++ ([10] ++ [])))) + 1 = 1
    rw [blanks_append, (h t (List.mem_cons_self ..)).2]; rfl
  | t :: u :: r, _, h => by
    have := items_blanks (u :: r) (by simp) (fun x hx => h x (List.mem_cons_of_mem _ hx))
    show blanks (textL t ++ ([32] ++ gtx (itemsOf (u :: r)))) + 1 = _
    rw [blanks_append, blanks_append, (h t (List.mem_cons_self ..)).2]
    show 0 + (1 + _) + 1 = _
    rw [List.length_cons]
    omega
theorem line_items {k : Int} {nm : List UInt8} {ns : List Int} (hk : kind11 k) (hl : (ns.length : Int) = (shapeOf k).2) : gtx (lineI k nm ns) = lineL k nm ns ++ [10] := by
  rcases hk with rfl | rfl | rfl | rfl | rfl | rfl | rfl | rfl | rfl | rfl | rfl
  · have h : ns.length = 2 := by simp [shapeOf] at hl; omega
    match ns, h with
    | [v0, v1], _ => simp [lineI, wordsP, wds, itemsOf, gtx, lineL, formP, wrF, textL_name, textL_num, textL_semi, dg]
  · have h : ns.length = 2 := by simp [shapeOf] at hl; omega
    match ns, h with
    | [v0, v1], _ => simp [lineI, wordsP, wds, itemsOf, gtx, lineL, formP, wrF, textL_name, textL_num, textL_semi, dg]
  · have h : ns.length = 4 := by simp [shapeOf] at hl; omega
    match ns, h with
    | [v0, v1, v2, v3], _ => simp [lineI, wordsP, wds, itemsOf, gtx, lineL, formP, wrF, textL_name, textL_num, textL_semi, dg, driftL]; split <;> simp
  · have h : ns.length = 3 := by simp [shapeOf] at hl; omega
    match ns, h with
    | [v0, v1, v2], _ => simp [lineI, wordsP, wds, itemsOf, gtx, lineL, formP, wrF, textL_name, textL_num, textL_semi, dg]
  · have h : ns.length = 1 := by simp [shapeOf] at hl; omega
    match ns, h with
    | [v0], _ => simp [lineI, wordsP, wds, itemsOf, gtx, lineL, formP, wrF, textL_name, textL_num, textL_semi, dg]
  · have h : ns.length = 1 := by simp [shapeOf] at hl; omega
    match ns, h with
    | [v0], _ => simp [lineI, wordsP, wds, itemsOf, gtx, lineL, formP, wrF, textL_name, textL_num, textL_semi, dg]
  · have h : ns.length = 2 := by simp [shapeOf] at hl; omega
    match ns, h with
    | [v0, v1], _ => simp [lineI, wordsP, wds, itemsOf, gtx, lineL, formP, wrF, textL_name, textL_num, textL_semi, dg]
  · have h : ns.length = 6 := by simp [shapeOf] at hl; omega
    match ns, h with
    | [v0, v1, v2, v3, v4, v5], _ => simp [lineI, wordsP, wds, itemsOf, gtx, lineL, formP, wrF, textL_name, textL_num, textL_semi, dg]
  · have h : ns.length = 4 := by simp [shapeOf] at hl; omega
    match ns, h with
    | [v0, v1, v2, v3], _ => simp [lineI, wordsP, wds, itemsOf, gtx, lineL, formP, wrF, textL_name, textL_num, textL_semi, dg]
  · have h : ns.length = 3 := by simp [shapeOf] at hl; omega
    match ns, h with
    | [v0, v1, v2], _ => simp [lineI, wordsP, wds, itemsOf, gtx, lineL, formP, wrF, textL_name, textL_num, textL_semi, dg]
  · have h : ns.length = 1 := by simp [shapeOf] at hl; omega
    match ns, h with
    | [v0], _ => simp [lineI, wordsP, wds, itemsOf, gtx, lineL, formP, wrF, textL_name, textL_num, textL_semi, dg]

/-- The tokens of commands' lines. -/
def itemsL (l : List Cm) : List (Tok × List UInt8) := l.flatMap fun x => lineI x.kind x.name.data.toList x.ns
theorem itemsL_cons (x : Cm) (l : List Cm) : itemsL (x :: l) = lineI x.kind x.name.data.toList x.ns ++ itemsL l := by unfold itemsL; rw [List.flatMap_cons]
theorem outL_cons (x : Cm) (l : List Cm) : outL (x :: l) = (lnC x ++ [10]) ++ outL l := by unfold outL; rw [List.flatMap_cons]
theorem wds_ne (nm : List UInt8) {ps : List (List UInt8)} (h : ps ≠ []) (ns : List Int) : wds nm ps ns ≠ [] := by
  cases ps with
  | nil => exact absurd rfl h
  | cons p r => simp only [wds]; split <;> (try split) <;> (try split) <;> simp
theorem wds_of {x : Cm} (h : cmB x = true) : ∀ t ∈ wds x.name.data.toList (wordsP x.kind.toNat) x.ns, okTok t := by
  have ho := okC_of h
  obtain ⟨h1, h2, _⟩ := wordsP_ok ho.kind
  exact wds_ok _ _ _ h1 (fun h => name_ok (ho.named (h2 h))) ho.range
theorem gtx_items : ∀ (l : List Cm), (∀ x ∈ l, cmB x = true) → gtx (itemsL l) = outL l
  | [], _ => rfl
  | x :: l, h => by
    have ho := okC_of (h x (List.mem_cons_self ..))
    rw [itemsL_cons, outL_cons, gtx_append, gtx_items l fun y hy => h y (List.mem_cons_of_mem _ hy), line_items ho.kind ho.len]
    rfl
theorem good_items : ∀ (l : List Cm), (∀ x ∈ l, cmB x = true) → GoodS (itemsL l)
  | [], _ => trivial
  | x :: l, h => by
    rw [itemsL_cons]
    exact goodS_items _ _ (wds_of (h x (List.mem_cons_self ..))) (good_items l fun y hy => h y (List.mem_cons_of_mem _ hy))
theorem line_tokens {x : Cm} (h : cmB x = true) : (lineI x.kind x.name.data.toList x.ns).length = 2 + blanks (lnC x) := by
  have ho := okC_of h
  have hne := wds_ne x.name.data.toList (wordsP_ok ho.kind).2.2 x.ns
  have h1 := items_len _ hne
  have h2 := items_blanks _ hne (wds_of h)
  have h3 : gtx (itemsOf (wds x.name.data.toList (wordsP x.kind.toNat) x.ns)) = lnC x ++ [10] := line_items ho.kind ho.len
  rw [h3, blanks_append] at h2
  have h4 : blanks [10] = 0 := rfl
  unfold lineI
  omega
theorem items_tok : ∀ (l : List Cm), (∀ x ∈ l, cmB x = true) → (itemsL l).length = tokL l
  | [], _ => rfl
  | x :: l, h => by
    rw [itemsL_cons, List.length_append, items_tok l fun y hy => h y (List.mem_cons_of_mem _ hy), line_tokens (h x (List.mem_cons_self ..))]
    rfl
/-- What the lexer makes of printed commands. -/
theorem lex_out {l : List Cm} (h : ∀ x ∈ l, cmB x = true) : ((outL l).length ≤ 8000 → tokL l ≤ 2000 → LEX (outL l) = ⟨tksAt 0 (itemsL l), 0, 0⟩) ∧ (8000 < (outL l).length ∨ 2000 < tokL l → (LEX (outL l)).err = 2) := by
  have := gtx_LEX (good_items l h)
  rw [gtx_items l h, items_tok l h] at this
  exact this
theorem valid_all {l : List Cm} (h : validB l = true) : l.length ≤ 300 ∧ ∀ x ∈ l, cmB x = true := by
  unfold validB at h
  simp only [Bool.and_eq_true, decide_eq_true_eq] at h
  exact ⟨h.1, List.all_eq_true.1 h.2⟩
/-- The program prints what the reference prints. -/
theorem print_law (l : List Cm) : printL l = rprintL l := by
  unfold printL rprintL
  cases hv : validB l with
  | false => rfl
  | true =>
    rw [if_neg (show ¬ (true = false) by decide), if_neg (show ¬ (true = false) by decide)]
    obtain ⟨h1, h2⟩ := lex_out (valid_all hv).2
    by_cases hx : 8000 < (outL l).length ∨ 2000 < tokL l
    · rw [if_pos hx, if_pos (by rw [h2 hx]; decide)]
    · rw [if_neg hx, h1 (by omega) (by omega), if_neg (by simp)]
end Go.Proofs.YtbgekgakamincaaDoor.Pr

/- The printer in plain Lean: what Print answers for two lists joined. -/
namespace Go.Proofs.YtbgekgakamincaaDoor.Pr
open Go.RowKit Go.Proofs.YtbgekgakamincaaDoor.Lx
set_option linter.unusedVariables false

theorem outL_append (a b : List Cm) : outL (a ++ b) = outL a ++ outL b := by unfold outL; rw [List.flatMap_append]
theorem few_len {l : List Cm} (h : fewB l = true) : l.length ≤ 310 := by
  unfold fewB at h
  simp only [Bool.and_eq_true, decide_eq_true_eq] at h
  exact h.1
theorem rprint_cases (l : List Cm) : (validB l = false ∧ rprintL l = ([], 1)) ∨ (validB l = true ∧ (8000 < (outL l).length ∨ 2000 < tokL l) ∧ rprintL l = ([], 2)) ∨ (validB l = true ∧ (outL l).length ≤ 8000 ∧ tokL l ≤ 2000 ∧ rprintL l = (outL l, 0)) := by
  unfold rprintL
  cases hv : validB l with
  | false => exact .inl ⟨rfl, if_pos rfl⟩
  | true =>
    by_cases hx : 8000 < (outL l).length ∨ 2000 < tokL l
    · exact .inr (.inl ⟨rfl, hx, by rw [if_neg (by decide), if_pos hx]⟩)
    · exact .inr (.inr ⟨rfl, by omega, by omega, by rw [if_neg (by decide), if_neg hx]⟩)
theorem valid_append (a b : List Cm) : validB (a ++ b) = (decide (a.length + b.length ≤ 300) && (a.all cmB && b.all cmB)) := by
  unfold validB; rw [List.length_append, List.all_append]
theorem join_law (a b : List Cm) : (((rprintL a).2 ≠ 0 ∨ (rprintL b).2 ≠ 0) → (rprintL (a ++ b)).2 ≠ 0) ∧
    ((rprintL a).2 = 0 → (rprintL b).2 = 0 → ((rprintL (a ++ b)).2 ≠ 0 → ((rprintL (a ++ b)).2 = 1 ∧ 300 < a.length + b.length) ∨ (rprintL (a ++ b)).2 = 2) ∧ ((rprintL (a ++ b)).2 = 0 → (rprintL (a ++ b)).1 = (rprintL a).1 ++ (rprintL b).1)) := by
  have hl : (outL (a ++ b)).length = (outL a).length + (outL b).length := by rw [outL_append, List.length_append]
  have ht := tokL_append a b
  have hv := valid_append a b
  have va : validB a = (decide (a.length ≤ 300) && a.all cmB) := rfl
  have vb : validB b = (decide (b.length ≤ 300) && b.all cmB) := rfl
  rcases rprint_cases (a ++ b) with ⟨u1, u2⟩ | ⟨u1, u2, u3⟩ | ⟨u1, u2, u3, u4⟩
  · rw [u2]
    refine ⟨fun _ => by decide, fun ha hb => ⟨fun _ => .inl ⟨rfl, ?_⟩, fun h => absurd h (by decide)⟩⟩
    rcases rprint_cases a with ⟨a1, a2⟩ | ⟨a1, a2, a3⟩ | ⟨a1, a2, a3, a4⟩
    · rw [a2] at ha; exact absurd ha (by decide)
    · rw [a3] at ha; exact absurd ha (by decide)
    · rcases rprint_cases b with ⟨b1, b2⟩ | ⟨b1, b2, b3⟩ | ⟨b1, b2, b3, b4⟩
      · rw [b2] at hb; exact absurd hb (by decide)
      · rw [b3] at hb; exact absurd hb (by decide)
      · rw [a1] at va; rw [b1] at vb; rw [u1] at hv
        have h1 := (Bool.and_eq_true _ _ ▸ va.symm)
        have h2 := (Bool.and_eq_true _ _ ▸ vb.symm)
        rw [h1.2, h2.2, Bool.and_true, Bool.and_true] at hv
        have := of_decide_eq_false hv.symm
        omega
  · rw [u3]
    exact ⟨fun _ => by decide, fun _ _ => ⟨fun _ => .inr rfl, fun h => absurd h (by decide)⟩⟩
  · rw [u1] at hv
    have h0 := (Bool.and_eq_true _ _ ▸ hv.symm)
    have h00 := of_decide_eq_true h0.1
    have h01 := (Bool.and_eq_true _ _ ▸ h0.2)
    have a1 : validB a = true := by rw [va, h01.1, decide_eq_true (by omega)]; rfl
    have b1 : validB b = true := by rw [vb, h01.2, decide_eq_true (by omega)]; rfl
    have ea : rprintL a = (outL a, 0) := by
      rcases rprint_cases a with ⟨x1, x2⟩ | ⟨x1, x2, x3⟩ | ⟨x1, x2, x3, x4⟩
      · rw [a1] at x1; cases x1
      · omega
      · exact x4
    have eb : rprintL b = (outL b, 0) := by
      rcases rprint_cases b with ⟨x1, x2⟩ | ⟨x1, x2, x3⟩ | ⟨x1, x2, x3, x4⟩
      · rw [b1] at x1; cases x1
      · omega
      · exact x4
    rw [ea, eb, u4]
    exact ⟨fun h => by rcases h with h | h <;> exact absurd rfl h, fun _ _ => ⟨fun h => absurd rfl h, fun _ => outL_append a b⟩⟩
end Go.Proofs.YtbgekgakamincaaDoor.Pr

/- The printer in plain Lean: parts of lists of commands. -/
namespace Go.Proofs.YtbgekgakamincaaDoor.Pr
open Go.RowKit Go.Proofs.YtbgekgakamincaaDoor.Lx
set_option linter.unusedVariables false

theorem all_take {l : List Cm} (h : ∀ x ∈ l, cmB x = true) (i k : Nat) : ∀ x ∈ (l.take k).drop i, cmB x = true := fun x hx => h x (List.mem_of_mem_take (List.mem_of_mem_drop hx))
theorem part_split (l : List Cm) (i k : Nat) (hik : i ≤ k) : l = l.take i ++ ((l.take k).drop i ++ l.drop k) := by
  conv => lhs; rw [← List.take_append_drop k l]
  rw [← List.append_assoc]
  congr 1
  conv => lhs; rw [← List.take_append_drop i (l.take k)]
  rw [List.take_take, Nat.min_eq_left hik]
theorem part_law {l : List Cm} (hv : validB l = true) (i k : Nat) (hik : i ≤ k) :
    ((rprintL l).2 = 2 ∨ ((rprintL l).2 = 0 ∧ (rprintL ((l.take k).drop i)).2 = 0)) := by
  obtain ⟨hl, ha⟩ := valid_all hv
  have hpv : validB ((l.take k).drop i) = true := by
    unfold validB
    rw [List.all_eq_true.2 (all_take ha i k), decide_eq_true]
    · rfl
    · rw [List.length_drop, List.length_take]; omega
  rcases rprint_cases l with ⟨x1, x2⟩ | ⟨x1, x2, x3⟩ | ⟨x1, x2, x3, x4⟩
  · rw [hv] at x1; cases x1
  · exact .inl (by rw [x3])
  · refine .inr ⟨by rw [x4], ?_⟩
    have e := part_split l i k hik
    have h1 : (outL l).length = (outL (l.take i)).length + ((outL ((l.take k).drop i)).length + (outL (l.drop k)).length) := by
      conv => lhs; rw [e]
      rw [outL_append, outL_append, List.length_append, List.length_append]
    have h2 : tokL l = tokL (l.take i) + (tokL ((l.take k).drop i) + tokL (l.drop k)) := by
      conv => lhs; rw [e]
      rw [tokL_append, tokL_append]
    rcases rprint_cases ((l.take k).drop i) with ⟨y1, y2⟩ | ⟨y1, y2, y3⟩ | ⟨y1, y2, y3, y4⟩
    · rw [hpv] at y1; cases y1
    · omega
    · rw [y4]
theorem tok_one {x : Cm} (h : cmB x = true) : 3 ≤ tokL [x] ∧ tokL [x] ≤ 12 := by
  have e : tokL [x] = (lineI x.kind x.name.data.toList x.ns).length := by rw [line_tokens h]; rfl
  have ho := okC_of h
  rw [e]
  obtain ⟨k, nm, A, n, c, ns, p⟩ := x
  have hl := ho.len
  have hk := ho.kind
  dsimp only at hl hk ⊢
  rcases hk with rfl | rfl | rfl | rfl | rfl | rfl | rfl | rfl | rfl | rfl | rfl
  all_goals simp [lineI, wordsP, wds, itemsOf]
theorem one_law {x : Cm} (h : cmB x = true) : rprintL [x] = (outL [x], 0) ∧ ∃ ts, LEX (outL [x]) = ⟨ts, 0, 0⟩ ∧ 3 ≤ ts.length ∧ ts.length ≤ 12 := by
  have hall : ∀ y ∈ [x], cmB y = true := fun y hy => by rw [List.mem_singleton.1 hy]; exact h
  have hv : validB [x] = true := by unfold validB; rw [List.all_eq_true.2 hall]; rfl
  obtain ⟨t1, t2⟩ := tok_one h
  have hlen : (outL [x]).length ≤ 8000 := by have := outL_len [x] hall; simp only [List.length_cons, List.length_nil] at this; omega
  have hL := (lex_out hall).1 hlen (by omega)
  have ht : (tksAt 0 (itemsL [x])).length = tokL [x] := by rw [tksAt_len, items_tok _ hall]
  refine ⟨?_, _, hL, by rw [ht]; exact t1, by rw [ht]; exact t2⟩
  rcases rprint_cases [x] with ⟨y1, y2⟩ | ⟨y1, y2, y3⟩ | ⟨y1, y2, y3, y4⟩
  · rw [hv] at y1; cases y1
  · omega
  · exact y4
theorem size_cmd (w : World) : (sizeOf (Tryd.prog.elem 25)).run Tryd.prog w = .ok 4 w := by kernel_rfl
theorem elem_cmd : Tryd.prog.underlying 25 = some (.slice (Tryd.prog.elem 25)) := by kernel_rfl
def cutC (A : Option Addr) (c k : Nat) : Option Addr := if c = k then A else A.map (·.add (k * 4))
theorem cms_sl (A : Option Addr) (n c i k : Nat) (hik : i ≤ k) (hk : k ≤ c) (w : World) : (Instr.slice 25 (.slice A n c) (some (.int .i64 (i : Int))) (some (.int .i64 (k : Int))) none).run Tryd.prog w = .ok (.slice (cutC A c i) (k - i) (c - i)) w := by
  rw [run_slice_lh w 25 A n c elem_cmd .i64 .i64 _ _ (by omega) (by omega) (by omega), size_cmd]
  show Result.ok (sliced A (Int.toNat (i : Int)) (Int.toNat (k : Int)) c 4) w = _
  unfold sliced
  rw [Int.toNat_natCast, Int.toNat_natCast]
  rfl
theorem flat_takeC : ∀ (l : List Cm) (n : Nat), (l.flatMap decC).take (n * 4) = (l.take n).flatMap decC
  | [], n => by simp
  | a :: l, 0 => by simp
  | a :: l, n + 1 => by
    have hf : (decC a).length = 4 := rfl
    rw [List.flatMap_cons, List.take_succ_cons, List.flatMap_cons, Nat.add_mul, Nat.one_mul, List.take_append, hf]
    rw [List.take_of_length_le (by rw [hf]; omega), show n * 4 + 4 - 4 = n * 4 by omega, flat_takeC l n]
theorem flat_dropC : ∀ (l : List Cm) (n : Nat), (l.flatMap decC).drop (n * 4) = (l.drop n).flatMap decC
  | [], n => by simp
  | a :: l, 0 => by simp
  | a :: l, n + 1 => by
    have hf : (decC a).length = 4 := rfl
    rw [List.flatMap_cons, List.drop_succ_cons, Nat.add_mul, Nat.one_mul, List.drop_append, List.drop_of_length_le (by rw [hf]; omega), List.nil_append, hf, show n * 4 + 4 - 4 = n * 4 by omega, flat_dropC l n]
theorem cms_take {w : World} {A : Option Addr} {n c : Nat} {l : List Cm} (h : IsCms w A n c l) {k : Nat} (hk : k ≤ n) : IsCms w A k c (l.take k) := by
  obtain ⟨h1, h2, h3, h4, h5⟩ := h
  exact ⟨by rw [List.length_take]; omega, by rw [← flat_takeC]; exact h2.take hk, by omega, h4, fun x hx => h5 x (List.mem_of_mem_take hx)⟩
theorem cms_drop {w : World} {A : Option Addr} {n c : Nat} {l : List Cm} (h : IsCms w A n c l) {k : Nat} (hk : k ≤ n) : IsCms w (cutC A c k) (n - k) (c - k) (l.drop k) := by
  obtain ⟨h1, h2, h3, h4, h5⟩ := h
  exact ⟨by rw [List.length_drop]; omega, by rw [← flat_dropC]; exact h2.cut hk h3, by omega, by omega, fun x hx => h5 x (List.mem_of_mem_drop hx)⟩
end Go.Proofs.YtbgekgakamincaaDoor.Pr
