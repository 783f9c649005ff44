/- The reference's read in plain Lean: the best of all kinds. It is the parser's. -/
import Derived.Test.YtbgekgakamincaaDoorPsA
import Derived.Test.YtbgekgakamincaaDoorPsD
namespace Go.Proofs.YtbgekgakamincaaDoor.Ps
open Go.RowKit Go.Proofs.YtbgekgakamincaaDoor.Lx Go.Proofs.YtbgekgakamincaaDoor.Pr
set_option linter.unusedVariables false

/-- The kinds from k on, f of them. -/
def readN : Nat → Nat → Nat → List Tok → Option PC × Nat
  | 0, _, best, _ => (none, best)
  | f + 1, k, best, ts => if matchB ts (expL (k : Nat)) = (expL (k : Nat)).length then (some (builtB k ts), (expL (k : Nat)).length) else readN f (k + 1) (max best (matchB ts (expL (k : Nat)))) ts
theorem readN_miss (ts : List Tok) (m : Nat) : ∀ (f k best : Nat), (∀ j, k ≤ j → j < k + f → matchB ts (expL (j : Nat)) ≤ m ∧ matchB ts (expL (j : Nat)) < (expL (j : Nat)).length) → best ≤ m → (best = m ∨ ∃ j, k ≤ j ∧ j < k + f ∧ matchB ts (expL (j : Nat)) = m) → readN f k best ts = (none, m)
  | 0, k, best, _, hb, he => by
    rcases he with rfl | ⟨j, h1, h2, _⟩
    · rfl
    · omega
  | f + 1, k, best, h, hb, he => by
    have h0 := h k (Nat.le_refl _) (by omega)
    simp only [readN]
    rw [if_neg (by omega)]
    refine readN_miss ts m f (k + 1) _ (fun j h1 h2 => h j (by omega) (by omega)) (by omega) ?_
    rcases he with rfl | ⟨j, h1, h2, h3⟩
    · left; omega
    · by_cases hj : j = k
      · subst hj; left; omega
      · exact .inr ⟨j, by omega, by omega, h3⟩
theorem readN_hit (ts : List Tok) (K : Nat) : ∀ (f k best : Nat), k ≤ K → K < k + f → (∀ j, k ≤ j → j < k + f → j ≠ K → matchB ts (expL (j : Nat)) ≤ matchB ts (expL (K : Nat)) ∧ matchB ts (expL (j : Nat)) < (expL (j : Nat)).length) → best ≤ matchB ts (expL (K : Nat)) →
    readN f k best ts = if matchB ts (expL (K : Nat)) = (expL (K : Nat)).length then (some (builtB K ts), (expL (K : Nat)).length) else (none, matchB ts (expL (K : Nat)))
  | 0, k, best, h1, h2, _, _ => by omega
  | f + 1, k, best, h1, h2, h, hb => by
    simp only [readN]
    by_cases hk : k = K
    · subst hk
      by_cases hm : matchB ts (expL (k : Nat)) = (expL (k : Nat)).length
      · rw [if_pos hm, if_pos hm]
      · rw [if_neg hm, if_neg hm]
        have hle := matchB_le ts (expL (k : Nat))
        exact readN_miss ts _ f (k + 1) _ (fun j h3 h4 => h j (by omega) (by omega) (by omega)) (by omega) (.inl (by omega))
    · have h0 := h k (Nat.le_refl _) (by omega) hk
      rw [if_neg (by omega)]
      exact readN_hit ts K f (k + 1) _ (by omega) (by omega) (fun j h3 h4 h5 => h j (by omega) (by omega) h5) (by omega)
theorem ft_lit (t : Tok) {p : List UInt8} (h1 : p ≠ [35]) (h2 : p ≠ [110]) (h3 : p ≠ [100]) : fitsB t p = (decide (t.kind ≠ 2) && t.text.data.toList == p) := by
  unfold fitsB; rw [if_neg h1, if_neg h2, if_neg h3]
theorem ft_num (t : Tok) : fitsB t [35] = decide (t.kind = 2) := by unfold fitsB; rw [if_pos rfl]
theorem mt_lit {t : Tok} (hw : WfP t) (r : List Tok) {p : List UInt8} (ps : List (List UInt8)) (h0 : p ≠ []) (h1 : p ≠ [35]) (h2 : p ≠ [110]) (h3 : p ≠ [100]) : matchB (t :: r) (p :: ps) = if t.text.data.toList = p then 1 + matchB r ps else 0 := by
  simp only [matchB]
  rw [ft_lit t h1 h2 h3]
  by_cases hp : t.text.data.toList = p
  · have hk : t.kind ≠ 2 := fun q => h0 (hp ▸ hw.1.w2 q)
    rw [if_pos hp, decide_eq_true hk, beq_iff_eq.2 hp]; rfl
  · rw [if_neg hp, beq_eq_false_iff_ne.2 hp, Bool.and_false]; rfl
theorem mt_num (t : Tok) (r : List Tok) (ps : List (List UInt8)) : matchB (t :: r) ([35] :: ps) = if t.kind = 2 then 1 + matchB r ps else 0 := by
  simp only [matchB]
  rw [ft_num]
  by_cases h : t.kind = 2 <;> simp [h]
theorem kinds11 {j : Nat} (h1 : 1 ≤ j) (h2 : j < 12) : j = 1 ∨ j = 2 ∨ j = 3 ∨ j = 4 ∨ j = 5 ∨ j = 6 ∨ j = 7 ∨ j = 8 ∨ j = 9 ∨ j = 10 ∨ j = 11 := by omega
/-- A kind's form by its first word. -/
theorem first_ne {t : Tok} (hw : WfP t) (r : List Tok) {j : Nat} (h1 : 1 ≤ j) (h2 : j < 12)
    (hne : ∀ p ps, expL (j : Nat) = p :: ps → t.text.data.toList ≠ p) : matchB (t :: r) (expL (j : Nat)) = 0 ∧ 0 < (expL (j : Nat)).length := by
  obtain ⟨p, ps, hp, q0, q1, q2, q3⟩ : ∃ p ps, expL (j : Nat) = p :: ps ∧ p ≠ [] ∧ p ≠ [35] ∧ p ≠ [110] ∧ p ≠ [100] := by
    rcases kinds11 h1 h2 with rfl | rfl | rfl | rfl | rfl | rfl | rfl | rfl | rfl | rfl | rfl
    · exact ⟨_, _, expL_1, by decide, by decide, by decide, by decide⟩
    · exact ⟨_, _, expL_2, by decide, by decide, by decide, by decide⟩
    · exact ⟨_, _, expL_3, by decide, by decide, by decide, by decide⟩
    · exact ⟨_, _, expL_4, by decide, by decide, by decide, by decide⟩
    · exact ⟨_, _, expL_5, by decide, by decide, by decide, by decide⟩
    · exact ⟨_, _, expL_6, by decide, by decide, by decide, by decide⟩
    · exact ⟨_, _, expL_7, by decide, by decide, by decide, by decide⟩
    · exact ⟨_, _, expL_8, by decide, by decide, by decide, by decide⟩
    · exact ⟨_, _, expL_9, by decide, by decide, by decide, by decide⟩
    · exact ⟨_, _, expL_10, by decide, by decide, by decide, by decide⟩
    · exact ⟨_, _, expL_11, by decide, by decide, by decide, by decide⟩
  rw [hp, mt_lit hw r ps q0 q1 q2 q3, if_neg (hne p ps hp)]
  exact ⟨rfl, by simp⟩
/-- The word at which a kind's form begins. -/
def headW (j : Nat) : List UInt8 := (expL (j : Nat)).headD []
theorem head_eq {j : Nat} {p : List UInt8} {ps : List (List UInt8)} (h : expL (j : Nat) = p :: ps) : p = headW j := by unfold headW; rw [h]; rfl
/-- The words of the events. -/
def evW (j : Nat) : List UInt8 := ((expL (j : Nat)).drop 2).headD []
theorem ev_form {j : Nat} (h1 : 4 ≤ j) (h2 : j ≤ 10) : ∃ ps, expL (j : Nat) = bAt :: [35] :: evW j :: ps ∧ evW j ≠ [] ∧ evW j ≠ [35] ∧ evW j ≠ [110] ∧ evW j ≠ [100] ∧ lookB evTab (evW j) = some j := by
  have hj : j = 4 ∨ j = 5 ∨ j = 6 ∨ j = 7 ∨ j = 8 ∨ j = 9 ∨ j = 10 := by omega
  unfold evW
  rcases hj with rfl | rfl | rfl | rfl | rfl | rfl | rfl
  · rw [show ((4 : Nat) : Int) = 4 from rfl, expL_4]; exact ⟨_, rfl, by decide, by decide, by decide, by decide, by decide⟩
  · rw [show ((5 : Nat) : Int) = 5 from rfl, expL_5]; exact ⟨_, rfl, by decide, by decide, by decide, by decide, by decide⟩
  · rw [show ((6 : Nat) : Int) = 6 from rfl, expL_6]; exact ⟨_, rfl, by decide, by decide, by decide, by decide, by decide⟩
  · rw [show ((7 : Nat) : Int) = 7 from rfl, expL_7]; exact ⟨_, rfl, by decide, by decide, by decide, by decide, by decide⟩
  · rw [show ((8 : Nat) : Int) = 8 from rfl, expL_8]; exact ⟨_, rfl, by decide, by decide, by decide, by decide, by decide⟩
  · rw [show ((9 : Nat) : Int) = 9 from rfl, expL_9]; exact ⟨_, rfl, by decide, by decide, by decide, by decide, by decide⟩
  · rw [show ((10 : Nat) : Int) = 10 from rfl, expL_10]; exact ⟨_, rfl, by decide, by decide, by decide, by decide, by decide⟩
theorem look_ev {w : List UInt8} {k : Nat} (h : lookB evTab w = some k) : 4 ≤ k ∧ k ≤ 10 ∧ w = evW k := by
  unfold lookB at h
  obtain ⟨x, hx, rfl⟩ := Option.map_eq_some_iff.1 h
  have h1 := List.mem_of_find?_eq_some hx
  have h2 := List.find?_some hx
  have h2 : x.1 = w := by simpa using h2
  have hev := fun j h1 h2 => (ev_form (j := j) h1 h2)
  unfold evTab at h1
  simp only [List.mem_cons, List.not_mem_nil, or_false] at h1
  unfold evW
  rcases h1 with rfl | rfl | rfl | rfl | rfl | rfl | rfl <;> rw [← h2] <;> refine ⟨by decide, by decide, ?_⟩
  · rw [show ((4 : Nat) : Int) = 4 from rfl, expL_4]; rfl
  · rw [show ((5 : Nat) : Int) = 5 from rfl, expL_5]; rfl
  · rw [show ((6 : Nat) : Int) = 6 from rfl, expL_6]; rfl
  · rw [show ((7 : Nat) : Int) = 7 from rfl, expL_7]; rfl
  · rw [show ((8 : Nat) : Int) = 8 from rfl, expL_8]; rfl
  · rw [show ((9 : Nat) : Int) = 9 from rfl, expL_9]; rfl
  · rw [show ((10 : Nat) : Int) = 10 from rfl, expL_10]; rfl
theorem head_tab {j : Nat} (h1 : 1 ≤ j) (h2 : j < 12) : (4 ≤ j ∧ j ≤ 10 ∧ headW j = bAt) ∨ (lookB cmdTab (headW j) = some j ∧ headW j ≠ bAt) := by
  unfold headW
  rcases kinds11 h1 h2 with rfl | rfl | rfl | rfl | rfl | rfl | rfl | rfl | rfl | rfl | rfl
  · rw [show ((1 : Nat) : Int) = 1 from rfl, expL_1]; exact .inr ⟨by decide, by decide⟩
  · rw [show ((2 : Nat) : Int) = 2 from rfl, expL_2]; exact .inr ⟨by decide, by decide⟩
  · rw [show ((3 : Nat) : Int) = 3 from rfl, expL_3]; exact .inr ⟨by decide, by decide⟩
  · rw [show ((4 : Nat) : Int) = 4 from rfl, expL_4]; exact .inl ⟨by decide, by decide, rfl⟩
  · rw [show ((5 : Nat) : Int) = 5 from rfl, expL_5]; exact .inl ⟨by decide, by decide, rfl⟩
  · rw [show ((6 : Nat) : Int) = 6 from rfl, expL_6]; exact .inl ⟨by decide, by decide, rfl⟩
  · rw [show ((7 : Nat) : Int) = 7 from rfl, expL_7]; exact .inl ⟨by decide, by decide, rfl⟩
  · rw [show ((8 : Nat) : Int) = 8 from rfl, expL_8]; exact .inl ⟨by decide, by decide, rfl⟩
  · rw [show ((9 : Nat) : Int) = 9 from rfl, expL_9]; exact .inl ⟨by decide, by decide, rfl⟩
  · rw [show ((10 : Nat) : Int) = 10 from rfl, expL_10]; exact .inl ⟨by decide, by decide, rfl⟩
  · rw [show ((11 : Nat) : Int) = 11 from rfl, expL_11]; exact .inr ⟨by decide, by decide⟩
theorem look_cmd {w : List UInt8} {k : Nat} (h : lookB cmdTab w = some k) : 1 ≤ k ∧ k < 12 := by
  unfold lookB at h
  obtain ⟨x, hx, rfl⟩ := Option.map_eq_some_iff.1 h
  have h1 := List.mem_of_find?_eq_some hx
  unfold cmdTab at h1
  simp only [List.mem_cons, List.not_mem_nil, or_false] at h1
  rcases h1 with rfl | rfl | rfl | rfl <;> decide
theorem exp_pos {j : Nat} (h1 : 1 ≤ j) (h2 : j < 12) : 3 ≤ (expL (j : Nat)).length := by
  rcases kinds11 h1 h2 with rfl | rfl | rfl | rfl | rfl | rfl | rfl | rfl | rfl | rfl | rfl
  · rw [show ((1 : Nat) : Int) = 1 from rfl, expL_1]; decide
  · rw [show ((2 : Nat) : Int) = 2 from rfl, expL_2]; decide
  · rw [show ((3 : Nat) : Int) = 3 from rfl, expL_3]; decide
  · rw [show ((4 : Nat) : Int) = 4 from rfl, expL_4]; decide
  · rw [show ((5 : Nat) : Int) = 5 from rfl, expL_5]; decide
  · rw [show ((6 : Nat) : Int) = 6 from rfl, expL_6]; decide
  · rw [show ((7 : Nat) : Int) = 7 from rfl, expL_7]; decide
  · rw [show ((8 : Nat) : Int) = 8 from rfl, expL_8]; decide
  · rw [show ((9 : Nat) : Int) = 9 from rfl, expL_9]; decide
  · rw [show ((10 : Nat) : Int) = 10 from rfl, expL_10]; decide
  · rw [show ((11 : Nat) : Int) = 11 from rfl, expL_11]; decide
/-- The kinds of events over a text that begins with 'at'. -/
theorem at_one {t : Tok} (hw : WfP t) (hat : t.text.data.toList = bAt) (r : List Tok) {j : Nat} (h1 : 4 ≤ j) (h2 : j ≤ 10) :
    (∀ t1 r1, r = t1 :: r1 → t1.kind = 2 → ∃ ps, evW j ≠ [] ∧ matchB (t :: r) (expL (j : Nat)) = 2 + matchB r1 (evW j :: ps)) ∧ ((∀ t1 r1, r = t1 :: r1 → t1.kind ≠ 2) → matchB (t :: r) (expL (j : Nat)) = 1) := by
  obtain ⟨ps, he, h0, _⟩ := ev_form h1 h2
  rw [he, mt_lit hw r _ (by decide) (by decide) (by decide) (by decide), if_pos hat]
  refine ⟨fun t1 r1 hr hk => ⟨ps, h0, ?_⟩, fun h => ?_⟩
  · rw [hr, mt_num, if_pos hk]; omega
  · cases r with
    | nil => rfl
    | cons t1 r1 => rw [mt_num, if_neg (h t1 r1 rfl)]
theorem at_other {t : Tok} (hw : WfP t) (hat : t.text.data.toList = bAt) (r : List Tok) {j : Nat} (h1 : 1 ≤ j) (h2 : j < 12) (h3 : ¬ (4 ≤ j ∧ j ≤ 10)) : matchB (t :: r) (expL (j : Nat)) = 0 := by
  refine (first_ne hw r h1 h2 (fun p ps hp q => ?_)).1
  rcases head_tab h1 h2 with ⟨a, b, _⟩ | ⟨_, b⟩
  · exact h3 ⟨a, b⟩
  · exact b (by rw [← head_eq hp, ← q, hat])
theorem rd_of_ok {ts : List Tok} {k : Nat} (h : selB ts = .ok k) : rdB ts = if matchB ts (expL (k : Nat)) = (expL (k : Nat)).length then (some (builtB k ts), (expL (k : Nat)).length) else (none, matchB ts (expL (k : Nat))) := by
  unfold rdB; rw [h]
theorem rd_of_err {ts : List Tok} {n : Nat} (h : selB ts = .error n) : rdB ts = (none, n) := by unfold rdB; rw [h]
/-- The best of all kinds is what the parser finds. -/
theorem read_eq {t : Tok} {r : List Tok} (hw : ∀ u ∈ t :: r, WfP u) : readN 11 1 0 (t :: r) = rdB (t :: r) := by
  have ht := hw t (List.mem_cons_self ..)
  by_cases hat : t.text.data.toList = bAt
  · have hat' : txtB (t :: r).head? = bAt := hat
    by_cases hn : (r[0]?.map (·.kind)) = some 2
    · cases r with
      | nil => cases hn
      | cons t1 r1 =>
        have hk : t1.kind = 2 := by simpa using hn
        have hsel : selB (t :: t1 :: r1) = match lookB evTab (txtB r1.head?) with | some k => .ok k | none => .error 2 := by
          unfold selB
          rw [if_pos hat', if_pos (by simpa using hn)]
          have : (t :: t1 :: r1)[2]? = r1.head? := by simp [List.head?_eq_getElem?]
          rw [this]
          rfl
        have hone := fun j h1 h2 => (at_one (j := j) ht hat (t1 :: r1) h1 h2).1 t1 r1 rfl hk
        cases hl : lookB evTab (txtB r1.head?) with
        | none =>
          rw [hl] at hsel
          rw [rd_of_err hsel]
          have hev : ∀ j, 4 ≤ j → j ≤ 10 → matchB (t :: t1 :: r1) (expL (j : Nat)) = 2 := by
            intro j h1 h2
            obtain ⟨ps, h0, hm⟩ := hone j h1 h2
            obtain ⟨_, _, _, q1, q2, q3, q4⟩ := ev_form h1 h2
            rw [hm]
            cases r1 with
            | nil => rfl
            | cons t2 r2 =>
              rw [mt_lit (hw t2 (by simp)) r2 ps h0 q1 q2 q3, if_neg]
              intro q
              have : lookB evTab (txtB (t2 :: r2).head?) = some j := by show lookB evTab t2.text.data.toList = _; rw [q, q4]
              rw [hl] at this; cases this
          refine readN_miss _ 2 11 1 0 (fun j h1 h2 => ?_) (by omega) (.inr ⟨4, by omega, by omega, hev 4 (by omega) (by omega)⟩)
          have hp := exp_pos h1 h2
          by_cases hj : 4 ≤ j ∧ j ≤ 10
          · rw [hev j hj.1 hj.2]; omega
          · rw [at_other ht hat _ h1 h2 hj]; omega
        | some k =>
          rw [hl] at hsel
          rw [rd_of_ok hsel]
          obtain ⟨k1, k2, k3⟩ := look_ev hl
          obtain ⟨psk, hk0, hmk⟩ := hone k k1 k2
          have hev : ∀ j, 4 ≤ j → j ≤ 10 → j ≠ k → matchB (t :: t1 :: r1) (expL (j : Nat)) = 2 := by
            intro j h1 h2 hne
            obtain ⟨ps, h0, hm⟩ := hone j h1 h2
            obtain ⟨_, _, _, q1, q2, q3, q4⟩ := ev_form h1 h2
            rw [hm]
            cases r1 with
            | nil => rfl
            | cons t2 r2 =>
              rw [mt_lit (hw t2 (by simp)) r2 ps h0 q1 q2 q3, if_neg]
              intro q
              have : lookB evTab (txtB (t2 :: r2).head?) = some j := by show lookB evTab t2.text.data.toList = _; rw [q, q4]
              rw [hl] at this
              injection this with this
              exact hne this.symm
          refine readN_hit _ k 11 1 0 (by omega) (by omega) (fun j h1 h2 h3 => ?_) (by omega)
          have hp := exp_pos h1 h2
          by_cases hj : 4 ≤ j ∧ j ≤ 10
          · rw [hev j hj.1 hj.2 h3, hmk]; omega
          · rw [at_other ht hat _ h1 h2 hj]; omega
    · have hsel : selB (t :: r) = .error 1 := by
        unfold selB
        rw [if_pos hat', if_neg (by simpa using hn)]
      have hev : ∀ j, 4 ≤ j → j ≤ 10 → matchB (t :: r) (expL (j : Nat)) = 1 := fun j h1 h2 => (at_one ht hat r h1 h2).2 (fun t1 r1 hr hk => hn (by rw [hr]; simp [hk]))
      rw [rd_of_err hsel]
      refine readN_miss _ 1 11 1 0 (fun j h1 h2 => ?_) (by omega) (.inr ⟨4, by omega, by omega, hev 4 (by omega) (by omega)⟩)
      have hp := exp_pos h1 h2
      by_cases hj : 4 ≤ j ∧ j ≤ 10
      · rw [hev j hj.1 hj.2]; omega
      · rw [at_other ht hat _ h1 h2 hj]; omega
  · have hat' : ¬ txtB (t :: r).head? = bAt := hat
    have hsel : selB (t :: r) = match lookB cmdTab t.text.data.toList with | some k => .ok k | none => .error 0 := by
      unfold selB
      rw [if_neg hat']; rfl
    have hz : ∀ j, 1 ≤ j → j < 12 → lookB cmdTab t.text.data.toList ≠ some j → matchB (t :: r) (expL (j : Nat)) = 0 := by
      intro j h1 h2 hne
      refine (first_ne ht r h1 h2 (fun p ps hp q => ?_)).1
      rcases head_tab h1 h2 with ⟨_, _, c⟩ | ⟨a, _⟩
      · exact hat (by rw [q, head_eq hp, c])
      · exact hne (by rw [q, head_eq hp, a])
    cases hl : lookB cmdTab t.text.data.toList with
    | none =>
      rw [hl] at hsel hz
      rw [rd_of_err hsel]
      refine readN_miss _ 0 11 1 0 (fun j h1 h2 => ?_) (by omega) (.inl rfl)
      have hp := exp_pos h1 h2
      rw [hz j h1 h2 (by simp)]; omega
    | some k =>
      rw [hl] at hsel hz
      rw [rd_of_ok hsel]
      obtain ⟨k1, k2⟩ := look_cmd hl
      refine readN_hit _ k 11 1 0 (by omega) (by omega) (fun j h1 h2 h3 => ?_) (by omega)
      have hp := exp_pos h1 h2
      rw [hz j h1 h2 (by simpa using Ne.symm h3)]; omega
end Go.Proofs.YtbgekgakamincaaDoor.Ps
