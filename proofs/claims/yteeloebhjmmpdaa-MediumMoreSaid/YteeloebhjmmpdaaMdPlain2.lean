/- The plain laws of the medium: one sender, one more, channels, jammers, order. -/
import Derived.Test.YteeloebhjmmpdaaMdPlain
namespace Go.Proofs.Yteeloebhjmmpdaa.Md
open Go.Proofs.Yteeloebhjmmpdaa.Pl
set_option linter.unusedVariables false

section
variable {ra : List Ac} {ps : List Pt} {r : Int} {js : List Jm} {asn : Int} {i : Nat}
theorem cat_off (h : (ra.getD i z0).act ≠ 1) : cat ra ps r js asn i = -1 := by unfold cat; rw [if_neg h]
theorem cat_jam (h : (ra.getD i z0).act = 1) (hj : jammed js (ps.getD i p0) (ra.getD i z0).ch asn = true) : cat ra ps r js asn i = -2 := by unfold cat; rw [if_pos h, if_pos hj]
theorem cat_pick (h : (ra.getD i z0).act = 1) (hj : jammed js (ps.getD i p0) (ra.getD i z0).ch asn = false) : cat ra ps r js asn i = pick ra i (Hm ra ps r i ra.length) := by
  unfold cat; rw [if_pos h, hj]; rfl
theorem cat_none (h : (ra.getD i z0).act = 1) (hj : jammed js (ps.getD i p0) (ra.getD i z0).ch asn = false) (hn : ∀ k, k < ra.length → hk ra ps r i k = false) : cat ra ps r js asn i = -1 := by
  rw [cat_pick h hj]
  exact pick_none fun k hkm => by
    obtain ⟨h1, h2⟩ := mem_Hm.1 hkm
    rw [hn k h1] at h2; cases h2
theorem cat_one (h : (ra.getD i z0).act = 1) (hj : jammed js (ps.getD i p0) (ra.getD i z0).ch asn = false) {k : Nat} (hk1 : k < ra.length) (hk2 : hk ra ps r i k = true) (hu : ∀ j, j < ra.length → hk ra ps r i j = true → j = k) :
    cat ra ps r js asn i = if opn (ra.getD k z0) (ra.getD i z0) then (k : Int) else -1 := by
  rw [cat_pick h hj]
  exact pick_one (nodup_Hm _ _ _ _ _) fun j => ⟨fun hm => hu j (mem_Hm.1 hm).1 (mem_Hm.1 hm).2, fun e => by subst e; exact mem_Hm.2 ⟨hk1, hk2⟩⟩
theorem cat_many (h : (ra.getD i z0).act = 1) (hj : jammed js (ps.getD i p0) (ra.getD i z0).ch asn = false) {j k : Nat} (hj1 : j < ra.length) (hj2 : hk ra ps r i j = true) (hk1 : k < ra.length) (hk2 : hk ra ps r i k = true) (hne : j ≠ k) : cat ra ps r js asn i = -2 := by
  rw [cat_pick h hj]
  exact pick_many (mem_Hm.2 ⟨hj1, hj2⟩) (mem_Hm.2 ⟨hk1, hk2⟩) hne
theorem cat_cases (ra : List Ac) (ps : List Pt) (r : Int) (js : List Jm) (asn : Int) (i : Nat) :
    ((ra.getD i z0).act ≠ 1 ∧ cat ra ps r js asn i = -1) ∨ ((ra.getD i z0).act = 1 ∧ jammed js (ps.getD i p0) (ra.getD i z0).ch asn = true ∧ cat ra ps r js asn i = -2) ∨
    ((ra.getD i z0).act = 1 ∧ jammed js (ps.getD i p0) (ra.getD i z0).ch asn = false ∧
      (((∀ k, k < ra.length → hk ra ps r i k = false) ∧ cat ra ps r js asn i = -1) ∨
       (∃ k, k < ra.length ∧ hk ra ps r i k = true ∧ (∀ j, j < ra.length → hk ra ps r i j = true → j = k) ∧ cat ra ps r js asn i = if opn (ra.getD k z0) (ra.getD i z0) then (k : Int) else -1) ∨
       (∃ j k, j < ra.length ∧ hk ra ps r i j = true ∧ k < ra.length ∧ hk ra ps r i k = true ∧ j ≠ k ∧ cat ra ps r js asn i = -2))) := by
  by_cases h : (ra.getD i z0).act = 1
  · cases hj : jammed js (ps.getD i p0) (ra.getD i z0).ch asn
    · refine .inr (.inr ⟨h, rfl, ?_⟩)
      rcases pick_cases ra i (Hm ra ps r i ra.length) (nodup_Hm _ _ _ _ _) with ⟨h1, h2⟩ | ⟨k, h1, h2⟩ | ⟨j, k, h1, h2, h3, h4⟩
      · refine .inl ⟨fun k hk1 => ?_, by rw [cat_pick h hj, h2]⟩
        cases e : hk ra ps r i k
        · rfl
        · exact absurd (mem_Hm.2 ⟨hk1, e⟩) (h1 k)
      · obtain ⟨a1, a2⟩ := mem_Hm.1 ((h1 k).2 rfl)
        exact .inr (.inl ⟨k, a1, a2, fun j b1 b2 => (h1 j).1 (mem_Hm.2 ⟨b1, b2⟩), by rw [cat_pick h hj, h2]⟩)
      · exact .inr (.inr ⟨j, k, (mem_Hm.1 h1).1, (mem_Hm.1 h1).2, (mem_Hm.1 h2).1, (mem_Hm.1 h2).2, h3, by rw [cat_pick h hj, h4]⟩)
    · exact .inr (.inl ⟨h, rfl, cat_jam h hj⟩)
  · exact .inl ⟨h, cat_off h⟩
end

theorem all_congr {n : Nat} {f g : Nat → Bool} (h : ∀ i, i < n → f i = g i) : (List.range n).all f = (List.range n).all g := by
  rw [Bool.eq_iff_iff, List.all_eq_true, List.all_eq_true]
  exact ⟨fun a x hx => by rw [← h x (List.mem_range.1 hx)]; exact a x hx, fun a x hx => by rw [h x (List.mem_range.1 hx)]; exact a x hx⟩
theorem okm_of {ra rb : List Ac} {ps : List Pt} {r asn : Int} (hl : rb.length = ra.length) (h : ∀ i, i < ra.length → okA (ra.getD i z0) = true → okA (rb.getD i z0) = true) (hok : okm ra ps r asn = true) : okm rb ps r asn = true := by
  unfold okm at hok ⊢
  rw [hl]
  simp only [Bool.and_eq_true] at hok ⊢
  refine ⟨hok.1, ?_⟩
  rw [List.all_eq_true]
  intro i hi
  have h1 := List.all_eq_true.1 hok.2 i hi
  unfold okR at h1 ⊢
  simp only [Bool.and_eq_true] at h1 ⊢
  exact ⟨h i (List.mem_range.1 hi) h1.1, h1.2⟩

/- One sender. -/
def al1 (k i : Nat) (a : Ac) : Ac := if a.act = 2 ∧ i ≠ k then { a with act := 1 } else a
/-- The first m have been changed. -/
def alm (ra : List Ac) (k m : Nat) : List Ac := ra.mapIdx fun i a => if i < m then al1 k i a else a
theorem alm_len (ra : List Ac) (k m : Nat) : (alm ra k m).length = ra.length := by simp [alm]
theorem alm_zero (ra : List Ac) (k : Nat) : alm ra k 0 = ra := by
  unfold alm
  apply List.ext_getElem <;> simp
theorem alm_get (ra : List Ac) (k m i : Nat) (hi : i < ra.length) : (alm ra k m).getD i z0 = if i < m then al1 k i (ra.getD i z0) else ra.getD i z0 := by
  unfold alm
  rw [List.getD_eq_getElem?_getD, List.getD_eq_getElem?_getD, List.getElem?_mapIdx, List.getElem?_eq_getElem hi]
  rfl
theorem al1_okA {k i : Nat} {a : Ac} (h : okA a = true) : okA (al1 k i a) = true := by
  unfold al1
  split
  · rename_i h1
    unfold okA at h ⊢
    simp only [Bool.or_eq_true, decide_eq_true_eq, Bool.and_eq_true] at h ⊢
    rcases h with h | ⟨h, h2⟩
    · omega
    · exact .inr ⟨.inl trivial, h2⟩
  · exact h
theorem alm_ok {ra : List Ac} {ps : List Pt} {r asn : Int} (k : Nat) (h : okm ra ps r asn = true) : okm (alm ra k ra.length) ps r asn = true :=
  okm_of (alm_len _ _ _) (fun i hi ho => by rw [alm_get _ _ _ _ hi, if_pos hi]; exact al1_okA ho) h
/-- What the law says of a listener a at q, of the sender s at p. -/
def wantB (s a : Ac) (q p : Pt) (r : Int) : Bool := decide (s.act = 2) && (decide (a.act = 1) && (decide (a.ch = s.ch) && (near q p r && (decide (a.lo ≤ s.st) && decide (s.st ≤ a.hi)))))
theorem alone_cat {ra : List Ac} {ps : List Pt} {r asn : Int} {k i : Nat} (hk1 : k < ra.length) (hi : i < ra.length) :
    cat (alm ra k ra.length) ps r [] asn i = if wantB ((alm ra k ra.length).getD k z0) ((alm ra k ra.length).getD i z0) (ps.getD i p0) (ps.getD k p0) r then (k : Int) else -1 := by
  have hlen := alm_len ra k ra.length
  have hsend : ∀ j, j < ra.length → ((alm ra k ra.length).getD j z0).act = 2 → j = k := fun j hj ha => by
    rw [alm_get _ _ _ _ hj, if_pos hj] at ha
    unfold al1 at ha
    by_cases hc : (ra.getD j z0).act = 2 ∧ j ≠ k
    · rw [if_pos hc] at ha; cases ha
    · rw [if_neg hc] at ha
      by_cases e : j = k
      · exact e
      · exact absurd ⟨ha, e⟩ hc
  generalize alm ra k ra.length = rb at *
  have hw : ∀ (l : Ac), wantB (rb.getD k z0) (rb.getD i z0) (ps.getD i p0) (ps.getD k p0) r = ((decide ((rb.getD i z0).act = 1) && hk rb ps r i k) && opn (rb.getD k z0) (rb.getD i z0)) := fun _ => by
    unfold wantB hk hrs opn
    rw [near_symm (ps.getD i p0) (ps.getD k p0) r, show decide ((rb.getD i z0).ch = (rb.getD k z0).ch) = decide ((rb.getD k z0).ch = (rb.getD i z0).ch) by simp [eq_comm]]
    cases decide ((rb.getD k z0).act = 2) <;> cases decide ((rb.getD i z0).act = 1) <;> cases decide ((rb.getD k z0).ch = (rb.getD i z0).ch) <;> cases near (ps.getD k p0) (ps.getD i p0) r <;> simp
  rw [hw z0]
  have hj : ∀ p ch, jammed [] p ch asn = false := fun _ _ => rfl
  by_cases h1 : (rb.getD i z0).act = 1
  · cases h2 : hk rb ps r i k
    · rw [cat_none h1 (hj _ _) fun j hjl => ?_]
      · simp
      · cases h3 : hk rb ps r i j
        · rfl
        · have : (rb.getD j z0).act = 2 := by unfold hk hrs at h3; simp only [Bool.and_eq_true, decide_eq_true_eq] at h3; exact h3.1
          rw [hsend j (by omega) this, h2] at h3; cases h3
    · rw [cat_one h1 (hj _ _) (k := k) (by omega) h2 fun j hjl h3 => hsend j (by omega) (by unfold hk hrs at h3; simp only [Bool.and_eq_true, decide_eq_true_eq] at h3; exact h3.1)]
      rw [decide_eq_true h1, Bool.true_and, Bool.true_and]
  · rw [cat_off h1, decide_eq_false h1, Bool.false_and, Bool.false_and]; rfl

/- One more. -/
theorem getD_app {α : Type} (l : List α) (a d : α) {i : Nat} (hi : i < l.length) : (l ++ [a]).getD i d = l.getD i d := by
  rw [List.getD_eq_getElem?_getD, List.getD_eq_getElem?_getD, List.getElem?_append_left hi]
theorem getD_app_last {α : Type} (l : List α) (a d : α) {n : Nat} (hn : l.length = n) : (l ++ [a]).getD n d = a := by
  rw [List.getD_eq_getElem?_getD, ← hn, List.getElem?_append_right (Nat.le_refl _)]; simp
section
variable {ra : List Ac} {ps : List Pt} {r : Int} {js : List Jm} {asn : Int} {a : Ac} {p : Pt} {n : Nat}
theorem hk_app (hl : ra.length = n) (hm : ps.length = n) {i k : Nat} (hi : i < n) (hkn : k < n) : hk (ra ++ [a]) (ps ++ [p]) r i k = hk ra ps r i k := by
  unfold hk
  rw [getD_app _ _ _ (by omega), getD_app _ _ _ (by omega), getD_app _ _ _ (by omega), getD_app _ _ _ (by omega)]
theorem more_last (hl : ra.length = n) (ha : a.act = 2) : cat (ra ++ [a]) (ps ++ [p]) r js asn n = -1 :=
  cat_off (by rw [getD_app_last _ _ _ hl, ha]; decide)
theorem more_not (hl : ra.length = n) (hm : ps.length = n) {i : Nat} (hi : i < n) (h : hkd (ra ++ [a]) (ps ++ [p]) r i n = false) : cat (ra ++ [a]) (ps ++ [p]) r js asn i = cat ra ps r js asn i := by
  have e1 : (ra ++ [a]).getD i z0 = ra.getD i z0 := getD_app _ _ _ (by omega)
  have e2 : (ps ++ [p]).getD i p0 = ps.getD i p0 := getD_app _ _ _ (by omega)
  rcases cat_cases ra ps r js asn i with ⟨h1, h2⟩ | ⟨h1, h2, h3⟩ | ⟨h1, h2, h3⟩
  · rw [h2, cat_off (by rw [e1]; exact h1)]
  · rw [h3, cat_jam (by rw [e1]; exact h1) (by rw [e1, e2]; exact h2)]
  · have g1 : ((ra ++ [a]).getD i z0).act = 1 := by rw [e1]; exact h1
    have g2 : jammed js ((ps ++ [p]).getD i p0) ((ra ++ [a]).getD i z0).ch asn = false := by rw [e1, e2]; exact h2
    have hn : hk (ra ++ [a]) (ps ++ [p]) r i n = false := by rw [← h]; exact (hrd_of g1 _ _ _).symm
    have hlen : (ra ++ [a]).length = n + 1 := by simp [hl]
    rcases h3 with ⟨h4, h5⟩ | ⟨k, h4, h5, h6, h7⟩ | ⟨j, k, h4, h5, h6, h7, h8, h9⟩
    · rw [h5, cat_none g1 g2 fun k hkl => ?_]
      by_cases e : k = n
      · subst e; exact hn
      · rw [hk_app hl hm hi (by omega)]; exact h4 k (by omega)
    · rw [h7, cat_one g1 g2 (k := k) (by omega) (by rw [hk_app hl hm hi (by omega)]; exact h5) fun j hjl hj => ?_, e1, getD_app _ _ _ (by omega)]
      by_cases e : j = n
      · subst e; rw [hn] at hj; cases hj
      · rw [hk_app hl hm hi (by omega)] at hj; exact h6 j (by omega) hj
    · rw [h9, cat_many g1 g2 (j := j) (k := k) (by omega) (by rw [hk_app hl hm hi (by omega)]; exact h5) (by omega) (by rw [hk_app hl hm hi (by omega)]; exact h7) h8]
theorem more_heard (hl : ra.length = n) (hm : ps.length = n) {i : Nat} (hi : i < n) (h : hkd (ra ++ [a]) (ps ++ [p]) r i n = true) :
    (cat (ra ++ [a]) (ps ++ [p]) r js asn i = n ∧ cat ra ps r js asn i = -1) ∨ (cat (ra ++ [a]) (ps ++ [p]) r js asn i = -1 ∧ cat ra ps r js asn i = -1) ∨ cat (ra ++ [a]) (ps ++ [p]) r js asn i = -2 := by
  have e1 : (ra ++ [a]).getD i z0 = ra.getD i z0 := getD_app _ _ _ (by omega)
  have e2 : (ps ++ [p]).getD i p0 = ps.getD i p0 := getD_app _ _ _ (by omega)
  have g1 : ((ra ++ [a]).getD i z0).act = 1 := by
    by_cases e : ((ra ++ [a]).getD i z0).act = 1
    · exact e
    · unfold hkd at h; rw [hrd_no e] at h; cases h
  have hn : hk (ra ++ [a]) (ps ++ [p]) r i n = true := by rw [← h]; exact (hrd_of g1 _ _ _).symm
  have hlen : (ra ++ [a]).length = n + 1 := by simp [hl]
  rcases cat_cases ra ps r js asn i with ⟨h1, h2⟩ | ⟨h1, h2, h3⟩ | ⟨h1, h2, h3⟩
  · rw [e1] at g1; exact absurd g1 h1
  · exact .inr (.inr (cat_jam g1 (by rw [e1, e2]; exact h2)))
  · have g2 : jammed js ((ps ++ [p]).getD i p0) ((ra ++ [a]).getD i z0).ch asn = false := by rw [e1, e2]; exact h2
    rcases h3 with ⟨h4, h5⟩ | ⟨k, h4, h5, h6, h7⟩ | ⟨j, k, h4, h5, h6, h7, h8, h9⟩
    · have := cat_one g1 g2 (k := n) (by omega) hn fun j hjl hj => by
        by_cases e : j = n
        · exact e
        · rw [hk_app hl hm hi (by omega), h4 j (by omega)] at hj; cases hj
      rw [this, h5]
      by_cases ho : opn ((ra ++ [a]).getD n z0) ((ra ++ [a]).getD i z0) = true
      · rw [if_pos ho]; exact .inl ⟨rfl, rfl⟩
      · rw [if_neg ho]; exact .inr (.inl ⟨rfl, rfl⟩)
    · exact .inr (.inr (cat_many g1 g2 (j := k) (k := n) (by omega) (by rw [hk_app hl hm hi (by omega)]; exact h5) (by omega) hn (by omega)))
    · exact .inr (.inr (cat_many g1 g2 (j := k) (k := n) (by omega) (by rw [hk_app hl hm hi (by omega)]; exact h7) (by omega) hn (by omega)))
end

/- Channels. -/
def fw1 (s : Ac) (k i : Nat) (a : Ac) : Ac := if i ≠ k ∧ (a.act = 1 ∨ a.ch ≠ s.ch) then z0 else a
def fwm (ra : List Ac) (k m : Nat) : List Ac := ra.mapIdx fun i a => if i < m then fw1 (ra.getD k z0) k i a else a
theorem fwm_len (ra : List Ac) (k m : Nat) : (fwm ra k m).length = ra.length := by simp [fwm]
theorem fwm_zero (ra : List Ac) (k : Nat) : fwm ra k 0 = ra := by
  unfold fwm
  apply List.ext_getElem <;> simp
theorem fwm_get (ra : List Ac) (k m i : Nat) (hi : i < ra.length) : (fwm ra k m).getD i z0 = if i < m then fw1 (ra.getD k z0) k i (ra.getD i z0) else ra.getD i z0 := by
  unfold fwm
  rw [List.getD_eq_getElem?_getD, List.getElem?_mapIdx, List.getElem?_eq_getElem hi]
  rw [List.getD_eq_getElem?_getD (l := ra) (i := i), List.getElem?_eq_getElem hi]
  rfl
theorem fwm_self (ra : List Ac) (k m : Nat) (hk1 : k < ra.length) : (fwm ra k m).getD k z0 = ra.getD k z0 := by
  rw [fwm_get _ _ _ _ hk1]
  unfold fw1
  simp
theorem fwm_ok {ra : List Ac} {ps : List Pt} {r asn : Int} (k : Nat) (h : okm ra ps r asn = true) : okm (fwm ra k ra.length) ps r asn = true :=
  okm_of (fwm_len _ _ _) (fun i hi ho => by
    rw [fwm_get _ _ _ _ hi, if_pos hi]
    unfold fw1
    split
    · decide
    · exact ho) h
theorem fwm_cat {ra : List Ac} {ps : List Pt} {r asn : Int} {js : List Jm} {k : Nat} (hk1 : k < ra.length) : cat (fwm ra k ra.length) ps r js asn k = cat ra ps r js asn k := by
  have hs := fwm_self ra k ra.length hk1
  have hlen := fwm_len ra k ra.length
  have hh : ∀ j, j < ra.length → hk (fwm ra k ra.length) ps r k j = hk ra ps r k j := fun j hj => by
    unfold hk
    rw [hs, fwm_get _ _ _ _ hj, if_pos hj]
    unfold fw1
    split
    · rename_i hc
      unfold hrs
      rcases hc.2 with h | h
      · rw [decide_eq_false (p := (ra.getD j z0).act = 2) (by rw [h]; decide)]; rfl
      · rw [decide_eq_false (p := (ra.getD j z0).ch = (ra.getD k z0).ch) h]; cases decide ((ra.getD j z0).act = 2) <;> rfl
    · rfl
  have ho : ∀ j, j < ra.length → hk ra ps r k j = true → (fwm ra k ra.length).getD j z0 = ra.getD j z0 := fun j hj h => by
    rw [fwm_get _ _ _ _ hj, if_pos hj]
    unfold fw1
    rw [if_neg]
    rintro ⟨_, h2⟩
    unfold hk hrs at h
    simp only [Bool.and_eq_true, decide_eq_true_eq] at h
    rcases h2 with h2 | h2
    · rw [h2] at h; exact absurd h.1 (by decide)
    · exact h2 h.2.1
  rcases cat_cases ra ps r js asn k with ⟨h1, h2⟩ | ⟨h1, h2, h3⟩ | ⟨h1, h2, h3⟩
  · rw [h2, cat_off (by rw [hs]; exact h1)]
  · rw [h3, cat_jam (by rw [hs]; exact h1) (by rw [hs]; exact h2)]
  · have g1 : ((fwm ra k ra.length).getD k z0).act = 1 := by rw [hs]; exact h1
    have g2 : jammed js (ps.getD k p0) ((fwm ra k ra.length).getD k z0).ch asn = false := by rw [hs]; exact h2
    rcases h3 with ⟨h4, h5⟩ | ⟨j, h4, h5, h6, h7⟩ | ⟨j, l, h4, h5, h6, h7, h8, h9⟩
    · rw [h5, cat_none g1 g2 fun j hj => by rw [hh j (by omega)]; exact h4 j (by omega)]
    · rw [h7, cat_one g1 g2 (k := j) (by omega) (by rw [hh j h4]; exact h5) fun l hl hlk => h6 l (by omega) (by rw [← hh l (by omega)]; exact hlk), hs, ho j h4 h5]
    · rw [h9, cat_many g1 g2 (j := j) (k := l) (by omega) (by rw [hh j h4]; exact h5) (by omega) (by rw [hh l h6]; exact h7) h8]

/- One more jammer. -/
theorem jammed_snoc (js : List Jm) (j : Jm) (p : Pt) (ch asn : Int) : jammed (js ++ [j]) p ch asn = (jammed js p ch asn || jams j p ch asn) := by
  unfold jammed
  simp
theorem jams_cat {ra : List Ac} {ps : List Pt} {r asn : Int} {js : List Jm} {j : Jm} {i : Nat} :
    cat ra ps r (js ++ [j]) asn i = if (ra.getD i z0).act = 1 ∧ jams j (ps.getD i p0) (ra.getD i z0).ch asn = true then -2 else cat ra ps r js asn i := by
  unfold cat
  rw [jammed_snoc]
  generalize ra.getD i z0 = a
  generalize ps.getD i p0 = q
  by_cases h1 : a.act = 1
  · cases h2 : jams j q a.ch asn
    · simp
    · simp [h1]
  · simp [h1]

/- Turned round. -/
def rot {α : Type} (k : Nat) (l : List α) : List α := l.drop k ++ l.take k
theorem rot_len {α : Type} {k : Nat} {l : List α} (hk1 : k ≤ l.length) : (rot k l).length = l.length := by unfold rot; simp; omega
theorem rot_get {α : Type} {k n m : Nat} {l : List α} (d : α) (hl : l.length = n) (hk1 : k < n) (hm : m < n) : (rot k l).getD m d = l.getD ((m + k) % n) d := by
  unfold rot
  rw [List.getD_eq_getElem?_getD, List.getD_eq_getElem?_getD]
  congr 1
  by_cases h : m < n - k
  · rw [List.getElem?_append_left (by simp; omega), List.getElem?_drop, Nat.mod_eq_of_lt (by omega), Nat.add_comm]
  · rw [List.getElem?_append_right (by simp; omega), List.length_drop, List.getElem?_take, if_pos (by omega)]
    congr 1
    rw [Nat.mod_eq_sub_mod (by omega), Nat.mod_eq_of_lt (by omega)]
    omega
/-- Where the i-th lies behind the turn. -/
def back (n k i : Nat) : Nat := (i + (n - k)) % n
theorem back_lt {n k i : Nat} (h : 0 < n) : back n k i < n := Nat.mod_lt _ h
theorem mod_lo {a n : Nat} (h : a < n) : a % n = a := Nat.mod_eq_of_lt h
theorem mod_hi {a n : Nat} (h : n ≤ a) (h2 : a < 2 * n) : a % n = a - n := by
  rw [Nat.mod_eq_sub_mod h, Nat.mod_eq_of_lt (by omega)]
theorem back_fwd {n k i : Nat} (hk1 : k < n) (hi : i < n) : (back n k i + k) % n = i := by
  unfold back
  by_cases h : i + (n - k) < n
  · rw [mod_lo h]
    rw [mod_hi (by omega) (by omega)]; omega
  · rw [mod_hi (a := i + (n - k)) (by omega) (by omega), mod_lo (by omega)]; omega
theorem fwd_back {n k m : Nat} (hk1 : k < n) (hm : m < n) : back n k ((m + k) % n) = m := by
  unfold back
  by_cases h : m + k < n
  · rw [mod_lo h, mod_hi (by omega) (by omega)]; omega
  · rw [mod_hi (a := m + k) (by omega) (by omega), mod_lo (by omega)]; omega
section
variable {ra : List Ac} {ps : List Pt} {r : Int} {js : List Jm} {asn : Int} {n k : Nat}
theorem hk_rot (hl : ra.length = n) (hm : ps.length = n) (hk1 : k < n) {i j : Nat} (hi : i < n) (hj : j < n) : hk (rot k ra) (rot k ps) r (back n k i) (back n k j) = hk ra ps r i j := by
  unfold hk
  have h0 : 0 < n := by omega
  rw [rot_get _ hl hk1 (back_lt h0), rot_get _ hl hk1 (back_lt h0), rot_get _ hm hk1 (back_lt h0), rot_get _ hm hk1 (back_lt h0), back_fwd hk1 hi, back_fwd hk1 hj]
/-- What a result becomes. -/
def backR (n k : Nat) (z : Int) : Int := if 0 ≤ z then ((back n k z.toNat : Nat) : Int) else z
theorem rot_cat (hl : ra.length = n) (hm : ps.length = n) (hk1 : k < n) {i : Nat} (hi : i < n) : cat (rot k ra) (rot k ps) r js asn (back n k i) = backR n k (cat ra ps r js asn i) := by
  have h0 : 0 < n := by omega
  have e1 : (rot k ra).getD (back n k i) z0 = ra.getD i z0 := by rw [rot_get _ hl hk1 (back_lt h0), back_fwd hk1 hi]
  have e2 : (rot k ps).getD (back n k i) p0 = ps.getD i p0 := by rw [rot_get _ hm hk1 (back_lt h0), back_fwd hk1 hi]
  have hlen : (rot k ra).length = n := by rw [rot_len (by omega), hl]
  rcases cat_cases ra ps r js asn i with ⟨h1, h2⟩ | ⟨h1, h2, h3⟩ | ⟨h1, h2, h3⟩
  · rw [h2, cat_off (by rw [e1]; exact h1)]; rfl
  · rw [h3, cat_jam (by rw [e1]; exact h1) (by rw [e1, e2]; exact h2)]; rfl
  · have g1 : ((rot k ra).getD (back n k i) z0).act = 1 := by rw [e1]; exact h1
    have g2 : jammed js ((rot k ps).getD (back n k i) p0) ((rot k ra).getD (back n k i) z0).ch asn = false := by rw [e1, e2]; exact h2
    have hh : ∀ m, m < n → hk (rot k ra) (rot k ps) r (back n k i) m = hk ra ps r i ((m + k) % n) := fun m hmn => by
      rw [← hk_rot hl hm hk1 hi (Nat.mod_lt _ h0), fwd_back hk1 hmn]
    rcases h3 with ⟨h4, h5⟩ | ⟨j, h4, h5, h6, h7⟩ | ⟨j, l, h4, h5, h6, h7, h8, h9⟩
    · rw [h5, cat_none g1 g2 fun m hmn => by rw [hh m (by omega)]; exact h4 _ (by rw [hl]; exact Nat.mod_lt _ h0)]; rfl
    · rw [h7, cat_one g1 g2 (k := back n k j) (by rw [hlen]; exact back_lt h0) (by rw [hk_rot hl hm hk1 hi (by omega)]; exact h5) fun m hmn hmh => ?_, e1, rot_get _ hl hk1 (back_lt h0), back_fwd hk1 (by omega)]
      · by_cases ho : opn (ra.getD j z0) (ra.getD i z0) = true
        · rw [if_pos ho, if_pos ho]; unfold backR; rw [if_pos (by omega)]; rfl
        · rw [if_neg ho, if_neg ho]; rfl
      · rw [hh m (by omega)] at hmh
        rw [← h6 _ (by rw [hl]; exact Nat.mod_lt _ h0) hmh, fwd_back hk1 (by omega)]
    · rw [h9, cat_many g1 g2 (j := back n k j) (k := back n k l) (by rw [hlen]; exact back_lt h0) (by rw [hk_rot hl hm hk1 hi (by omega)]; exact h5) (by rw [hlen]; exact back_lt h0) (by rw [hk_rot hl hm hk1 hi (by omega)]; exact h7) fun e => ?_]
      · rfl
      · have := congrArg (fun x => (x + k) % n) e
        simp only [back_fwd hk1 (show j < n by omega), back_fwd hk1 (show l < n by omega)] at this
        exact h8 this
theorem rot_ok (hl : ra.length = n) (hm : ps.length = n) (hk1 : k < n) (h : okm ra ps r asn = true) : okm (rot k ra) (rot k ps) r asn = true := by
  have h0 : 0 < n := by omega
  unfold okm at h ⊢
  rw [rot_len (by omega), rot_len (by omega)]
  simp only [Bool.and_eq_true] at h ⊢
  refine ⟨h.1, ?_⟩
  rw [List.all_eq_true]
  intro i hi
  have hin : i < n := by rw [hl] at hi; exact List.mem_range.1 hi
  have h1 := List.all_eq_true.1 h.2 ((i + k) % n) (List.mem_range.2 (by rw [hl]; exact Nat.mod_lt _ h0))
  unfold okR at h1 ⊢
  rw [rot_get _ hl hk1 hin, rot_get _ hm hk1 hin]
  exact h1
end
end Go.Proofs.Yteeloebhjmmpdaa.Md
