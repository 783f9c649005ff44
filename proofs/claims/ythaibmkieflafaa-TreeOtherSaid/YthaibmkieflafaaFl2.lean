/- A region that draws its order: a quiet head; some of its reading operations (fs) need not be over when the tail's first operation k comes up; the tail's second operation waits for them. -/
import Derived.Test.YthaibmkieflafaaFl
namespace Go.Proofs.Ythaibmkieflafaa
open Go.RowKit
set_option linter.unusedVariables false

def withEdges (l : List Oper) (k : Nat) (js : List Nat) : List Oper :=
  l.mapIdx fun i o => if i = k then { o with after := o.after ++ (js.map fun j => (⟨j, .data⟩ : Edge)).toArray } else o
def coreB2 (md : Region.Mode) (ops : Array Oper) (k : Nat) (fs : List Nat) : Bool :=
  (List.range k).all fun i => fs.contains i || (List.range (k + 1)).any fun j => decide (i < j) && !fs.contains j && Region.waitsFor md ops j i
def stillKind (o : Oper) : Bool := match o.op with | .load _ _ => true | .move _ => true | .slice .. => true | .indexAddr .. => true | .fieldAddr .. => true | _ => false
def backB (l : List Oper) : Bool := (List.range l.length).all fun i => match l[i]? with | some o => o.after.all fun e => decide (e.on < i) | none => true
def floatB2 (l : List Oper) (k : Nat) (fs js : List Nat) : Bool :=
  noGuard l && coreB2 .any l.toArray k fs && (js.all fun j => decide (j < k) && Region.waitsFor .any l.toArray (k + 1) j) && Region.chainB .any l.toArray k && backB l &&
    (match l[k]? with
     | some ok => (match ok.op with | .select _ _ => false | _ => true) && fs.all fun i => match l[i]? with | some oi => stillKind oi && oi.apart l.toArray ok | none => true
     | none => false) &&
    Region.lexTailB .any (withEdges l k js).toArray k

section
variable {P : Program} {C : World → Prop} {Q : Exit → Act → World → Prop}

theorem withEdges_get (l : List Oper) (k : Nat) (js : List Nat) (i : Nat) : (withEdges l k js)[i]? = (l[i]?).map fun o => if i = k then { o with after := o.after ++ (js.map fun j => (⟨j, .data⟩ : Edge)).toArray } else o := by
  unfold withEdges
  rw [List.getElem?_mapIdx]
theorem withEdges_size (l : List Oper) (k : Nat) (js : List Nat) : (withEdges l k js).toArray.size = l.toArray.size := by simp [withEdges]

theorem ready_edges {l : List Oper} {k : Nat} {js : List Nat} {listed : Array Bool} (h0 : ∀ j ∈ js, listed.getD j false = true) (i : Nat) : i ∈ Region.ready .any (withEdges l k js).toArray listed ↔ i ∈ Region.ready .any l.toArray listed := by
  rw [mem_ready, mem_ready]
  constructor
  · rintro ⟨h1, o, ho, h2⟩
    refine ⟨h1, ?_⟩
    rw [List.getElem?_toArray, withEdges_get] at ho
    obtain ⟨o', ho', e⟩ := Option.map_eq_some_iff.1 ho
    refine ⟨o', by simpa using ho', fun e' he hb => ?_⟩
    subst e
    refine h2 e' ?_ hb
    split
    · simp [he]
    · exact he
  · rintro ⟨h1, o, ho, h2⟩
    refine ⟨h1, _, by rw [List.getElem?_toArray, withEdges_get, show l[i]? = some o by simpa using ho]; rfl, fun e' he hb => ?_⟩
    split at he
    · rcases Array.mem_append.1 he with he | he
      · exact h2 e' he hb
      · obtain ⟨j, hj, rfl⟩ := List.mem_map.1 (by simpa using he)
        exact h0 j hj
    · exact h2 e' he hb
theorem ready_of_ne2 {l : List Oper} {k : Nat} {js : List Nat} {listed : Array Bool} {i : Nat} (hik : i ≠ k) (h : i ∈ Region.ready .any l.toArray listed) : i ∈ Region.ready .any (withEdges l k js).toArray listed := by
  rw [mem_ready] at *
  obtain ⟨h1, o, ho, h2⟩ := h
  exact ⟨h1, o, by rw [List.getElem?_toArray, withEdges_get, show l[i]? = some o by simpa using ho]; simp [hik], h2⟩
theorem ready_less2 {l : List Oper} {k : Nat} {js : List Nat} {listed : Array Bool} {i : Nat} (h : i ∈ Region.ready .any (withEdges l k js).toArray listed) : i ∈ Region.ready .any l.toArray listed := by
  rw [mem_ready] at *
  obtain ⟨h1, o, ho, h2⟩ := h
  rw [List.getElem?_toArray, withEdges_get] at ho
  obtain ⟨o', ho', e⟩ := Option.map_eq_some_iff.1 ho
  refine ⟨h1, o', by simpa using ho', fun e' he hb => h2 e' ?_ hb⟩
  subst e
  split
  · simp [he]
  · exact he
theorem wpOp_edges {l : List Oper} {k i : Nat} {js : List Nat} {K : Act → World → Prop} {a : Act} {w : World} (hg : noGuard l = true) : wpOp P (withEdges l k js).toArray Q i K a w ↔ wpOp P l.toArray Q i K a w := by
  unfold wpOp
  rw [List.getElem?_toArray, List.getElem?_toArray, withEdges_get]
  cases ho : l[i]? with
  | none => exact Iff.rfl
  | some o =>
    have hgo := noGuard_at hg ho
    simp only [Option.map_some]
    by_cases hik : i = k
    · simp only [hik, if_true]
      rw [if_pos (wanted_of hgo _), if_pos (wanted_of (by exact hgo) _)]
      exact Iff.rfl
    · simp only [hik, if_false]
      rw [if_pos (wanted_of hgo _), if_pos (wanted_of hgo _)]
theorem set_keeps {listed : Array Bool} {i j : Nat} (h : listed.getD j false = true) : (listed.setIfInBounds i true).getD j false = true := by
  by_cases e : i = j
  · subst e
    rcases Nat.lt_or_ge i listed.size with hs | hs
    · simp [Array.getD_eq_getD_getElem?, hs]
    · rw [Array.getD_eq_getD_getElem?, Array.getElem?_eq_none (by omega)] at h
      cases h
  · rw [getD_set_ne false e]
    exact h
theorem any_edges {l : List Oper} {k : Nat} {js : List Nat} (hg : noGuard l = true) : ∀ (f : Nat) (listed : Array Bool) (a : Act) (w : World), (∀ j ∈ js, listed.getD j false = true) → wpAny P .any (withEdges l k js).toArray Q f listed a w → wpAny P .any l.toArray Q f listed a w
  | 0, listed, a, w, h0, h => by
    refine ⟨?_, h.2⟩
    rw [List.eq_nil_iff_forall_not_mem]
    intro i hi
    have := (ready_edges (k := k) h0 i).2 hi
    rw [h.1] at this
    cases this
  | f + 1, listed, a, w, h0, h => by
    refine ⟨fun hr => h.1 ?_, fun i hi => ?_⟩
    · rw [List.eq_nil_iff_forall_not_mem]
      intro i hi
      have := (ready_edges (k := k) h0 i).1 hi
      rw [hr] at this
      cases this
    · have h1 := (wpOp_edges hg).1 (h.2 i ((ready_edges h0 i).2 hi))
      exact wpOp_mono (fun a' w' h' => any_edges hg f _ a' w' (fun j hj => set_keeps (h0 j hj)) h') h1
theorem list_edges {l : List Oper} {k : Nat} {js : List Nat} (hg : noGuard l = true) : ∀ (r : List Oper) (m : Nat) (r' : List Oper) (a : Act) (w : World), (∀ j : Nat, r[j]? = l[m + j]?) → (∀ j : Nat, r'[j]? = (withEdges l k js)[m + j]?) → wpList P l.toArray Q r a w → wpList P (withEdges l k js).toArray Q r' a w
  | [], m, r', a, w, hr, hr', h => by
    have : r' = [] := by
      cases r' with
      | nil => rfl
      | cons x r' =>
        have h1 := hr' 0
        have h2 := hr 0
        rw [withEdges_get, ← h2] at h1
        cases h1
    subst this
    exact h
  | o :: r, m, r', a, w, hr, hr', h => by
    cases r' with
    | nil =>
      have h1 := hr' 0
      have h2 := hr 0
      rw [withEdges_get, ← h2] at h1
      cases h1
    | cons o' r' =>
      have h1 := hr' 0
      have h2 := hr 0
      rw [withEdges_get, ← h2] at h1
      simp only [List.getElem?_cons_zero, Option.map_some, Option.some.injEq] at h1
      have hgo := noGuard_at hg h2.symm
      have hop : o'.guard = none := by rw [h1]; split <;> exact hgo
      unfold wpList at h ⊢
      rw [if_pos (wanted_of hgo _)] at h
      rw [if_pos (wanted_of hop _)]
      have hrest := fun a w => list_edges hg r (m + 1) r' a w (fun j => by have := hr (j + 1); simpa [Nat.add_assoc, Nat.add_comm 1 j] using this) (fun j => by have := hr' (j + 1); simpa [Nat.add_assoc, Nat.add_comm 1 j] using this)
      have h3 : ∀ K, (o'.wp P a w K Q ↔ o.wp P a w K Q) := fun K => by
        rw [h1]; split <;> exact Iff.rfl
      rw [h3]
      refine h.imp (fun h => Oper.wp_mono (fun a' w' h' => hrest a' w' h') h) (fun h => ?_)
      rw [h1]; split <;> exact h

theorem core_listed2 {l : List Oper} {k : Nat} {fs js : List Nat} {listed : Array Bool} (hc : coreB2 .any l.toArray k fs = true) (inv : HeadInv .any (withEdges l k js).toArray k listed) (hr : k ∈ Region.ready .any l.toArray listed) :
    ∀ (d i : Nat), k - i = d → i ∉ fs → i < k → listed.getD i false = true := by
  intro d
  induction d using Nat.strongRecOn with
  | _ d ih =>
    intro i hd h0 hi
    have h1 := List.all_eq_true.1 hc i (List.mem_range.2 hi)
    simp only [Bool.or_eq_true, List.contains_iff_mem] at h1
    rcases h1 with h1 | h1
    · exact absurd h1 h0
    obtain ⟨j, hj, hj2⟩ := List.any_eq_true.1 h1
    simp only [Bool.and_eq_true, decide_eq_true_eq, Bool.not_eq_true'] at hj2
    obtain ⟨⟨hj1, hjf⟩, hj3⟩ := hj2
    obtain ⟨oj, hoj, e, he, hb, hon⟩ := Region.waitsFor_spec hj3
    have hjle : j ≤ k := by have := List.mem_range.1 hj; omega
    by_cases hjk : j = k
    · subst hjk
      obtain ⟨_, ot, hot, hall⟩ := mem_ready.1 hr
      have : oj = ot := Option.some.inj (hoj.symm.trans hot)
      subst this
      have := hall e he hb
      rwa [hon] at this
    · have h3 := ih (k - j) (by omega) j rfl (fun hm => by rw [← List.contains_iff_mem] at hm; rw [hm] at hjf; cases hjf) (by omega)
      have := inv.closed j oj (by rw [List.getElem?_toArray, withEdges_get, show l[j]? = some oj by simpa using hoj]; simp [hjk]) h3 e he hb
      rwa [hon] at this

theorem still_value {o : Oper} (h : stillKind o = true) {f : Operand → Value} {w w' : World} {n : Next} (hr : (execOp f o).run P w = .ok n w') : ∃ u, n = .value u := by
  have gen : ∀ (s : Sem Value), (Sem.run P (s >>= fun v => pure (Next.value v)) w = .ok n w') → ∃ u, n = .value u := fun s hs => by
    rw [Sem.run_bind] at hs
    generalize Sem.run P s w = r at hs
    cases r with
    | ok v w2 =>
      simp only [Result.andThen_ok, Sem.run_pure, Result.ok.injEq] at hs
      exact ⟨_, hs.1.symm⟩
    | halt x w2 => cases hs
  unfold execOp at hr
  unfold stillKind at h
  cases ho : o.op <;> rw [ho] at h hr <;> first | cases h | skip
  case move =>
    simp only [Sem.run_pure, Result.ok.injEq] at hr
    exact ⟨_, hr.1.symm⟩
  all_goals exact gen _ hr

/-- What k's run is. -/
def Runs (P : Program) (o : Oper) (a : Act) (w : World) (u : Value) (w' : World) : Prop :=
  (execOp a.eval o).run P w = .ok (.value u) w' ∨ ((execOp a.eval o).run P w = .ok .skip w' ∧ u = undef)
theorem Runs.wp {o : Oper} {a : Act} {w w' : World} {u : Value} {K : Act → World → Prop} (h : Runs P o a w u w') : o.wp P a w K Q ↔ K (a.put o.dst u) w' := by
  unfold Oper.wp
  rcases h with h | ⟨h, rfl⟩ <;> rw [h] <;> exact Iff.rfl
theorem Runs.same {o : Oper} {a a' : Act} {w w' : World} {u : Value} (h : Runs P o a w u w') (he : execOp a'.eval o = execOp a.eval o) : Runs P o a' w u w' := by
  unfold Runs at *
  rw [he]
  exact h

theorem Runs.uniq {o : Oper} {a : Act} {w w1 w2 : World} {u1 u2 : Value} (h1 : Runs P o a w u1 w1) (h2 : Runs P o a w u2 w2) : u1 = u2 ∧ w1 = w2 := by
  unfold Runs at *
  rcases h1 with h1 | ⟨h1, rfl⟩ <;> rcases h2 with h2 | ⟨h2, rfl⟩ <;> rw [h1] at h2
  · injection h2 with h2 h3
    injection h2 with h2
    exact ⟨h2, h3⟩
  · injection h2 with h2 h3
    cases h2
  · injection h2 with h2 h3
    cases h2
  · injection h2 with h2 h3
    exact ⟨rfl, h3⟩

section
variable {l : List Oper} {k g : Nat} {fs js : List Nat} {Lq : Act → Prop} {ok : Oper}
/-- Where the head is over: the last frame, and what k reads in it. -/
theorem float_E (hc : coreB2 .any l.toArray k fs = true) (hok : l[k]? = some ok) (hfs : ∀ i ∈ fs, ∀ oi, l[i]? = some oi → stillKind oi = true ∧ oi.apart l.toArray ok = true) (hsk : ∀ cs b, ok.op ≠ .select cs b) :
    ∀ (f : Nat) (listed : Array Bool) (a : Act), HeadInv .any (withEdges l k js).toArray k listed → k ∈ Region.ready .any l.toArray listed →
      wpAnyQL P .any (withEdges l k js).toArray C k (fun listed' a' => Region.seqB .any (withEdges l k js).toArray (g + 1) k listed' = true ∧ Lq a') f listed a → ∃ a', Lq a' ∧ execOp a'.eval ok = execOp a.eval ok
  | 0, listed, a, _, _, ⟨_, hL⟩ => ⟨a, hL, rfl⟩
  | f + 1, listed, a, inv, hkr, H => by
    have hexi : ∃ i, i ∈ Region.ready .any (withEdges l k js).toArray listed := by
      cases h : Region.ready .any (withEdges l k js).toArray listed with
      | nil => exact absurd h H.1
      | cons x r => exact ⟨x, by simp⟩
    obtain ⟨i, hi⟩ := hexi
    obtain ⟨hik, hq⟩ := H.2 i hi
    obtain ⟨hiun, oi', hoi', _⟩ := mem_ready.1 hi
    have hoi : l[i]? = some oi' := by
      rw [List.getElem?_toArray, withEdges_get] at hoi'
      obtain ⟨o2, ho2, e⟩ := Option.map_eq_some_iff.1 hoi'
      rw [if_neg (by omega)] at e
      rw [← e]; exact ho2
    have hif : i ∈ fs := by
      apply Classical.byContradiction
      intro h
      have := core_listed2 hc inv hkr (k - i) i rfl h hik
      rw [getD_both hiun] at this
      cases this
    obtain ⟨hst, hap⟩ := hfs i hif oi' hoi
    obtain ⟨a1, _, _⟩ := Oper.apart_spec hap
    obtain ⟨v, _, hK⟩ := yieldsIn_of_qOp hoi' hq
    obtain ⟨a', h1, h2⟩ := float_E hc hok hfs hsk f _ _ (inv.set hi hik) (ready_mono hkr (by omega)) hK
    exact ⟨a', h1, by rw [h2, execOp_put (ops := l.toArray) ok hsk a oi'.dst v a1]⟩

/-- Behind k, with some of fs still to come. -/
theorem float_G (hg : noGuard l = true) (hc : coreB2 .any l.toArray k fs = true) (hw1 : ∀ j ∈ js, j < k ∧ Region.waitsFor .any l.toArray (k + 1) j = true) (hch : Region.chainB .any l.toArray k = true) (hbk : backB l = true)
    (hs' : Region.sinkB .any (withEdges l k js).toArray k = true) (hch' : Region.chainB .any (withEdges l k js).toArray k = true)
    (hok : l[k]? = some ok) (hfs : ∀ i ∈ fs, ∀ oi, l[i]? = some oi → stillKind oi = true ∧ oi.apart l.toArray ok = true) (hsk : ∀ cs b, ok.op ≠ .select cs b) (hgs : g + 1 = (l.drop k).length)
    (hLq : ∀ a, Lq a → ∀ w, C w → ∃ u w', Runs P ok a w u w' ∧ C w' ∧ wpList P l.toArray Q (l.drop (k + 1)) (a.put ok.dst u) w') :
    ∀ (f : Nat) (listed : Array Bool) (a : Act), HeadInv .any (withEdges l k js).toArray k listed → k ∈ Region.ready .any l.toArray listed →
      wpAnyQL P .any (withEdges l k js).toArray C k (fun listed' a' => Region.seqB .any (withEdges l k js).toArray (g + 1) k listed' = true ∧ Lq a') f listed a →
      ∀ w, C w → ∀ u w', C w' → Runs P ok a w u w' → wpAny P .any l.toArray Q (f + g) (listed.setIfInBounds k true) (a.put ok.dst u) w'
  | 0, listed, a, inv, hkr, ⟨hB, hL⟩, w, hw0, u, w', hw', hrun => by
    have hklt : k < l.length := (List.getElem?_eq_some_iff.1 hok).1
    simp only [Region.seqB, Bool.and_eq_true, decide_eq_true_eq] at hB
    have hjs : ∀ j ∈ js, listed.getD j false = true := fun j hj => by
      have : k ∈ Region.ready .any (withEdges l k js).toArray listed := by rw [hB.1]; simp
      obtain ⟨_, o', ho', hall⟩ := mem_ready.1 this
      rw [List.getElem?_toArray, withEdges_get, hok] at ho'
      simp only [Option.map_some, if_true, Option.some.injEq] at ho'
      subst ho'
      exact hall ⟨j, .data⟩ (by simp [hj]) rfl
    rw [Nat.zero_add]
    have hlen : ((withEdges l k js).drop (k + 1)).length = g := by
      have : ((withEdges l k js).drop (k + 1)).length = (l.drop (k + 1)).length := by simp [withEdges]
      rw [this]
      simp only [List.length_drop] at hgs ⊢
      omega
    obtain ⟨u2, w2, hrun2, _, hwl⟩ := hLq a hL w hw0
    obtain ⟨rfl, rfl⟩ := hrun.uniq hrun2
    refine any_edges (k := k) hg g _ _ _ (fun j hj => set_keeps (hjs j hj)) ?_
    have := wpAny_of_seq (md := .any) (P := P) (Q' := Q) (ops := (withEdges l k js).toArray) ((withEdges l k js).drop (k + 1)) (k + 1) (listed.setIfInBounds k true) (a.put ok.dst u) w' (fun j => by simp [List.getElem?_drop]) (by rw [hlen]; exact hB.2)
      (list_edges hg _ (k + 1) _ _ _ (fun j => by simp [List.getElem?_drop]) (fun j => by simp [List.getElem?_drop]) hwl)
    rw [hlen] at this
    exact this
  | f + 1, listed, a, inv, hkr, H, w, hw0, u, w', hw', hrun => by
    have hklt : k < l.length := (List.getElem?_eq_some_iff.1 hok).1
    have hsz : listed.size = l.length := by rw [inv.size, withEdges_size]; simp
    have hup : ∀ i, i < k → i ∈ Region.ready .any (withEdges l k js).toArray listed → i ∈ Region.ready .any l.toArray (listed.setIfInBounds k true) := fun i hi h => ready_mono (ready_less2 h) (by omega)
    have hexi : ∃ i, i ∈ Region.ready .any (withEdges l k js).toArray listed := by
      cases h : Region.ready .any (withEdges l k js).toArray listed with
      | nil => exact absurd h H.1
      | cons x r => exact ⟨x, by simp⟩
    obtain ⟨i0, hi0⟩ := hexi
    have hi0k := (H.2 i0 hi0).1
    rw [show f + 1 + g = (f + g) + 1 by omega]
    refine ⟨fun hr => (by have := hup i0 hi0k hi0; rw [hr] at this; cases this), fun j hj => ?_⟩
    obtain ⟨hjun, oj, hoj, hall⟩ := mem_ready.1 hj
    have hjl : j < l.length := by simpa using (Array.getElem?_eq_some_iff.1 hoj).1
    have hjk : j ≠ k := by
      rintro rfl
      simp [Array.getD_eq_getD_getElem?, hsz, hjl] at hjun
    have hun0 : listed.getD i0 true = false := (mem_ready.1 hi0).1
    have hjs : ∃ m ∈ js, listed.getD m false = false := by
      apply Classical.byContradiction
      intro h
      have hall' : ∀ m ∈ js, listed.getD m false = true := fun m hm => by
        cases e : listed.getD m false
        · exact absurd ⟨m, hm, e⟩ h
        · rfl
      exact tail_waits hs' hch' (by rw [withEdges_size]; simpa using hklt) inv _ i0 rfl hi0k hun0 k (Nat.le_refl _) ((ready_edges hall' k).2 hkr)
    have hjlt : j < k := by
      rcases Nat.lt_or_ge j k with h | h
      · exact h
      · exfalso
        by_cases hj1 : j = k + 1
        · subst hj1
          obtain ⟨m, hm, hmf⟩ := hjs
          obtain ⟨oj', hoj', e, he, hb, hon⟩ := Region.waitsFor_spec (hw1 m hm).2
          have : oj' = oj := Option.some.inj (hoj'.symm.trans hoj)
          subst this
          have h3 := hall e he hb
          rw [hon, getD_set_ne false (by have := (hw1 m hm).1; omega), hmf] at h3
          cases h3
        · have h2 := List.all_eq_true.1 hch j (List.mem_range.2 (by simpa using hjl))
          simp only [Bool.or_eq_true, decide_eq_true_eq] at h2
          rcases h2 with h2 | h2
          · omega
          obtain ⟨oj', hoj', e, he, hb, hon⟩ := Region.waitsFor_spec h2
          have : oj' = oj := Option.some.inj (hoj'.symm.trans hoj)
          subst this
          have h3 := hall e he hb
          rw [hon, getD_set_ne false (by omega)] at h3
          have h4 := inv.tail (j - 1) (by omega) (by rw [withEdges_size]; simp; omega)
          rw [getD_both h4] at h3
          cases h3
    have hojl : l[j]? = some oj := by simpa using hoj
    have hjun' : listed.getD j true = false := by rwa [getD_set_ne true (by omega)] at hjun
    have hjr : j ∈ Region.ready .any l.toArray listed := mem_ready.2 ⟨hjun', oj, hoj, fun e he hb => by
      have h1 := hall e he hb
      have h2 := List.all_eq_true.1 hbk j (List.mem_range.2 hjl)
      simp only [hojl] at h2
      have h3 : e.on < j := by
        obtain ⟨q, hq⟩ := Array.getElem?_of_mem he
        have := Array.all_eq_true'.1 h2 e he
        simpa using this
      rwa [getD_set_ne false (by omega)] at h1⟩
    have hj' := ready_of_ne2 (js := js) hjk hjr
    obtain ⟨_, hq⟩ := H.2 j hj'
    have hif : j ∈ fs := by
      apply Classical.byContradiction
      intro h
      have := core_listed2 hc inv hkr (k - j) j rfl h hjlt
      rw [getD_both hjun'] at this
      cases this
    obtain ⟨hst, hap⟩ := hfs j hif oj hojl
    obtain ⟨a1, a2, a3⟩ := Oper.apart_spec hap
    have hoj2 : (withEdges l k js).toArray[j]? = some oj := by rw [List.getElem?_toArray, withEdges_get, hojl]; simp; omega
    obtain ⟨v, hy, hK⟩ := yieldsIn_of_qOp hoj2 hq
    have hgj := noGuard_at hg hojl
    have hsj : ∀ cs b, oj.op ≠ .select cs b := fun cs b e => by unfold stillKind at hst; rw [e] at hst; cases hst
    unfold wpOp
    rw [hoj]
    simp only
    rw [if_pos (wanted_of hgj _)]
    refine .inl ?_
    have hq2 : oj.quietAt P (a.put ok.dst u) C w' v := by
      rcases hy with ⟨_, hv⟩ | ⟨hw, _⟩
      · have := hv w' hw'
        unfold Oper.quietAt at this ⊢
        rwa [execOp_put (ops := l.toArray) oj hsj a ok.dst u a3]
      · rw [wanted_of hgj] at hw; cases hw
    unfold Oper.quietAt at hq2
    unfold Oper.wp
    generalize hrr : (execOp (a.put ok.dst u).eval oj).run P w' = rr at hq2
    cases rr with
    | halt x w2 => simp only [Oper.quietUpon] at hq2
    | ok nx w2 =>
      obtain ⟨z, rfl⟩ := still_value hst hrr
      obtain ⟨rfl, rfl⟩ := hq2
      simp only [Oper.upon]
      have := float_G hg hc hw1 hch hbk hs' hch' hok hfs hsk hgs hLq f _ _ (inv.set hj' hjlt) (ready_mono hkr (by omega)) hK w hw0 u w2 hw' (hrun.same (execOp_put (ops := l.toArray) ok hsk a oj.dst z a1))
      rw [Array.setIfInBounds_comm _ _ hjk, Act.put_comm a z u a2] at this
      exact this

theorem float_T2 (hg : noGuard l = true) (hc : coreB2 .any l.toArray k fs = true) (hw1 : ∀ j ∈ js, j < k ∧ Region.waitsFor .any l.toArray (k + 1) j = true) (hch : Region.chainB .any l.toArray k = true) (hbk : backB l = true)
    (hs' : Region.sinkB .any (withEdges l k js).toArray k = true) (hch' : Region.chainB .any (withEdges l k js).toArray k = true)
    (hok : l[k]? = some ok) (hfs : ∀ i ∈ fs, ∀ oi, l[i]? = some oi → stillKind oi = true ∧ oi.apart l.toArray ok = true) (hsk : ∀ cs b, ok.op ≠ .select cs b) (hgs : g + 1 = (l.drop k).length)
    (hLq : ∀ a, Lq a → ∀ w, C w → ∃ u w', Runs P ok a w u w' ∧ C w' ∧ wpList P l.toArray Q (l.drop (k + 1)) (a.put ok.dst u) w') :
    ∀ (f : Nat) (listed : Array Bool) (a : Act), HeadInv .any (withEdges l k js).toArray k listed →
      wpAnyQL P .any (withEdges l k js).toArray C k (fun listed' a' => Region.seqB .any (withEdges l k js).toArray (g + 1) k listed' = true ∧ Lq a') f listed a →
      ∀ w, C w → wpAny P .any l.toArray Q (f + (g + 1)) listed a w
  | 0, listed, a, inv, ⟨hB, hL⟩, w, hw0 => by
    have hB' := hB
    simp only [Region.seqB, Bool.and_eq_true, decide_eq_true_eq] at hB'
    have hjs : ∀ j ∈ js, listed.getD j false = true := fun j hj => by
      have : k ∈ Region.ready .any (withEdges l k js).toArray listed := by rw [hB'.1]; simp
      obtain ⟨_, o', ho', hall⟩ := mem_ready.1 this
      rw [List.getElem?_toArray, withEdges_get, hok] at ho'
      simp only [Option.map_some, if_true, Option.some.injEq] at ho'
      subst ho'
      exact hall ⟨j, .data⟩ (by simp [hj]) rfl
    have hlen : ((withEdges l k js).drop k).length = g + 1 := by rw [hgs]; simp [withEdges]
    obtain ⟨u, w', hrun, _, hwl⟩ := hLq a hL w hw0
    have hklt : k < l.length := (List.getElem?_eq_some_iff.1 hok).1
    have hwl2 : wpList P l.toArray Q (l.drop k) a w := by
      rw [List.drop_eq_getElem_cons hklt, (List.getElem?_eq_some_iff.1 hok).2]
      unfold wpList
      rw [if_pos (wanted_of (noGuard_at hg hok) _)]
      exact .inl (hrun.wp.2 hwl)
    rw [Nat.zero_add]
    refine any_edges (k := k) hg (g + 1) listed a w hjs ?_
    have := wpAny_of_seq (md := .any) (P := P) (Q' := Q) (ops := (withEdges l k js).toArray) ((withEdges l k js).drop k) k listed a w (fun j => by simp [List.getElem?_drop]) (by rw [hlen]; exact hB)
      (list_edges hg _ k _ a w (fun j => by simp [List.getElem?_drop]) (fun j => by simp [List.getElem?_drop]) hwl2)
    rw [hlen] at this
    exact this
  | f + 1, listed, a, inv, H, w, hw0 => by
    have hklt : k < l.length := (List.getElem?_eq_some_iff.1 hok).1
    rw [show f + 1 + (g + 1) = (f + 1 + g) + 1 by omega]
    refine ⟨fun hr => absurd (by
      rw [List.eq_nil_iff_forall_not_mem]
      intro i hi
      have := ready_less2 hi
      rw [hr] at this
      cases this) H.1, fun i hi => ?_⟩
    by_cases hi' : i ∈ Region.ready .any (withEdges l k js).toArray listed
    · obtain ⟨hik, hq⟩ := H.2 i hi'
      have := (wpOp_edges (P := P) (Q := Q) (k := k) (js := js) hg).1 (wpOp_of_qOp (C := C) hw0 (fun a' w' hw' h' => float_T2 hg hc hw1 hch hbk hs' hch' hok hfs hsk hgs hLq f _ a' (inv.set hi' hik) h' w' hw') hq)
      rw [show f + (g + 1) = f + 1 + g by omega] at this
      exact this
    · have hik : i = k := by
        apply Classical.byContradiction
        intro h
        exact hi' (ready_of_ne2 h hi)
      subst hik
      obtain ⟨a', hL, he⟩ := float_E hc hok hfs hsk (f + 1) listed a inv hi H
      obtain ⟨u, w', hrun, hCw', _⟩ := hLq a' hL w hw0
      have hrun' := hrun.same he.symm
      unfold wpOp
      rw [List.getElem?_toArray, hok]
      simp only
      rw [if_pos (wanted_of (noGuard_at hg hok) _)]
      exact .inl (hrun'.wp.2 (float_G hg hc hw1 hch hbk hs' hch' hok hfs hsk hgs hLq (f + 1) listed a inv hi H w hw0 u w' hCw' hrun'))
end

theorem any_float2 (Pd : World → Prop) {a : Act} {w : World} {l : List Oper} (k : Nat) (fs js : List Nat) (h0 : Pd w) (hB : floatB2 l k fs js = true)
    (h : Nonempty (WOf Pd) → wpQuiet P l.toArray (fun w' => ∃ s : WOf Pd, w' = s.w) (fun a' => ∀ s : WOf Pd, ∀ o, l[k]? = some o → ∃ u w', Runs P o a' s.w u w' ∧ Pd w' ∧ wpList P l.toArray Q (l.drop (k + 1)) (a'.put o.dst u) w') (l.take k) a) :
    wpAny P .any l.toArray Q l.toArray.size (Array.replicate l.toArray.size false) a w := by
  simp only [floatB2, Bool.and_eq_true] at hB
  obtain ⟨⟨⟨⟨⟨⟨hg, hc⟩, hw1⟩, hch⟩, hbk⟩, hm⟩, hT⟩ := hB
  cases ek : l[k]? with
  | none => simp [ek] at hm
  | some ok =>
    simp only [ek, Bool.and_eq_true] at hm
    obtain ⟨hsk', hfs'⟩ := hm
    have hsk : ∀ cs b, ok.op ≠ .select cs b := fun cs b e => by rw [e] at hsk'; cases hsk'
    have hfs : ∀ i ∈ fs, ∀ oi, l[i]? = some oi → stillKind oi = true ∧ oi.apart l.toArray ok = true := fun i hi oi hoi => by
      have := List.all_eq_true.1 hfs' i hi
      simpa only [hoi, Bool.and_eq_true] using this
    have hw1' : ∀ j ∈ js, j < k ∧ Region.waitsFor .any l.toArray (k + 1) j = true := fun j hj => by
      have := List.all_eq_true.1 hw1 j hj
      simpa only [Bool.and_eq_true, decide_eq_true_eq] using this
    simp only [Region.lexTailB, Bool.and_eq_true, decide_eq_true_eq] at hT
    obtain ⟨⟨⟨⟨hsel, hn⟩, hs⟩, hc'⟩, hlex⟩ := hT
    have hklt : k < l.length := (List.getElem?_eq_some_iff.1 ek).1
    have htk : (withEdges l k js).take k = l.take k := by
      apply List.ext_getElem?
      intro j
      rw [List.getElem?_take, List.getElem?_take]
      by_cases hj : j < k
      · rw [if_pos hj, if_pos hj, withEdges_get]
        cases l[j]? with
        | none => rfl
        | some o => simp; omega
      · rw [if_neg hj, if_neg hj]
    have htl : (l.take k).length = k := by simp; omega
    obtain ⟨g, hg1⟩ : ∃ g, (withEdges l k js).toArray.size - k = g + 1 := ⟨(withEdges l k js).toArray.size - k - 1, by rw [withEdges_size]; simp; omega⟩
    have hdl : g + 1 = (l.drop k).length := by rw [← hg1, withEdges_size]; simp
    have H := wpAnyQL_lex (md := .any) (P := P) (ops := (withEdges l k js).toArray) (C := fun w' => ∃ s : WOf Pd, w' = s.w) (g := g + 1) hsel hs hc' hn (l.take k) 0 (Array.replicate (withEdges l k js).toArray.size false) a (fun j hj => by
      have hj' : j < k := by rw [htl] at hj; exact hj
      rw [Nat.zero_add, List.getElem?_toArray, ← htk, List.getElem?_take, if_pos hj']) (by simpa using htl) (by exact qt_inv) (by rw [htl, ← hg1]; exact hlex) (quiet_edge _ _ (fun o ho => by
        obtain ⟨j, hj⟩ := List.getElem?_of_mem (List.mem_of_mem_take ho)
        exact noGuard_at hg hj) (h ⟨⟨w, h0⟩⟩))
    have := float_T2 (P := P) (Q := Q) (C := fun w' => ∃ s : WOf Pd, w' = s.w) (g := g) hg hc hw1' hch hbk hs hc' ek hfs hsk hdl (fun a hL w' ⟨s, hw'⟩ => by
      subst hw'
      obtain ⟨u, w2, hr, hp, hwl⟩ := hL s ok ek
      exact ⟨u, w2, hr, ⟨⟨w2, hp⟩, rfl⟩, hwl⟩) _ _ a (by exact qt_inv) H w ⟨⟨w, h0⟩, rfl⟩
    rw [htl, show k + (g + 1) = l.toArray.size by rw [← hg1, withEdges_size]; simp; omega, withEdges_size] at this
    exact this

/-- In the plain calculus. -/
theorem wp_region_fl2 (Pd : World → Prop) {id : Nat} {a : Act} {w : World} {l : List Oper} (k : Nat) (fs js : List Nat) (h0 : Pd w) (hdr : ∀ a, Pd a → Pd a.drew) (hm : P.follows .mixedOrders = true) (hB : floatB2 l k fs js = true)
    (h : Nonempty (WOf Pd) → wpQuiet P l.toArray (fun w' => ∃ s : WOf Pd, w' = s.w) (fun a' => ∀ s : WOf Pd, ∀ o, l[k]? = some o → ∃ u w', Runs P o a' s.w u w' ∧ Pd w' ∧ wpList P l.toArray Q (l.drop (k + 1)) (a'.put o.dst u) w') (l.take k) a) : (Code.region id l.toArray true).wp P Q a w :=
  wp_region_any hm (any_float2 Pd k fs js (hdr w h0) hB h)
/-- In a round. -/
theorem wpIn_region_fl2 (Pd : World → Prop) {r n : Nat} {id : Nat} {a : Act} {w : World} {l : List Oper} (k : Nat) (fs js : List Nat) (h0 : Pd w) (hdr : ∀ a, Pd a → Pd a.drew) (hm : P.follows .mixedOrders = true) (hnd : noDefer l = true) (hout : ¬ LetsOut Q) (hB : floatB2 l k fs js = true)
    (h : Nonempty (WOf Pd) → wpQuiet P l.toArray (fun w' => ∃ s : WOf Pd, w' = s.w) (fun a' => ∀ s : WOf Pd, ∀ o, l[k]? = some o → ∃ u w', Runs P o a' s.w u w' ∧ Pd w' ∧ wpList P l.toArray Q (l.drop (k + 1)) (a'.put o.dst u) w') (l.take k) a) : (Code.region id l.toArray true).wpIn (Fence.wide.inRound r) n P Q a w :=
  wpIn_region_of_any hm (noDefer_spec hnd) hout (any_float2 Pd k fs js (hdr w h0) hB h)
end
end Go.Proofs.Ythaibmkieflafaa
