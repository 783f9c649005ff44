/- A region that draws its order: quiet operations, whose values are known, beside a chain of operations that turn the world one after the other (calls that may panic, appends, stores). -/
import Derived.Test.YtmdogklgbifacaaDoorPan
namespace Go.Proofs.YtmdogklgbifacaaDoor
open Go.RowKit
set_option linter.unusedVariables false

/-- Does operation x wait, in the end, for operation y? -/
def reachB (l : List Oper) : Nat → Nat → Nat → Bool
  | 0, _, _ => false
  | k + 1, x, y => match l[x]? with | some o => o.after.any fun e => Region.binds .any e && (decide (e.on = y) || reachB l k e.on y) | none => false
theorem reach_spec {l : List Oper} {b : Nat → Bool} (hc : ∀ m o, l[m]? = some o → b m = true → ∀ e ∈ o.after, Region.binds .any e = true → b e.on = true) : ∀ (k x y : Nat), reachB l k x y = true → b x = true → b y = true
  | 0, x, y, h, _ => by cases h
  | k + 1, x, y, h, hx => by
    unfold reachB at h
    cases ho : l[x]? with
    | none => rw [ho] at h; cases h
    | some o =>
      rw [ho] at h
      obtain ⟨e, he, h2⟩ := Array.any_eq_true'.1 h
      simp only [Bool.and_eq_true, Bool.or_eq_true, decide_eq_true_eq] at h2
      have hb := hc x o ho hx e he h2.1
      rcases h2.2 with h3 | h3
      · rw [← h3]; exact hb
      · exact reach_spec hc k e.on y h3 hb
/-- The chain ch: each waits for the one before; lim m: how many of the chain may have come when the quiet operation m comes. -/
def chainB (l : List Oper) (ch : List Nat) (lim : List Nat) : Bool :=
  ((List.range ch.length).all fun i => decide (ch.getD i 0 < l.length) && (decide (i = 0) || reachB l l.length (ch.getD i 0) (ch.getD (i - 1) 0))) &&
  ((List.range l.length).all fun m => decide (m ∈ ch) || (List.range ch.length).all fun i => decide (i < lim.getD m 0) || reachB l l.length (ch.getD i 0) m) &&
  ((List.range ch.length).all fun i => (List.range ch.length).all fun j => decide (i = j) || decide (ch.getD i 0 ≠ ch.getD j 0))
/-- F of each operation, by its number. -/
def Each (F : Nat → Oper → Prop) : Nat → List Oper → Prop
  | _, [] => True
  | k, o :: l => F k o ∧ Each F (k + 1) l
theorem each_of {F : Nat → Oper → Prop} : ∀ (l : List Oper) (k : Nat), Each F k l → ∀ m o, l[m]? = some o → F (k + m) o
  | [], _, _, m, o, h => by simp at h
  | o :: l, k, hE, 0, o', h => by
    have : o = o' := by simpa using h
    subst this
    exact hE.1
  | o :: l, k, hE, m + 1, o', h => by
    have := each_of l (k + 1) hE.2 m o' (by simpa using h)
    rw [show k + 1 + m = k + (m + 1) by omega] at this
    exact this
theorem ev_of {a : Act} {d : Nat} {v : Value} (h : a.eval (.tmp d) = v) : a.tmps[d]?.getD undef = v := by
  rw [← h]; simp [Act.eval, Array.getD_eq_getD_getElem?]
section
variable {P : Program} {Q : Exit → Act → World → Prop}
/-- What is known when some operations have come: s of the chain. -/
structure Sg (l : List Oper) (ch : List Nat) (V : Nat → Value) (CH : Nat → (Nat → Value) → World → Prop) (a : Act) (b : Nat → Bool) (a' : Act) (w' : World) : Prop where
  defers : a'.defers = a.defers
  size : a'.tmps.size = a.tmps.size
  clos : ∀ m o, l[m]? = some o → b m = true → ∀ e ∈ o.after, Region.binds .any e = true → b e.on = true
  val : ∀ m, m < l.length → m ∉ ch → b m = true → ∀ d, dstOf l m = some d → a'.eval (.tmp d) = V m
  rest : ∀ d, (∀ m, m < l.length → dstOf l m ≠ some d) → a'.eval (.tmp d) = a.eval (.tmp d)
  stage : ∃ s, s ≤ ch.length ∧ (∀ i, i < ch.length → (b (ch.getD i 0) = true ↔ i < s)) ∧ CH s (fun d => a'.eval (.tmp d)) w'
/-- THE RULE. CH: what is known of the world (and of the chain's slots) when s of the chain have come. -/
theorem wp_region_stg {id : Nat} {a : Act} {w : World} {l : List Oper} (n : Nat) (ch lim : List Nat) (V : Nat → Value) (CH : Nat → (Nat → Value) → World → Prop)
    (hm : P.follows .mixedOrders = true) (hB : ordB .any 0 l = true) (hn : a.tmps.size = n) (hD : dstsB n l = true) (hC : chainB l ch lim = true) (hg : l.all (fun o => o.guard.isNone) = true)
    (hslot : ∀ s f g w', (∀ i, i < ch.length → ∀ d, dstOf l (ch.getD i 0) = some d → f d = g d) → CH s f w' → CH s g w')
    (h0 : CH 0 (fun d => a.eval (.tmp d)) w.drew)
    (hS : ∀ m, m ∉ ch → ∀ o, l[m]? = some o → ∀ s f a' w', s ≤ lim.getD m 0 → (∀ e ∈ o.after, Region.binds .any e = true → ∀ d, dstOf l e.on = some d → a'.eval (.tmp d) = if e.on ∈ ch then f d else V e.on) → (∀ d, (∀ m, m < l.length → dstOf l m ≠ some d) → a'.eval (.tmp d) = a.eval (.tmp d)) → (∀ e ∈ o.after, Region.binds .any e = true → ∀ i, i < ch.length → ch.getD i 0 = e.on → i < s) → CH s f w' →
      Oper.wp P o a' w' (fun a'' w'' => a'' = a'.put o.dst (V m) ∧ w'' = w') Q)
    (hT : ∀ s, s < ch.length → ∀ o, l[ch.getD s 0]? = some o → ∀ f a' w', (∀ e ∈ o.after, Region.binds .any e = true → ∀ d, dstOf l e.on = some d → a'.eval (.tmp d) = if e.on ∈ ch then f d else V e.on) → (∀ d, (∀ m, m < l.length → dstOf l m ≠ some d) → a'.eval (.tmp d) = a.eval (.tmp d)) → a'.defers = a.defers → CH s f w' →
      Oper.wp P o a' w' (fun a'' w'' => ∃ v, a'' = a'.put o.dst v ∧ CH (s + 1) (fun d => if o.dst = some d then v else f d) w'') Q)
    (hend : ∀ f a' w', a'.defers = a.defers → a'.tmps.size = a.tmps.size → (∀ d, (∀ m, m < l.length → dstOf l m ≠ some d) → a'.eval (.tmp d) = a.eval (.tmp d)) → CH ch.length f w' → Q .normal a' w') : (Code.region id l.toArray true).wp P Q a w := by
  simp only [chainB, Bool.and_eq_true] at hC
  obtain ⟨⟨hC1, hC2⟩, hC3⟩ := hC
  have hord := ordB_spec l 0 hB
  have hdist : ∀ m j, m < l.length → j < l.length → m ≠ j → ∀ d, dstOf l m = some d → dstOf l j ≠ some d := fun m j hm hj hne d h1 h2 => by
    have hDm := List.all_eq_true.1 hD m (List.mem_range.2 hm)
    simp only [Bool.and_eq_true] at hDm
    have h3 := List.all_eq_true.1 hDm.2 j (List.mem_range.2 hj)
    rw [h1, h2] at h3
    simp only [Bool.or_eq_true, decide_eq_true_eq, ne_eq, not_true_eq_false, or_false] at h3
    exact hne h3
  have hin : ∀ m d, m < l.length → dstOf l m = some d → d < n := fun m d hm h1 => by
    have hDm := List.all_eq_true.1 hD m (List.mem_range.2 hm)
    simp only [Bool.and_eq_true] at hDm
    rw [h1] at hDm
    simpa using hDm.1
  have hchl : ∀ i, i < ch.length → ch.getD i 0 < l.length := fun i hi => by
    have := List.all_eq_true.1 hC1 i (List.mem_range.2 hi)
    simp only [Bool.and_eq_true, decide_eq_true_eq] at this
    exact this.1
  have hchd : ∀ i j, i < ch.length → j < ch.length → ch.getD i 0 = ch.getD j 0 → i = j := fun i j hi hj e => by
    have := List.all_eq_true.1 (List.all_eq_true.1 hC3 i (List.mem_range.2 hi)) j (List.mem_range.2 hj)
    simp only [Bool.or_eq_true, decide_eq_true_eq] at this
    rcases this with h | h
    · exact h
    · exact absurd e h
  have hchm : ∀ i, i < ch.length → ch.getD i 0 ∈ ch := fun i hi => by rw [List.getD_eq_getElem?_getD, List.getElem?_eq_getElem hi]; exact List.getElem_mem hi
  refine wp_region_inv (fun a b a' w' => Sg l ch V CH a b a' w') hm hB ⟨rfl, rfl, fun m o _ h => (by cases h), fun m _ _ h => (by cases h), fun _ _ => rfl, 0, Nat.zero_le _, fun i _ => ⟨fun h => (by cases h), fun h => absurd h (by omega)⟩, h0⟩ ?_ ?_
  · suffices H : ∀ (k : List Oper) (m : Nat), (∀ j, k[j]? = l[m + j]?) → Steps P .any Q (fun b a' w' => Sg l ch V CH a b a' w') m k from H l 0 (fun j => by rw [Nat.zero_add])
    intro k
    induction k with
    | nil => intro m _; trivial
    | cons o k ih =>
      intro m hk
      have hom : l[m]? = some o := by have := hk 0; simpa using this.symm
      have hml : m < l.length := (List.getElem?_eq_some_iff.1 hom).1
      have hdm : dstOf l m = o.dst := by unfold dstOf; rw [hom]; rfl
      refine ⟨⟨?_, ?_⟩, ih (m + 1) (fun j => by have := hk (j + 1); rw [show m + (j + 1) = m + 1 + j by omega] at this; simpa using this)⟩
      · have := List.all_eq_true.1 hg o (List.mem_of_getElem? hom)
        simpa using this
      · intro b a' w' hbm hdep hJ
        obtain ⟨s, hs, hst, hch⟩ := hJ.stage
        have hel : ∀ e ∈ o.after, Region.binds .any e = true → e.on < l.length := fun e he hb => by
          have := hord m o hom e he hb; omega
        have hde : ∀ e ∈ o.after, Region.binds .any e = true → ∀ d, dstOf l e.on = some d → a'.eval (.tmp d) = if e.on ∈ ch then a'.eval (.tmp d) else V e.on := fun e he hb d hd => by
          by_cases hec : e.on ∈ ch
          · rw [if_pos hec]
          · rw [if_neg hec]; exact hJ.val e.on (hel e he hb) hec (hdep e he hb) d hd
        have hlo : ∀ e ∈ o.after, Region.binds .any e = true → ∀ i, i < ch.length → ch.getD i 0 = e.on → i < s := fun e he hb i hi hie => (hst i hi).1 (by rw [hie]; exact hdep e he hb)
        have hclos : ∀ m2 o2, l[m2]? = some o2 → upd b m m2 = true → ∀ e ∈ o2.after, Region.binds .any e = true → upd b m e.on = true := fun m2 o2 h2 hu e he hb => by
          unfold upd at hu ⊢
          by_cases e1 : e.on = m
          · rw [if_pos e1]
          · rw [if_neg e1]
            by_cases e2 : m2 = m
            · subst e2
              rw [hom] at h2
              injection h2 with h2
              subst h2
              exact hdep e he hb
            · rw [if_neg e2] at hu; exact hJ.clos m2 o2 h2 hu e he hb
        have hrest : ∀ (v : Value) d, (∀ m, m < l.length → dstOf l m ≠ some d) → (a'.put o.dst v).eval (.tmp d) = a.eval (.tmp d) := fun v d hd => by
          cases hod : o.dst with
          | none => exact hJ.rest d hd
          | some d' =>
            rw [put_ne _ _ _ _ (fun he => hd m hml (by rw [hdm, hod, he]))]
            exact hJ.rest d hd
        by_cases hmc : m ∈ ch
        · obtain ⟨i, hi, him⟩ := List.mem_iff_getElem.1 hmc
          have hgi : ch.getD i 0 = m := by rw [List.getD_eq_getElem?_getD, List.getElem?_eq_getElem hi]; exact him
          have his : ¬ i < s := fun h => by have := (hst i hi).2 h; rw [hgi, hbm] at this; cases this
          have hsi : i = s := by
            rcases Nat.lt_or_ge s i with h | h
            · exfalso
              have h1 := List.all_eq_true.1 hC1 i (List.mem_range.2 hi)
              simp only [Bool.and_eq_true, Bool.or_eq_true, decide_eq_true_eq] at h1
              have h2 : reachB l l.length (ch.getD i 0) (ch.getD (i - 1) 0) = true := h1.2.resolve_left (by omega)
              rw [hgi] at h2
              have h3 := reach_spec (b := upd b m) hclos _ _ _ h2 (by unfold upd; rw [if_pos rfl])
              unfold upd at h3
              by_cases e : ch.getD (i - 1) 0 = m
              · have := hchd (i - 1) i (by omega) hi (by rw [e, hgi]); omega
              · rw [if_neg e] at h3
                have := (hst (i - 1) (by omega)).1 h3
                omega
            · omega
          subst hsi
          refine Oper.wp_mono (fun a'' w'' h => ?_) (hT i hi o (by rw [hgi]; exact hom) (fun d => a'.eval (.tmp d)) a' w' hde hJ.rest hJ.defers hch)
          obtain ⟨v, rfl, hpw⟩ := h
          refine ⟨by rw [put_defers]; exact hJ.defers, by rw [put_size]; exact hJ.size, hclos, fun j hj hjc hu d hd => ?_, hrest v, i + 1, hi, fun j hj => ?_, ?_⟩
          · unfold upd at hu
            by_cases e : j = m
            · exact absurd (e ▸ hmc) hjc
            · rw [if_neg e] at hu
              have hv := hJ.val j hj hjc hu d hd
              cases hod : o.dst with
              | none => exact hv
              | some d' =>
                rw [put_ne _ _ _ _ (fun he => hdist j m hj hml e d hd (by rw [hdm, hod, he]))]
                exact hv
          · unfold upd
            by_cases e : ch.getD j 0 = m
            · have : j = i := hchd j i hj hi (by rw [e, hgi])
              subst this
              rw [if_pos e]
              exact ⟨fun _ => by omega, fun _ => rfl⟩
            · rw [if_neg e]
              have hne : j ≠ i := fun h => e (by rw [h, hgi])
              constructor
              · intro h; have := (hst j hj).1 h; omega
              · intro h; exact (hst j hj).2 (by omega)
          · refine hslot _ _ _ _ (fun j hj d hd => ?_) hpw
            cases hod : o.dst with
            | none => rw [if_neg (by simp)]; rfl
            | some d' =>
              by_cases e : d' = d
              · subst e
                rw [if_pos rfl, put_get _ _ _ (by rw [hJ.size, hn]; exact hin m d' hml (by rw [hdm, hod]))]
              · rw [if_neg (fun h => e (Option.some.inj h)), put_ne _ _ _ _ e]
        · have hlim : s ≤ lim.getD m 0 := by
            rcases Nat.lt_or_ge (lim.getD m 0) s with h | h
            · exfalso
              have h1 := List.all_eq_true.1 hC2 m (List.mem_range.2 hml)
              simp only [Bool.or_eq_true, decide_eq_true_eq, hmc, false_or] at h1
              have h2 := List.all_eq_true.1 h1 (lim.getD m 0) (List.mem_range.2 (by omega))
              simp only [Bool.or_eq_true, decide_eq_true_eq] at h2
              have h3 := h2.resolve_left (by omega)
              have h4 := reach_spec (b := b) hJ.clos _ _ _ h3 ((hst _ (by omega)).2 h)
              rw [hbm] at h4; cases h4
            · exact h
          refine Oper.wp_mono (fun a'' w'' h => ?_) (hS m hmc o hom s (fun d => a'.eval (.tmp d)) a' w' hlim hde hJ.rest hlo hch)
          obtain ⟨rfl, rfl⟩ := h
          refine ⟨by rw [put_defers]; exact hJ.defers, by rw [put_size]; exact hJ.size, hclos, fun j hj hjc hu d hd => ?_, hrest (V m), s, hs, fun j hj => ?_, ?_⟩
          · unfold upd at hu
            by_cases e : j = m
            · subst e
              rw [hdm] at hd
              rw [hd]
              exact put_get _ _ _ (by rw [hJ.size, hn]; exact hin j d hml (by rw [hdm, hd]))
            · rw [if_neg e] at hu
              have hv := hJ.val j hj hjc hu d hd
              cases hod : o.dst with
              | none => exact hv
              | some d' =>
                rw [put_ne _ _ _ _ (fun he => hdist j m hj hml e d hd (by rw [hdm, hod, he]))]
                exact hv
          · unfold upd
            rw [if_neg (fun (e : ch.getD j 0 = m) => hmc (e ▸ hchm j hj))]
            exact hst j hj
          · refine hslot _ _ _ _ (fun j hj d hd => ?_) hch
            cases hod : o.dst with
            | none => rfl
            | some d' => exact (put_ne _ _ _ _ (fun he => hdist (ch.getD j 0) m (hchl j hj) hml (fun (e : ch.getD j 0 = m) => hmc (e ▸ hchm j hj)) d hd (by rw [hdm, hod, he]))).symm
  · intro b a' w' hb hJ
    obtain ⟨s, hs, hst, hch⟩ := hJ.stage
    have : s = ch.length := by
      rcases Nat.lt_or_ge s ch.length with h | h
      · have := (hst s h).1 (hb _ (hchl s h)); omega
      · omega
    subst this
    exact hend _ a' w' hJ.defers hJ.size hJ.rest hch
/-- The same, the quiet operations told one by one. -/
theorem wp_region_stg1 {id : Nat} {a : Act} {w : World} {l : List Oper} (n : Nat) (ch lim : List Nat) (V : Nat → Value) (CH : Nat → (Nat → Value) → World → Prop)
    (hm : P.follows .mixedOrders = true) (hB : ordB .any 0 l = true) (hn : a.tmps.size = n) (hD : dstsB n l = true) (hC : chainB l ch lim = true) (hg : l.all (fun o => o.guard.isNone) = true)
    (hslot : ∀ s f g w', (∀ i, i < ch.length → ∀ d, dstOf l (ch.getD i 0) = some d → f d = g d) → CH s f w' → CH s g w')
    (h0 : CH 0 (fun d => a.eval (.tmp d)) w.drew)
    (hS : Each (fun m o => m ∉ ch → ∀ s f a' w', s ≤ lim.getD m 0 → (∀ e ∈ o.after, Region.binds .any e = true → ∀ d, dstOf l e.on = some d → a'.eval (.tmp d) = if e.on ∈ ch then f d else V e.on) → (∀ d, (∀ m, m < l.length → dstOf l m ≠ some d) → a'.eval (.tmp d) = a.eval (.tmp d)) → (∀ e ∈ o.after, Region.binds .any e = true → ∀ i, i < ch.length → ch.getD i 0 = e.on → i < s) → CH s f w' →
      Oper.wp P o a' w' (fun a'' w'' => a'' = a'.put o.dst (V m) ∧ w'' = w') Q) 0 l)
    (hT : ∀ s, s < ch.length → ∀ o, l[ch.getD s 0]? = some o → ∀ f a' w', (∀ e ∈ o.after, Region.binds .any e = true → ∀ d, dstOf l e.on = some d → a'.eval (.tmp d) = if e.on ∈ ch then f d else V e.on) → (∀ d, (∀ m, m < l.length → dstOf l m ≠ some d) → a'.eval (.tmp d) = a.eval (.tmp d)) → a'.defers = a.defers → CH s f w' →
      Oper.wp P o a' w' (fun a'' w'' => ∃ v, a'' = a'.put o.dst v ∧ CH (s + 1) (fun d => if o.dst = some d then v else f d) w'') Q)
    (hend : ∀ f a' w', a'.defers = a.defers → a'.tmps.size = a.tmps.size → (∀ d, (∀ m, m < l.length → dstOf l m ≠ some d) → a'.eval (.tmp d) = a.eval (.tmp d)) → CH ch.length f w' → Q .normal a' w') : (Code.region id l.toArray true).wp P Q a w :=
  wp_region_stg n ch lim V CH hm hB hn hD hC hg hslot h0 (fun m hm o ho => by have := each_of l 0 hS m o ho; rw [Nat.zero_add] at this; exact this hm) hT hend
end
end Go.Proofs.YtmdogklgbifacaaDoor
