/- A region that draws its order: reads, and calls that may make memory, in whatever order; behind them a tail in one forced order. In the plain calculus, in the wide fence, in a round. -/
import Derived.StillTail
import Derived.Test.YtmdogklgbifacaaDoorExt
namespace Go.Proofs.YtmdogklgbifacaaDoor
open Go.RowKit

/-- The wide fence, or a round of it. -/
def WideF (F : Fence) : Prop := F = Fence.wide ∨ ∃ l, F = Fence.wide.inRound l
theorem WideF.plain : WideF Fence.wide := .inl rfl
theorem WideF.round (l : Nat) : WideF (Fence.wide.inRound l) := .inr ⟨l, rfl⟩

section
variable {P : Program} {ops : Array Oper} {md : Region.Mode} {C : World → Prop} {Q : Exit → Act → World → Prop} {F : Fence} {n : Nat}

theorem rowsIn_of_rows_wide {row : String} {args : Array Value} {w : World} {R : Value → World → Prop} (h : Rows P row args w R) : RowsIn Fence.wide n P row args w R := fun c cs _ => by
  obtain ⟨v, w', r, s⟩ := h c cs
  exact ⟨v, w', r, stepsIn_wide.2 s⟩
theorem uponIn_of_upon_wide {o : Oper} {a : Act} {next : Act → World → Prop} {r : Result Next} (h : o.upon P a next Q r) : o.uponIn Fence.wide n P a next Q r := by
  cases r with
  | ok x w' =>
    cases x <;> simp only [Oper.upon, Oper.uponIn] at h ⊢ <;>
      first
        | exact h
        | exact ⟨fun h => by simp [Fence.wide] at h, callsIn_wide.2 h⟩
        | exact ⟨fun h => by simp [Fence.wide] at h, rowsIn_of_rows_wide h⟩
  | halt x w' => cases x <;> simp only [Oper.upon, Oper.uponIn] at h ⊢ <;> exact h
theorem wpIn_of_wp_wf (hF : WideF F) {o : Oper} {a : Act} {w : World} {next : Act → World → Prop} (hd : ∀ c, o.op ≠ .defer c) (h : o.wp P a w next Q) : o.wpIn F n P a w next Q := by
  rcases hF with rfl | ⟨l, rfl⟩
  · exact ⟨fun _ _ => trivial, by rw [show Fence.wide.round = none from rfl, Oper.semAt_none]; exact uponIn_of_upon_wide h⟩
  · exact wpIn_of_wp hd h
theorem WideF.fn (hF : WideF F) (f : FuncId) : F.fn f := by
  rcases hF with rfl | ⟨l, rfl⟩ <;> trivial

theorem wpOpIn_of_qOp (hF : WideF F) {i : Nat} {a : Act} {K : Act → Prop} {K' : Act → World → Prop} {w : World} (hd : ∀ o ∈ ops, ∀ c, o.op ≠ .defer c) (hC : C w) (h : ∀ a w', C w' → K a → K' a w') (hh : qOp P ops C i K a) : wpOpIn F n P ops Q i K' a w := by
  unfold qOp at hh
  unfold wpOpIn
  split
  · rename_i ho; simp only [ho] at hh; exact h _ _ hC hh
  · rename_i o ho
    simp only [ho] at hh
    split
    · rename_i hw; simp only [hw, if_true] at hh; exact wpIn_of_wp_wf hF (hd o (Array.mem_of_getElem? ho)) (Oper.wp_of_quiet hC h hh)
    · rename_i hw; simp only [hw] at hh; exact ⟨fun f _ => hF.fn f, h _ _ hC hh⟩

/-- Whatever order is picked for the head. -/
def wpAnyQL (P : Program) (md : Region.Mode) (ops : Array Oper) (C : World → Prop) (k : Nat) (L : Array Bool → Act → Prop) : Nat → Array Bool → Act → Prop
  | 0, listed, a => L listed a
  | f + 1, listed, a =>
    Region.ready md ops listed ≠ [] ∧ ∀ i ∈ Region.ready md ops listed, i < k ∧ qOp P ops C i (wpAnyQL P md ops C k L f (listed.setIfInBounds i true)) a

theorem wpAny_of_headQ {k g : Nat} {L : Array Bool → Act → Prop} (hL : ∀ listed a w, C w → L listed a → wpAny P md ops Q g listed a w) :
    ∀ (f : Nat) (listed : Array Bool) (a : Act) (w : World), C w → wpAnyQL P md ops C k L f listed a → wpAny P md ops Q (f + g) listed a w
  | 0, listed, a, w, hw, h => by rw [Nat.zero_add]; exact hL _ _ _ hw h
  | f + 1, listed, a, w, hw, h => by
    rw [show f + 1 + g = (f + g) + 1 by omega]
    exact ⟨fun h0 => absurd h0 h.1, fun i hi => wpOp_of_qOp hw (fun a' w' hw' h' => wpAny_of_headQ hL f _ a' w' hw' h') (h.2 i hi).2⟩
theorem wpAnyIn_of_headQ (hF : WideF F) (hd : ∀ o ∈ ops, ∀ c, o.op ≠ .defer c) {k g : Nat} {L : Array Bool → Act → Prop} (hL : ∀ listed a w, C w → L listed a → wpAnyIn F n P md ops Q g listed a w) :
    ∀ (f : Nat) (listed : Array Bool) (a : Act) (w : World), C w → wpAnyQL P md ops C k L f listed a → wpAnyIn F n P md ops Q (f + g) listed a w
  | 0, listed, a, w, hw, h => by rw [Nat.zero_add]; exact hL _ _ _ hw h
  | f + 1, listed, a, w, hw, h => by
    rw [show f + 1 + g = (f + g) + 1 by omega]
    exact ⟨fun h0 => absurd h0 h.1, fun i hi => wpOpIn_of_qOp hF hd hw (fun a' w' hw' h' => wpAnyIn_of_headQ hF hd hL f _ a' w' hw' h') (h.2 i hi).2⟩

theorem wpAnyQL_first {k i : Nat} {oi : Oper} {v : Value} {L : Array Bool → Act → Prop} (hi : ops[i]? = some oi) (hsel : ∀ (j : Nat) (o : Oper) cs b, ops[j]? = some o → o.op ≠ .select cs b)
    (hs : Region.sinkB md ops k = true) (hc : Region.chainB md ops k = true) (hk : k < ops.size) (hik : i < k)
    (hdone : ∀ listed a, L listed a → ∀ j ∈ Region.ready md ops listed, k ≤ j) :
    ∀ (f : Nat) (listed : Array Bool) (a : Act), HeadInv md ops k listed →
      (∀ j oj, ops[j]? = some oj → j ≠ i → listed.getD j true = false → (∀ e ∈ oj.after, Region.binds md e = true → e.on ≠ i) → oi.apart ops oj = true) →
      i ∈ Region.ready md ops listed → YieldsIn P ops C oi v a →
      wpAnyQL P md ops C k L f (listed.setIfInBounds i true) (a.put oi.dst v) → wpAnyQL P md ops C k L (f + 1) listed a := by
  intro f
  induction f with
  | zero =>
    intro listed a inv _ hr hy H
    have hun := (mem_ready.1 hr).1
    refine ⟨fun h => (by rw [h] at hr; cases hr), fun j hj => ?_⟩
    have hjn : j < k := by
      rcases Nat.lt_or_ge j k with h | h
      · exact h
      · exact absurd hj (tail_waits hs hc hk inv _ i rfl hik hun j h)
    refine ⟨hjn, ?_⟩
    by_cases hji : j = i
    · subst hji; exact hy.qOp hi H
    · have := hdone _ _ H j (ready_mono hj hji)
      omega
  | succ f ih =>
    intro listed a inv hfree hr hy H
    have hun := (mem_ready.1 hr).1
    refine ⟨fun h => (by rw [h] at hr; cases hr), fun j hj => ?_⟩
    have hjn : j < k := by
      rcases Nat.lt_or_ge j k with h | h
      · exact h
      · exact absurd hj (tail_waits hs hc hk inv _ i rfl hik hun j h)
    refine ⟨hjn, ?_⟩
    by_cases hji : j = i
    · subst hji; exact hy.qOp hi H
    · have h1 := (H.2 j (ready_mono hj hji)).2
      obtain ⟨hjun, oj, hoj, hall⟩ := mem_ready.1 hj
      have hnot : ∀ e ∈ oj.after, Region.binds md e = true → e.on ≠ i := fun e he hb heq => by
        have h1 := hall e he hb
        rw [heq, getD_both hun] at h1
        cases h1
      have h2 := qOp_put hoj (hfree j oj hoj hji hjun hnot) (fun cs b => hsel i oi cs b hi) (fun cs b => hsel j oj cs b hoj) hy h1
      have hfree' : ∀ m om, ops[m]? = some om → m ≠ i → (listed.setIfInBounds j true).getD m true = false →
          (∀ e ∈ om.after, Region.binds md e = true → e.on ≠ i) → oi.apart ops om = true := fun m om hom hmi hun hno => by
        refine hfree m om hom hmi ?_ hno
        by_cases hjm : j = m
        · subst hjm; exact hjun
        · rw [getD_set_ne true hjm] at hun; exact hun
      refine qOp_mono (fun a' h3 => ih (listed.setIfInBounds j true) a' (inv.set hj hjn) hfree' (ready_mono hr (Ne.symm hji)) h3.1 ?_) h2
      rw [Array.setIfInBounds_comm _ _ hji]
      exact h3.2

theorem wpAnyQL_lex {k g : Nat} {Lq : Act → Prop} (hsel : Region.noSelect ops = true) (hs : Region.sinkB md ops k = true) (hc : Region.chainB md ops k = true) (hk : k < ops.size) :
    ∀ (l : List Oper) (m : Nat) (listed : Array Bool) (a : Act), (∀ j, j < l.length → l[j]? = ops[m + j]?) → m + l.length = k → HeadInv md ops k listed →
    Region.lexHead md ops g l.length m listed = true → wpQuiet P ops C Lq l a →
    wpAnyQL P md ops C k (fun listed' a' => Region.seqB md ops g k listed' = true ∧ Lq a') l.length listed a
  | [], m, listed, a, _, hm, _, hB, h => by
    have : m = k := by simpa using hm
    subst this
    exact ⟨by simpa [Region.lexHead] using hB, h⟩
  | o :: l, m, listed, a, hl, hm, inv, hB, h => by
    have h0 : ops[m]? = some o := by simpa using (hl 0 (by simp)).symm
    simp only [List.length_cons, Region.lexHead, Bool.and_eq_true] at hB
    obtain ⟨⟨hr, hf⟩, hB'⟩ := hB
    have hmk : m < k := by simp only [List.length_cons] at hm; omega
    have hr' : m ∈ Region.ready md ops listed := by simpa using hr
    have hst : qOp P ops C m (wpQuiet P ops C Lq l) a := by unfold qOp; simp only [h0]; exact h
    obtain ⟨v, hy, hK⟩ := yieldsIn_of_qOp h0 hst
    exact wpAnyQL_first h0 (Region.noSelect_spec hsel) hs hc hk hmk (fun listed' a' hL => seqB_ready hL.1) l.length listed a inv (Region.free_spec h0 hf) hr' hy
      (wpAnyQL_lex hsel hs hc hk l (m + 1) _ _ (fun j hj => by have := hl (j + 1) (by simp; omega); simpa [Nat.add_assoc, Nat.add_comm 1 j] using this) (by simp only [List.length_cons] at hm; omega) (inv.set hr' hmk) hB' hK)

theorem wpAnyIn_of_seq : ∀ (l : List Oper) (k : Nat) (listed : Array Bool) (a : Act) (w : World), (∀ j, l[j]? = ops[k + j]?) →
    Region.seqB md ops l.length k listed = true → wpListIn F n P ops Q l a w → wpAnyIn F n P md ops Q l.length listed a w
  | [], _, _, _, _, _, hB, h => ⟨by simpa [Region.seqB] using hB, h⟩
  | o :: l, k, listed, a, w, hl, hB, h => by
    have h0 : ops[k]? = some o := by simpa using (hl 0).symm
    simp only [List.length_cons, Region.seqB, Bool.and_eq_true, decide_eq_true_eq] at hB
    refine ⟨fun h1 => (by rw [hB.1] at h1; cases h1), fun i hi => ?_⟩
    rw [hB.1] at hi
    have hik : i = k := by simpa using hi
    subst hik
    have hw : wpOpIn F n P ops Q i (wpListIn F n P ops Q l) a w := by unfold wpOpIn; simp only [h0]; exact h
    exact wpOpIn_mono (fun a' w' h' => wpAnyIn_of_seq l (i + 1) _ a' w' (fun j => by have := hl (j + 1); simpa [Nat.add_assoc, Nat.add_comm 1 j] using this) hB.2 h') hw

theorem qt_inv {l : List Oper} {k : Nat} : HeadInv .any l.toArray k (Array.replicate l.toArray.size false) :=
  ⟨by simp, fun j oj _ hl => (by rw [getD_replicate_false] at hl; cases hl), fun t _ ht => getD_in (by simpa using ht) (getD_replicate_false _ _)⟩

/-- In the plain calculus. -/
theorem wp_region_qt (Pd : World → Prop) {id : Nat} {a : Act} {w : World} {l : List Oper} (k : Nat) (h0 : Pd w) (hup : ∀ a b, Pd a → Below a.heap.size a b → Pd b) (hm : P.follows .mixedOrders = true) (hB : Region.lexTailB .any l.toArray k = true)
    (h : Nonempty (WOf Pd) → wpQuiet P l.toArray (fun w' => ∃ s : WOf Pd, w' = s.w) (fun a' => ∀ s : WOf Pd, wpList P l.toArray Q (l.drop k) a' s.w) (l.take k) a) : (Code.region id l.toArray true).wp P Q a w := by
  simp only [Region.lexTailB, Bool.and_eq_true, decide_eq_true_eq] at hB
  obtain ⟨⟨⟨⟨hsel, hn⟩, hs⟩, hc⟩, hlex⟩ := hB
  have hn' : k < l.length := by simpa using hn
  have htl : (l.take k).length = k := by simp; omega
  have hdl : (l.drop k).length = l.toArray.size - k := by simp
  have H := wpAnyQL_lex (md := .any) (C := fun w' => ∃ s : WOf Pd, w' = s.w) (g := l.toArray.size - k) hsel hs hc hn (l.take k) 0 _ a (fun j hj => by
    have hj' : j < k := by rw [htl] at hj; exact hj
    simp [hj']) (by simpa using htl) qt_inv (by rw [htl]; exact hlex) (h ⟨⟨w, h0⟩⟩)
  refine wp_region_any hm ?_
  have := wpAny_of_headQ (Q := Q) (g := l.toArray.size - k) (fun listed a' w' hw' hL => by
    obtain ⟨s, rfl⟩ := hw'
    have := wpAny_of_seq (md := .any) (Q' := Q) (l.drop k) k listed a' s.w (fun j => by simp [List.getElem?_drop]) (by rw [hdl]; exact hL.1) (hL.2 s)
    rwa [hdl] at this) _ _ _ _ ⟨⟨_, hup w w.drew h0 (Below.refl _ _).drew⟩, rfl⟩ H
  rw [htl, show k + (l.toArray.size - k) = l.toArray.size by omega] at this
  exact this

/-- In the wide fence or a round of it. -/
theorem wpIn_region_qt (hF : WideF F) (Pd : World → Prop) {id : Nat} {a : Act} {w : World} {l : List Oper} (k : Nat) (h0 : Pd w) (hup : ∀ a b, Pd a → Below a.heap.size a b → Pd b) (hm : P.follows .mixedOrders = true) (hnd : noDefer l = true) (hB : Region.lexTailB .any l.toArray k = true)
    (h : Nonempty (WOf Pd) → wpQuiet P l.toArray (fun w' => ∃ s : WOf Pd, w' = s.w) (fun a' => ∀ s : WOf Pd, wpListIn F n P l.toArray Q (l.drop k) a' s.w) (l.take k) a) : (Code.region id l.toArray true).wpIn F n P Q a w := by
  simp only [Region.lexTailB, Bool.and_eq_true, decide_eq_true_eq] at hB
  obtain ⟨⟨⟨⟨hsel, hn⟩, hs⟩, hc⟩, hlex⟩ := hB
  have hn' : k < l.length := by simpa using hn
  have htl : (l.take k).length = k := by simp; omega
  have hdl : (l.drop k).length = l.toArray.size - k := by simp
  have H := wpAnyQL_lex (md := .any) (C := fun w' => ∃ s : WOf Pd, w' = s.w) (g := l.toArray.size - k) hsel hs hc hn (l.take k) 0 _ a (fun j hj => by
    have hj' : j < k := by rw [htl] at hj; exact hj
    simp [hj']) (by simpa using htl) qt_inv (by rw [htl]; exact hlex) (h ⟨⟨w, h0⟩⟩)
  refine wpIn_region_any hm ?_
  have := wpAnyIn_of_headQ (n := n) hF (noDefer_spec hnd) (Q := Q) (g := l.toArray.size - k) (fun listed a' w' hw' hL => by
    obtain ⟨s, rfl⟩ := hw'
    have := wpAnyIn_of_seq (md := .any) (Q := Q) (l.drop k) k listed a' s.w (fun j => by simp [List.getElem?_drop]) (by rw [hdl]; exact hL.1) (hL.2 s)
    rwa [hdl] at this) _ _ _ _ ⟨⟨_, hup w w.drew h0 (Below.refl _ _).drew⟩, rfl⟩ H
  rw [htl, show k + (l.toArray.size - k) = l.toArray.size by omega] at this
  exact this

theorem wpAnyIn_of_quiet (hF : WideF F) (hd : ∀ o ∈ ops, ∀ c, o.op ≠ .defer c) {K : Act → Prop} (hQ : ∀ a w, C w → K a → Q .normal a w) : ∀ (fuel : Nat) (listed : Array Bool) (a : Act) (w : World), C w →
    wpAnyQ P md ops C K fuel listed a → wpAnyIn F n P md ops Q fuel listed a w
  | 0, _, _, _, hw, h => ⟨h.1, hQ _ _ hw h.2⟩
  | fuel + 1, _, _, _, hw, h => ⟨fun h0 => hQ _ _ hw (h.1 h0), fun i hi => wpOpIn_of_qOp hF hd hw (fun a' w' hw' => wpAnyIn_of_quiet hF hd hQ fuel _ a' w' hw') (h.2 i hi)⟩

/-- No tail. -/
theorem wpIn_region_ext' (hF : WideF F) (Pd : World → Prop) {id : Nat} {a : Act} {w : World} {l : List Oper} (h0 : Pd w) (hup : ∀ a b, Pd a → Below a.heap.size a b → Pd b) (hm : P.follows .mixedOrders = true) (hnd : noDefer l = true) (hB : Region.lexB .any l.toArray = true)
    (h : Nonempty (WOf Pd) → wpQuiet P l.toArray (fun w' => ∃ s : WOf Pd, w' = s.w) (fun a' => ∀ w', (∃ s : WOf Pd, w' = s.w) → Q .normal a' w') l a) : (Code.region id l.toArray true).wpIn F n P Q a w := by
  simp only [Region.lexB, Bool.and_eq_true] at hB
  refine wpIn_region_any hm (wpAnyIn_of_quiet (C := fun w' => ∃ s : WOf Pd, w' = s.w) (K := fun a' => ∀ w', (∃ s : WOf Pd, w' = s.w) → Q .normal a' w') hF (noDefer_spec hnd) (fun _ w' hw' h => h w' hw') _ _ _ _ ⟨⟨_, hup w w.drew h0 (Below.refl _ _).drew⟩, rfl⟩ ?_)
  have := wpAnyQ_lex (C := fun w' => ∃ s : WOf Pd, w' = s.w) (md := .any) hB.1 l 0 (Array.replicate l.toArray.size false) a (by simp) (by simpa using hB.2) (h ⟨⟨w, h0⟩⟩)
  simpa using this
end
end Go.Proofs.YtmdogklgbifacaaDoor
