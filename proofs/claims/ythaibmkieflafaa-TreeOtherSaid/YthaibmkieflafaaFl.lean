/- A region that draws its order: operation 0 reads and waits for nothing, and only the tail's second operation waits for it; a quiet head; a tail whose first operation makes memory. -/
import Derived.Test.YthaibmkieflafaaQt
import Derived.Great.BuildSlice
namespace Go.Proofs.Ythaibmkieflafaa
open Go.RowKit
set_option linter.unusedVariables false

/-- The operations with one more edge: number k waits for number 0. -/
def withEdge (l : List Oper) (k : Nat) : List Oper :=
  l.mapIdx fun i o => if i = k then { o with after := o.after.push ⟨0, .data⟩ } else o
def noGuard (l : List Oper) : Bool := l.all fun o => o.guard.isNone
/-- Every head operation but 0 leads on to k. -/
def coreB (md : Region.Mode) (ops : Array Oper) (k : Nat) : Bool :=
  (List.range k).all fun i => decide (i = 0) || (List.range (k + 1)).any fun j => decide (i < j) && Region.waitsFor md ops j i
def floatB (l : List Oper) (k : Nat) : Bool :=
  noGuard l && decide (0 < k) && coreB .any l.toArray k && Region.waitsFor .any l.toArray (k + 1) 0 && Region.chainB .any l.toArray k &&
    (match l[0]?, l[k]? with
     | some o0, some ok => o0.apart l.toArray ok && o0.after.isEmpty && (match o0.op with | .load _ _ => true | .move _ => true | _ => false) && (match ok.op with | .buildSlice .. => true | _ => false)
     | _, _ => false) &&
    Region.lexTailB .any (withEdge l k).toArray k

section
variable {P : Program} {C : World → Prop} {Q : Exit → Act → World → Prop}

theorem withEdge_get (l : List Oper) (k i : Nat) : (withEdge l k)[i]? = (l[i]?).map fun o => if i = k then { o with after := o.after.push ⟨0, .data⟩ } else o := by
  unfold withEdge
  rw [List.getElem?_mapIdx]
theorem withEdge_size (l : List Oper) (k : Nat) : (withEdge l k).toArray.size = l.toArray.size := by simp [withEdge]
theorem noGuard_at {l : List Oper} (h : noGuard l = true) {i : Nat} {o : Oper} (ho : l[i]? = some o) : o.guard = none := by
  have := List.all_eq_true.1 h o (List.mem_of_getElem? ho)
  simpa using this
theorem wanted_of {o : Oper} (h : o.guard = none) (f : Nat → Option Bool) : Region.wanted o f = true := by simp [Region.wanted, h]

theorem quiet_edge {ops ops' : Array Oper} {Lq : Act → Prop} : ∀ (h : List Oper) (a : Act), (∀ o ∈ h, o.guard = none) → wpQuiet P ops C Lq h a → wpQuiet P ops' C Lq h a
  | [], _, _, h => h
  | o :: r, a, hg, h => by
    have hgo := hg o (by simp)
    unfold wpQuiet at h ⊢
    rw [if_pos (wanted_of hgo _)] at h
    rw [if_pos (wanted_of hgo _)]
    exact Oper.quiet_mono (fun a' => quiet_edge r a' (fun o ho => hg o (by simp [ho]))) h

/-- Where 0 is listed, the edge makes no difference. -/
theorem ready_edge {l : List Oper} {k : Nat} {listed : Array Bool} (h0 : listed.getD 0 false = true) (i : Nat) : i ∈ Region.ready .any (withEdge l k).toArray listed ↔ i ∈ Region.ready .any l.toArray listed := by
  rw [mem_ready, mem_ready]
  constructor
  · rintro ⟨h1, o, ho, h2⟩
    refine ⟨h1, ?_⟩
    rw [List.getElem?_toArray, withEdge_get] at ho
    obtain ⟨o', ho', e⟩ := Option.map_eq_some_iff.1 ho
    refine ⟨o', by simpa using ho', fun e' he hb => ?_⟩
    subst e
    refine h2 e' ?_ hb
    split
    · simp [he]
    · exact he
  · rintro ⟨h1, o, ho, h2⟩
    refine ⟨h1, _, by rw [List.getElem?_toArray, withEdge_get, show l[i]? = some o by simpa using ho]; rfl, fun e' he hb => ?_⟩
    split at he
    · rcases Array.mem_push.1 he with he | rfl
      · exact h2 e' he hb
      · exact h0
    · exact h2 e' he hb
theorem ready_of_ne {l : List Oper} {k : Nat} {listed : Array Bool} {i : Nat} (hik : i ≠ k) (h : i ∈ Region.ready .any l.toArray listed) : i ∈ Region.ready .any (withEdge l k).toArray listed := by
  rw [mem_ready] at *
  obtain ⟨h1, o, ho, h2⟩ := h
  exact ⟨h1, o, by rw [List.getElem?_toArray, withEdge_get, show l[i]? = some o by simpa using ho]; simp [hik], h2⟩
theorem ready_less {l : List Oper} {k : Nat} {listed : Array Bool} {i : Nat} (h : i ∈ Region.ready .any (withEdge l k).toArray listed) : i ∈ Region.ready .any l.toArray listed := by
  rw [mem_ready] at *
  obtain ⟨h1, o, ho, h2⟩ := h
  rw [List.getElem?_toArray, withEdge_get] at ho
  obtain ⟨o', ho', e⟩ := Option.map_eq_some_iff.1 ho
  refine ⟨h1, o', by simpa using ho', fun e' he hb => h2 e' ?_ hb⟩
  subst e
  split
  · simp [he]
  · exact he

theorem wpOp_edge {l : List Oper} {k i : Nat} {K : Act → World → Prop} {a : Act} {w : World} (hg : noGuard l = true) : wpOp P (withEdge l k).toArray Q i K a w ↔ wpOp P l.toArray Q i K a w := by
  unfold wpOp
  rw [List.getElem?_toArray, List.getElem?_toArray, withEdge_get]
  cases ho : l[i]? with
  | none => exact Iff.rfl
  | some o =>
    have hgo := noGuard_at hg ho
    simp only [Option.map_some]
    by_cases hik : i = k
    · simp only [hik, if_true]
      rw [if_pos (wanted_of hgo _), if_pos (wanted_of (by exact hgo) _)]
      exact Iff.rfl
    · simp only [hik, if_false]
      rw [if_pos (wanted_of hgo _), if_pos (wanted_of hgo _)]
theorem any_edge {l : List Oper} {k : Nat} (hg : noGuard l = true) : ∀ (f : Nat) (listed : Array Bool) (a : Act) (w : World), listed.getD 0 false = true → wpAny P .any (withEdge l k).toArray Q f listed a w → wpAny P .any l.toArray Q f listed a w
  | 0, listed, a, w, h0, h => by
    refine ⟨?_, h.2⟩
    rw [List.eq_nil_iff_forall_not_mem]
    intro i hi
    have := (ready_edge (k := k) h0 i).2 hi
    rw [h.1] at this
    cases this
  | f + 1, listed, a, w, h0, h => by
    refine ⟨fun hr => h.1 ?_, fun i hi => ?_⟩
    · rw [List.eq_nil_iff_forall_not_mem]
      intro i hi
      have := (ready_edge (k := k) h0 i).1 hi
      rw [hr] at this
      cases this
    · have h1 := (wpOp_edge hg).1 (h.2 i ((ready_edge h0 i).2 hi))
      refine wpOp_mono (fun a' w' h' => any_edge hg f _ a' w' ?_ h') h1
      by_cases e : i = 0
      · subst e
        rcases Nat.lt_or_ge 0 listed.size with hs | hs
        · simp [Array.getD_eq_getD_getElem?, hs]
        · rw [Array.getD_eq_getD_getElem?, Array.getElem?_eq_none (by omega)] at h0
          cases h0
      · rw [getD_set_ne false e]
        exact h0

theorem list_edge {l : List Oper} {k : Nat} (hg : noGuard l = true) : ∀ (r : List Oper) (m : Nat) (r' : List Oper) (a : Act) (w : World), (∀ j : Nat, r[j]? = l[m + j]?) → (∀ j : Nat, r'[j]? = (withEdge l k)[m + j]?) → wpList P l.toArray Q r a w → wpList P (withEdge l k).toArray Q r' a w
  | [], m, r', a, w, hr, hr', h => by
    have : r' = [] := by
      cases r' with
      | nil => rfl
      | cons x r' =>
        have h1 := hr' 0
        have h2 := hr 0
        rw [withEdge_get, ← h2] at h1
        cases h1
    subst this
    exact h
  | o :: r, m, r', a, w, hr, hr', h => by
    cases r' with
    | nil =>
      have h1 := hr' 0
      have h2 := hr 0
      rw [withEdge_get, ← h2] at h1
      cases h1
    | cons o' r' =>
      have h1 := hr' 0
      have h2 := hr 0
      rw [withEdge_get, ← h2] at h1
      simp only [List.getElem?_cons_zero, Option.map_some, Option.some.injEq] at h1
      have hgo := noGuard_at hg h2.symm
      have hop : o'.guard = none := by rw [h1]; split <;> exact hgo
      unfold wpList at h ⊢
      rw [if_pos (wanted_of hgo _)] at h
      rw [if_pos (wanted_of hop _)]
      have hrest := fun a w => list_edge hg r (m + 1) r' a w (fun j => by have := hr (j + 1); simpa [Nat.add_assoc, Nat.add_comm 1 j] using this) (fun j => by have := hr' (j + 1); simpa [Nat.add_assoc, Nat.add_comm 1 j] using this)
      have h3 : ∀ K, (o'.wp P a w K Q ↔ o.wp P a w K Q) := fun K => by
        rw [h1]; split <;> exact Iff.rfl
      rw [h3]
      refine h.imp (fun h => Oper.wp_mono (fun a' w' h' => hrest a' w' h') h) (fun h => ?_)
      rw [h1]; split <;> exact h

/-- k may come up while 0 has not: then all others of the head have come. -/
theorem core_listed {l : List Oper} {k : Nat} {listed : Array Bool} (hc : coreB .any l.toArray k = true) (inv : HeadInv .any (withEdge l k).toArray k listed) (hr : k ∈ Region.ready .any l.toArray listed) :
    ∀ (d i : Nat), k - i = d → 0 < i → i < k → listed.getD i false = true := by
  intro d
  induction d using Nat.strongRecOn with
  | _ d ih =>
    intro i hd h0 hi
    have h1 := List.all_eq_true.1 hc i (List.mem_range.2 hi)
    simp only [Bool.or_eq_true, decide_eq_true_eq] at h1
    rcases h1 with h1 | h1
    · omega
    obtain ⟨j, hj, hj2⟩ := List.any_eq_true.1 h1
    simp only [Bool.and_eq_true, decide_eq_true_eq] at hj2
    obtain ⟨oj, hoj, e, he, hb, hon⟩ := Region.waitsFor_spec hj2.2
    have hjle : j ≤ k := by have := List.mem_range.1 hj; omega
    by_cases hjk : j = k
    · subst hjk
      obtain ⟨_, ot, hot, hall⟩ := mem_ready.1 hr
      have : oj = ot := Option.some.inj (hoj.symm.trans hot)
      subst this
      have := hall e he hb
      rwa [hon] at this
    · have h3 := ih (k - j) (by omega) j rfl (by omega) (by omega)
      have := inv.closed j oj (by rw [List.getElem?_toArray, withEdge_get, show l[j]? = some oj by simpa using hoj]; simp [hjk]) h3 e he hb
      rwa [hon] at this

def isRead (o : Oper) : Prop := (∃ t x, o.op = .load t x) ∨ ∃ x, o.op = .move x
theorem read_value {o : Oper} (h : isRead o) {f : Operand → Value} {w w' : World} {n : Next} (hr : (execOp f o).run P w = .ok n w') : ∃ u, n = .value u := by
  rcases h with ⟨t, x, h⟩ | ⟨x, h⟩
  · unfold execOp at hr
    simp only [h, Sem.run_bind] at hr
    generalize Sem.run P (Instr.loadAt t (f x)) w = r at hr
    cases r with
    | ok v w2 =>
      simp only [Result.andThen_ok, Sem.run_pure, Result.ok.injEq] at hr
      exact ⟨_, hr.1.symm⟩
    | halt x w2 => cases hr
  · unfold execOp at hr
    simp only [h, Sem.run_pure, Result.ok.injEq] at hr
    exact ⟨_, hr.1.symm⟩

theorem float_T {l : List Oper} {k g : Nat} {Lq : Act → Prop} {o0 ok : Oper} (hg : noGuard l = true) (hk0 : 0 < k) (hc : coreB .any l.toArray k = true) (hw1 : Region.waitsFor .any l.toArray (k + 1) 0 = true) (hch : Region.chainB .any l.toArray k = true)
    (h0 : l[0]? = some o0) (hok : l[k]? = some ok) (hap : o0.apart l.toArray ok = true) (hdep : o0.after = #[]) (hrd : isRead o0) (hsk : ∀ cs b, ok.op ≠ .select cs b) (hgs : g = (l.drop k).length)
    (hLq : ∀ a, Lq a → ∀ w, C w → (∃ v w', (execOp a.eval ok).run P w = .ok (.value v) w' ∧ C w') ∧ wpList P l.toArray Q (l.drop k) a w) :
    ∀ (f : Nat) (listed : Array Bool) (a : Act), HeadInv .any (withEdge l k).toArray k listed →
      wpAnyQL P .any (withEdge l k).toArray C k (fun listed' a' => Region.seqB .any (withEdge l k).toArray g k listed' = true ∧ Lq a') f listed a →
      ∀ w, C w → wpAny P .any l.toArray Q (f + g) listed a w
  | 0, listed, a, inv, ⟨hB, hL⟩, w, hw0 => by
    have hklt : k < l.length := (List.getElem?_eq_some_iff.1 hok).1
    have hlen : ((withEdge l k).drop k).length = g := by rw [hgs]; simp [withEdge]
    have h00 : listed.getD 0 false = true := by
      obtain ⟨g', hg'⟩ : ∃ g', g = g' + 1 := ⟨g - 1, by rw [hgs, List.length_drop]; omega⟩
      rw [hg'] at hB
      simp only [Region.seqB, Bool.and_eq_true, decide_eq_true_eq] at hB
      have : k ∈ Region.ready .any (withEdge l k).toArray listed := by rw [hB.1]; simp
      obtain ⟨_, o', ho', hall⟩ := mem_ready.1 this
      rw [List.getElem?_toArray, withEdge_get, hok] at ho'
      simp only [Option.map_some, if_true, Option.some.injEq] at ho'
      subst ho'
      exact hall ⟨0, .data⟩ (by simp) rfl
    rw [Nat.zero_add]
    refine any_edge (k := k) hg g listed a w h00 ?_
    have := wpAny_of_seq (md := .any) (P := P) (Q' := Q) (ops := (withEdge l k).toArray) ((withEdge l k).drop k) k listed a w (fun j => by simp [List.getElem?_drop]) (by rw [hlen]; exact hB)
      (list_edge hg _ k _ a w (fun j => by simp [List.getElem?_drop]) (fun j => by simp [List.getElem?_drop]) (hLq a hL w hw0).2)
    rw [hlen] at this
    exact this
  | f + 1, listed, a, inv, H, w, hw0 => by
    have hklt : k < l.length := (List.getElem?_eq_some_iff.1 hok).1
    rw [show f + 1 + g = (f + g) + 1 by omega]
    have hsz : listed.size = l.length := by rw [inv.size, withEdge_size]; simp
    refine ⟨fun hr => absurd (by
      rw [List.eq_nil_iff_forall_not_mem]
      intro i hi
      have := ready_less hi
      rw [hr] at this
      cases this) H.1, fun i hi => ?_⟩
    by_cases hl0 : listed.getD 0 false = true ∨ i ≠ k
    · have hi' : i ∈ Region.ready .any (withEdge l k).toArray listed := by
        rcases hl0 with h | h
        · exact (ready_edge h i).2 hi
        · exact ready_of_ne h hi
      obtain ⟨hik, hq⟩ := H.2 i hi'
      exact (wpOp_edge (k := k) hg).1 (wpOp_of_qOp (C := C) hw0 (fun a' w' hw' h' => float_T hg hk0 hc hw1 hch h0 hok hap hdep hrd hsk hgs hLq f _ a' (inv.set hi' hik) h' w' hw') hq)
    · have hik : i = k := by
        apply Classical.byContradiction
        intro h
        exact hl0 (.inr h)
      have hun0 : listed.getD 0 false = false := by
        cases h : listed.getD 0 false
        · rfl
        · exact absurd (.inl h) hl0
      subst hik
      have hun : listed.getD 0 true = false := getD_in (by omega) hun0
      have hr0 : 0 ∈ Region.ready .any (withEdge l i).toArray listed := mem_ready.2 ⟨hun, o0, by rw [List.getElem?_toArray, withEdge_get, h0]; simp; omega, fun e he _ => by rw [hdep] at he; simp at he⟩
      obtain ⟨_, hq⟩ := H.2 0 hr0
      have ho0' : (withEdge l i).toArray[0]? = some o0 := by rw [List.getElem?_toArray, withEdge_get, h0]; simp; omega
      obtain ⟨v, hy, hK⟩ := yieldsIn_of_qOp ho0' hq
      obtain ⟨a1, a2, a3⟩ := Oper.apart_spec hap
      have hs0 : ∀ cs b, o0.op ≠ .select cs b := fun cs b e => by
        rcases hrd with ⟨t, x, h⟩ | ⟨x, h⟩ <;> rw [h] at e <;> cases e
      have hgk : (listed.setIfInBounds 0 true).getD 0 false = true := by simp [Array.getD_eq_getD_getElem?]; omega
      have hkr : i ∈ Region.ready .any (withEdge l i).toArray (listed.setIfInBounds 0 true) := (ready_edge hgk i).2 (ready_mono hi (by omega))
      cases f with
      | succ f => exact absurd (hK.2 i hkr).1 (by omega)
      | zero =>
        obtain ⟨hB, hL⟩ := hK
        obtain ⟨⟨u, w', hrun, hCw'⟩, hwl⟩ := hLq _ hL w hw0
        obtain ⟨rest, hrest⟩ : ∃ rest, l.drop i = ok :: rest := ⟨l.drop (i + 1), by
          rw [List.drop_eq_getElem_cons hklt]
          have := (List.getElem?_eq_some_iff.1 hok).2
          rw [this]⟩
        have hrl : g = rest.length + 1 := by rw [hgs, hrest]; rfl
        rw [hrest] at hwl
        have hgok := noGuard_at hg hok
        have hg0 := noGuard_at hg h0
        have hfr : execOp (a.put o0.dst v).eval ok = execOp a.eval ok := execOp_put (ops := l.toArray) ok hsk a o0.dst v a1
        rw [hfr] at hrun
        unfold wpList at hwl
        rw [if_pos (wanted_of hgok _)] at hwl
        unfold wpOp
        rw [List.getElem?_toArray, hok]
        simp only
        rw [if_pos (wanted_of hgok _)]
        refine hwl.imp (fun h => ?_) (fun h => ?_)
        · unfold Oper.wp at h ⊢
          rw [hfr, hrun] at h
          rw [hrun]
          simp only [Oper.upon] at h ⊢
          rw [Act.put_comm a v u a2] at h
          rw [Nat.zero_add, hrl]
          have hlk : (listed.setIfInBounds i true).getD 0 true = false := by rw [getD_set_ne true (by omega)]; exact hun
          have hr0' : 0 ∈ Region.ready .any l.toArray (listed.setIfInBounds i true) := mem_ready.2 ⟨hlk, o0, by simpa using h0, fun e he _ => by rw [hdep] at he; simp at he⟩
          refine ⟨fun hr => (by rw [hr] at hr0'; cases hr0'), fun j hj => ?_⟩
          have hj0 : j = 0 := by
            obtain ⟨hjun, oj, hoj, hall⟩ := mem_ready.1 hj
            have hjl : j < l.length := by simpa using (Array.getElem?_eq_some_iff.1 hoj).1
            apply Classical.byContradiction
            intro hne
            rcases Nat.lt_trichotomy j i with h1 | h1 | h1
            · have := core_listed hc inv hi (i - j) j rfl (by omega) h1
              rw [getD_set_ne true (by omega)] at hjun
              rw [getD_both hjun] at this
              cases this
            · subst h1
              simp [Array.getD_eq_getD_getElem?, hsz, hjl] at hjun
            · by_cases hj1 : j = i + 1
              · subst hj1
                obtain ⟨oj', hoj', e, he, hb, hon⟩ := Region.waitsFor_spec hw1
                have : oj' = oj := Option.some.inj (hoj'.symm.trans hoj)
                subst this
                have := hall e he hb
                rw [hon, getD_both hlk] at this
                cases this
              · have h2 := List.all_eq_true.1 hch j (List.mem_range.2 (by simpa using hjl))
                simp only [Bool.or_eq_true, decide_eq_true_eq] at h2
                rcases h2 with h2 | h2
                · omega
                obtain ⟨oj', hoj', e, he, hb, hon⟩ := Region.waitsFor_spec h2
                have : oj' = oj := Option.some.inj (hoj'.symm.trans hoj)
                subst this
                have h3 := hall e he hb
                rw [hon, getD_set_ne false (by omega)] at h3
                have h4 := inv.tail (j - 1) (by omega) (by rw [withEdge_size]; simp; omega)
                rw [getD_both h4] at h3
                cases h3
          subst hj0
          unfold wpOp
          rw [List.getElem?_toArray, h0]
          simp only
          rw [if_pos (wanted_of hg0 _)]
          refine .inl ?_
          have hq2 : o0.quietAt P (a.put ok.dst u) C w' v := by
            rcases hy with ⟨_, hv⟩ | ⟨hw, _⟩
            · have := hv w' hCw'
              unfold Oper.quietAt at this ⊢
              rwa [execOp_put (ops := l.toArray) o0 hs0 a ok.dst u a3]
            · rw [wanted_of hg0] at hw; cases hw
          unfold Oper.quietAt at hq2
          unfold Oper.wp
          generalize hrr : (execOp (a.put ok.dst u).eval o0).run P w' = rr at hq2
          cases rr with
          | halt x w2 => simp only [Oper.quietUpon] at hq2
          | ok nx w2 =>
            obtain ⟨z, rfl⟩ := read_value hrd hrr
            obtain ⟨rfl, rfl⟩ := hq2
            simp only [Oper.upon]
            have hset : ((listed.setIfInBounds i true).setIfInBounds 0 true) = (listed.setIfInBounds 0 true).setIfInBounds i true := Array.setIfInBounds_comm _ _ (by omega)
            have hrest2 : rest = l.drop (i + 1) := by
              rw [List.drop_eq_getElem_cons hklt] at hrest
              injection hrest with _ h
              exact h.symm
            refine any_edge (k := i) hg _ _ _ _ (by simp [Array.getD_eq_getD_getElem?]; omega) ?_
            have hlen : ((withEdge l i).drop (i + 1)).length = rest.length := by rw [hrest2]; simp [withEdge]
            rw [hrl] at hB
            simp only [Region.seqB, Bool.and_eq_true, decide_eq_true_eq] at hB
            have := wpAny_of_seq (md := .any) (P := P) (Q' := Q) (ops := (withEdge l i).toArray) ((withEdge l i).drop (i + 1)) (i + 1) ((listed.setIfInBounds 0 true).setIfInBounds i true) ((a.put ok.dst u).put o0.dst z) w2 (fun j => by simp [List.getElem?_drop]) (by rw [hlen]; exact hB.2)
              (list_edge hg _ (i + 1) _ _ _ (fun j => by rw [hrest2]; simp [List.getElem?_drop]) (fun j => by simp [List.getElem?_drop]) h)
            rw [hlen, ← hset] at this
            exact this
        · refine ⟨?_, h.2⟩
          have := h.1
          unfold Oper.asks at this ⊢
          rwa [hfr] at this

theorem any_float (Pd : World → Prop) {a : Act} {w : World} {l : List Oper} (k : Nat) (h0 : Pd w) (hB : floatB l k = true)
    (h : Nonempty (WOf Pd) → wpQuiet P l.toArray (fun w' => ∃ s : WOf Pd, w' = s.w) (fun a' => ∀ s : WOf Pd, (∀ o, l[k]? = some o → ∃ v w', (execOp a'.eval o).run P s.w = .ok (.value v) w' ∧ Pd w') ∧ wpList P l.toArray Q (l.drop k) a' s.w) (l.take k) a) :
    wpAny P .any l.toArray Q l.toArray.size (Array.replicate l.toArray.size false) a w := by
  simp only [floatB, Bool.and_eq_true, decide_eq_true_eq] at hB
  obtain ⟨⟨⟨⟨⟨⟨hg, hk0⟩, hc⟩, hw1⟩, hch⟩, hm⟩, hT⟩ := hB
  cases e0 : l[0]? with
  | none => simp [e0] at hm
  | some o0 =>
    cases ek : l[k]? with
    | none => simp [e0, ek] at hm
    | some ok =>
      simp only [e0, ek, Bool.and_eq_true] at hm
      obtain ⟨⟨⟨hap, hde⟩, hrd⟩, hbk⟩ := hm
      have hrd' : isRead o0 := by
        unfold isRead
        cases ho : o0.op <;> simp [ho] at hrd ⊢
      have hsk : ∀ cs b, ok.op ≠ .select cs b := fun cs b e => by rw [e] at hbk; cases hbk
      simp only [Region.lexTailB, Bool.and_eq_true, decide_eq_true_eq] at hT
      obtain ⟨⟨⟨⟨hsel, hn⟩, hs⟩, hc'⟩, hlex⟩ := hT
      have hklt : k < l.length := (List.getElem?_eq_some_iff.1 ek).1
      have htk : (withEdge l k).take k = l.take k := by
        apply List.ext_getElem?
        intro j
        rw [List.getElem?_take, List.getElem?_take]
        by_cases hj : j < k
        · rw [if_pos hj, if_pos hj, withEdge_get]
          cases l[j]? with
          | none => rfl
          | some o => simp; omega
        · rw [if_neg hj, if_neg hj]
      have htl : (l.take k).length = k := by simp; omega
      have hdl : (l.drop k).length = (withEdge l k).toArray.size - k := by rw [withEdge_size]; simp
      have H := wpAnyQL_lex (md := .any) (P := P) (ops := (withEdge l k).toArray) (C := fun w' => ∃ s : WOf Pd, w' = s.w) (g := (withEdge l k).toArray.size - k) hsel hs hc' hn (l.take k) 0 (Array.replicate (withEdge l k).toArray.size false) a (fun j hj => by
        have hj' : j < k := by rw [htl] at hj; exact hj
        rw [Nat.zero_add, List.getElem?_toArray, ← htk, List.getElem?_take, if_pos hj']) (by simpa using htl) (by exact qt_inv) (by rw [htl]; exact hlex) (quiet_edge _ _ (fun o ho => by
          obtain ⟨j, hj⟩ := List.getElem?_of_mem (List.mem_of_mem_take ho)
          exact noGuard_at hg hj) (h ⟨⟨w, h0⟩⟩))
      have := float_T (P := P) (Q := Q) (C := fun w' => ∃ s : WOf Pd, w' = s.w) (g := (withEdge l k).toArray.size - k) hg hk0 hc hw1 hch e0 ek hap (by simpa using hde) hrd' hsk hdl.symm (fun a hL w' ⟨s, hw'⟩ => by
        subst hw'
        obtain ⟨h1, h2⟩ := hL s
        obtain ⟨v, w2, hr, hp⟩ := h1 ok ek
        exact ⟨⟨v, w2, hr, ⟨w2, hp⟩, rfl⟩, h2⟩) _ _ a (by exact qt_inv) H w ⟨⟨w, h0⟩, rfl⟩
      rw [htl, show k + ((withEdge l k).toArray.size - k) = l.toArray.size by rw [withEdge_size]; simp; omega, withEdge_size] at this
      exact this

theorem fill_one {z v : Value} (hv : v.cells = #[v]) : Instr.fill (fun i => some (i * 1, 1)) ((Array.range (1 * 1)).map (z.cells[· % z.cells.size]!)) [(0, v)] = some #[v] := by
  have h : Array.range 1 = #[0] := by rfl
  simp [Instr.fill, hv, h]
/-- []T{x}: one element of one cell. -/
theorem build_runs {f : Operand → Value} {w : World} {o : Oper} (t e : TypeId) (x : Operand) (v : Value) (ho : o.op = .buildSlice t 1 #[(0, x)]) (ie : TypeInfo) (z : Value) (hu : P.underlying t = some (.slice e)) (hie : P.info? e = some ie) (hz : ie.zero = some z) (hs : ie.size = 1)
    (hx : f x = v) (hv : v.cells = #[v]) : (execOp f o).run P w = .ok (.value (.slice (some ⟨w.heap.size, 0, none⟩) 1 1)) (w.alloc (.cells #[v] e)) := by
  unfold execOp
  simp only [ho, Sem.run_bind]
  rw [run_buildSlice w t e 1 _ #[v] ie z hu hie hz (by rw [hs]; decide) (by rw [hs]; decide) (by simp only [List.map_toArray, List.map_cons, List.map_nil, hx, hs]; exact fill_one hv)]
  rfl
/-- In the plain calculus. -/
theorem wp_region_fl (Pd : World → Prop) {id : Nat} {a : Act} {w : World} {l : List Oper} (k : Nat) (h0 : Pd w) (hup : ∀ a b, Pd a → Below a.heap.size a b → Pd b) (hm : P.follows .mixedOrders = true) (hB : floatB l k = true)
    (h : Nonempty (WOf Pd) → wpQuiet P l.toArray (fun w' => ∃ s : WOf Pd, w' = s.w) (fun a' => ∀ s : WOf Pd, (∀ o, l[k]? = some o → ∃ v w', (execOp a'.eval o).run P s.w = .ok (.value v) w' ∧ Pd w') ∧ wpList P l.toArray Q (l.drop k) a' s.w) (l.take k) a) : (Code.region id l.toArray true).wp P Q a w :=
  wp_region_any hm (any_float Pd k (hup w _ h0 (Below.refl _ w).drew) hB h)
/-- In a round. -/
theorem wpIn_region_fl (Pd : World → Prop) {r n : Nat} {id : Nat} {a : Act} {w : World} {l : List Oper} (k : Nat) (h0 : Pd w) (hup : ∀ a b, Pd a → Below a.heap.size a b → Pd b) (hm : P.follows .mixedOrders = true) (hnd : noDefer l = true) (hout : ¬ LetsOut Q) (hB : floatB l k = true)
    (h : Nonempty (WOf Pd) → wpQuiet P l.toArray (fun w' => ∃ s : WOf Pd, w' = s.w) (fun a' => ∀ s : WOf Pd, (∀ o, l[k]? = some o → ∃ v w', (execOp a'.eval o).run P s.w = .ok (.value v) w' ∧ Pd w') ∧ wpList P l.toArray Q (l.drop k) a' s.w) (l.take k) a) : (Code.region id l.toArray true).wpIn (Fence.wide.inRound r) n P Q a w :=
  wpIn_region_of_any hm (noDefer_spec hnd) hout (any_float Pd k (hup w _ h0 (Below.refl _ w).drew) hB h)
end
end Go.Proofs.Ythaibmkieflafaa
