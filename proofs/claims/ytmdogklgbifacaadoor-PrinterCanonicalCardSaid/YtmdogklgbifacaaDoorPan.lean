/- A region that draws its order, of which one operation always panics: whatever else has come before it, the region leaves by that panic. -/
import Derived.Test.YtmdogklgbifacaaDoorInv
namespace Go.Proofs.YtmdogklgbifacaaDoor
open Go.RowKit
set_option linter.unusedVariables false

def dstOf (l : List Oper) (m : Nat) : Option Nat := (l[m]?).bind (·.dst)
/-- No slot is the target of two operations; each lies in the frame. -/
def dstsB (n : Nat) (l : List Oper) : Bool :=
  (List.range l.length).all fun i => (match dstOf l i with | none => true | some d => decide (d < n)) && (List.range l.length).all fun j => decide (i = j) || (match dstOf l i, dstOf l j with | some d, some d' => decide (d ≠ d') | _, _ => true)
/-- What is not among the good ones waits, in the end, for the operation p. -/
def waitB (good : List Nat) (p : Nat) (l : List Oper) : Bool :=
  decide (p ∉ good) && (List.range l.length).all fun m => decide (m ∈ good) || (decide (m = p) || (match l[m]? with | some o => o.after.any fun e => Region.binds .any e && decide (e.on ∉ good) | none => true))
section
variable {P : Program} {Q : Exit → Act → World → Prop}
theorem put_get (a : Act) (d : Nat) (v : Value) (h : d < a.tmps.size) : (a.put (some d) v).eval (.tmp d) = v := by
  simp [Act.put, Act.eval, h]
theorem put_ne (a : Act) (d d' : Nat) (v : Value) (h : d ≠ d') : (a.put (some d) v).eval (.tmp d') = a.eval (.tmp d') := by
  simp only [Act.put, Act.eval, Array.getD_eq_getD_getElem?]
  rw [Array.getElem?_setIfInBounds_ne h]
theorem put_size (a : Act) (d : Option Nat) (v : Value) : (a.put d v).tmps.size = a.tmps.size := by cases d <;> simp [Act.put]
theorem put_defers (a : Act) (d : Option Nat) (v : Value) : (a.put d v).defers = a.defers := by cases d <;> rfl

/-- What is known of a frame in which some operations have come. -/
structure Pd (l : List Oper) (good : List Nat) (V : Nat → Value) (PW : World → Prop) (a : Act) (b : Nat → Bool) (a' : Act) (w' : World) : Prop where
  defers : a'.defers = a.defers
  size : a'.tmps.size = a.tmps.size
  good : ∀ m, m < l.length → b m = true → m ∈ good
  val : ∀ m, m < l.length → b m = true → ∀ d, dstOf l m = some d → a'.eval (.tmp d) = V m
  rest : ∀ d, (∀ m, m < l.length → dstOf l m ≠ some d) → a'.eval (.tmp d) = a.eval (.tmp d)
  world : PW w'
/-- THE RULE. -/
theorem wp_region_pan {id : Nat} {a : Act} {w : World} {l : List Oper} (n : Nat) (good : List Nat) (p : Nat) (V : Nat → Value) (PW : World → Prop) (hm : P.follows .mixedOrders = true) (hB : ordB .any 0 l = true) (hn : a.tmps.size = n) (hD : dstsB n l = true) (hW : waitB good p l = true) (hp : p < l.length)
    (hg : l.all (fun o => o.guard.isNone) = true) (h0 : PW w.drew)
    (hS : ∀ m, m ∈ good → ∀ o, l[m]? = some o → ∀ a' w', (∀ e ∈ o.after, Region.binds .any e = true → ∀ d, dstOf l e.on = some d → a'.eval (.tmp d) = V e.on) → (∀ d, (∀ m, m < l.length → dstOf l m ≠ some d) → a'.eval (.tmp d) = a.eval (.tmp d)) → PW w' →
      Oper.wp P o a' w' (fun a'' w'' => a'' = a'.put o.dst (V m) ∧ PW w'') Q)
    (hP : ∀ o, l[p]? = some o → ∀ a' w', (∀ e ∈ o.after, Region.binds .any e = true → ∀ d, dstOf l e.on = some d → a'.eval (.tmp d) = V e.on) → (∀ d, (∀ m, m < l.length → dstOf l m ≠ some d) → a'.eval (.tmp d) = a.eval (.tmp d)) → a'.defers = a.defers → PW w' → Oper.wp P o a' w' (fun _ _ => False) Q) : (Code.region id l.toArray true).wp P Q a w := by
  simp only [waitB, Bool.and_eq_true, decide_eq_true_eq] at hW
  obtain ⟨hpg, hW⟩ := hW
  have hord := ordB_spec l 0 hB
  refine wp_region_inv (fun a b a' w' => Pd l good V PW a b a' w') hm hB ⟨rfl, rfl, fun m _ h => (by cases h), fun m _ h => (by cases h), fun _ _ => rfl, h0⟩ ?_ ?_
  · suffices H : ∀ (k : List Oper) (m : Nat), (∀ j, k[j]? = l[m + j]?) → Steps P .any Q (fun b a' w' => Pd l good V PW a b a' w') m k from H l 0 (fun j => by rw [Nat.zero_add])
    intro k
    induction k with
    | nil => intro m _; trivial
    | cons o k ih =>
      intro m hk
      have hom : l[m]? = some o := by have := hk 0; simpa using this.symm
      have hml : m < l.length := (List.getElem?_eq_some_iff.1 hom).1
      refine ⟨⟨?_, ?_⟩, ih (m + 1) (fun j => by have := hk (j + 1); rw [show m + (j + 1) = m + 1 + j by omega] at this; simpa using this)⟩
      · have := List.all_eq_true.1 hg o (List.mem_of_getElem? hom)
        simpa using this
      · intro b a' w' hbm hdep hJ
        have hde : ∀ e ∈ o.after, Region.binds .any e = true → ∀ d, dstOf l e.on = some d → a'.eval (.tmp d) = V e.on := fun e he hb d hd => by
          have hlt : e.on < l.length := by
            unfold dstOf at hd
            cases hq : l[e.on]? with
            | none => rw [hq] at hd; cases hd
            | some x => exact (List.getElem?_eq_some_iff.1 hq).1
          exact hJ.val e.on hlt (hdep e he hb) d hd
        by_cases hmg : m ∈ good
        · refine Oper.wp_mono (fun a'' w'' h => ?_) (hS m hmg o hom a' w' hde hJ.rest hJ.world)
          obtain ⟨rfl, hpw⟩ := h
          have hdm : dstOf l m = o.dst := by unfold dstOf; rw [hom]; rfl
          have hDm := List.all_eq_true.1 hD m (List.mem_range.2 hml)
          simp only [Bool.and_eq_true] at hDm
          refine ⟨by rw [put_defers]; exact hJ.defers, by rw [put_size]; exact hJ.size, fun j hj hu => ?_, fun j hj hu d hd => ?_, fun d hd => ?_, hpw⟩
          · unfold upd at hu
            by_cases e : j = m
            · rw [e]; exact hmg
            · rw [if_neg e] at hu; exact hJ.good j hj hu
          · unfold upd at hu
            by_cases e : j = m
            · subst e
              rw [hdm] at hd
              rw [hd]
              rw [hdm, hd] at hDm
              exact put_get _ _ _ (by rw [hJ.size, hn]; simpa using hDm.1)
            · rw [if_neg e] at hu
              have hv := hJ.val j hj hu d hd
              cases hod : o.dst with
              | none => exact hv
              | some d' =>
                rw [put_ne _ _ _ _ ?_]
                · exact hv
                · intro he
                  subst he
                  have h2 := List.all_eq_true.1 hDm.2 j (List.mem_range.2 hj)
                  rw [hdm, hod, hd] at h2
                  simp only [Bool.or_eq_true, decide_eq_true_eq, ne_eq, not_true_eq_false, or_false] at h2
                  exact e h2.symm
          · cases hod : o.dst with
            | none => exact hJ.rest d hd
            | some d' =>
              rw [put_ne _ _ _ _ ?_]
              · exact hJ.rest d hd
              · intro he
                exact hd m hml (by rw [hdm, hod, he])
        · by_cases hmp : m = p
          · subst hmp
            exact Oper.wp_mono (fun _ _ h => h.elim) (hP o hom a' w' hde hJ.rest hJ.defers hJ.world)
          · exfalso
            have h1 := List.all_eq_true.1 hW m (List.mem_range.2 hml)
            simp only [Bool.or_eq_true, decide_eq_true_eq, hmg, hmp, false_or, hom] at h1
            obtain ⟨e, he, h2⟩ := Array.any_eq_true'.1 h1
            simp only [Bool.and_eq_true, decide_eq_true_eq] at h2
            have hlt := hord m o hom e he h2.1
            exact h2.2 (hJ.good e.on (by omega) (hdep e he h2.1))
  · intro b a' w' hb hJ
    exact absurd (hJ.good p hp (hb p hp)) hpg
/-- An operation whose run is known. -/
theorem wp_run {o : Oper} {a : Act} {w w' : World} {v : Value} {K : Act → World → Prop} (h : (execOp a.eval o).run P w = .ok (.value v) w') (hk : K (a.put o.dst v) w') : Oper.wp P o a w K Q := by
  unfold Oper.wp
  rw [h]
  exact hk
end
end Go.Proofs.YtmdogklgbifacaaDoor
