/- The steps of the parser's loop. -/
import Derived.Test.YtmdogklgbifacaaDoorPsInv
namespace Go.Proofs.YtmdogklgbifacaaDoor.Ps
open Go.RowKit Go.Proofs.YtmdogklgbifacaaDoor.Lx Go.Proofs.YtmdogklgbifacaaDoor.Pr
set_option linter.unusedVariables false

section
variable {w1 wr w' w2 w3 : World} {rb e : Nat} {fin : PR} {o d o' d' : Value} {ts : List Tok} {OUT : List Cm} {dps : List Nat} {A : Option Addr} {n c : Nat} {K : Int} {nm : ByteArray} {NV : Value} {ns : List Int} {at_ : Int}
theorem own_gr {base size n : Nat} {t : TypeId} {v : Value} {xs : List Value} {cs : Array Value} (h : wr.ownsRow base t size v n xs) (hg : Gr rb none wr w') (hb : Blk wr rb 65 cs) (ht : t ≠ 65) : w'.ownsRow base t size v n xs := by
  refine h.kept (row := some rb) ⟨hg.os, hg.tape, hg.output, hg.size, fun k hk hr => hg.block k hk (fun q => hr (by rw [q])) (by simp)⟩ ?_
  rcases h.2 with ⟨rfl, _⟩ | ⟨g, cap, cur, rfl, _, hgg, _⟩
  · exact .inl rfl
  · refine .inr (fun q => ?_)
    have : g = rb := by simpa [Value.ownBlock] using q
    subst this
    have hb' : wr.heap[g]? = some (.cells cs 65 (0, 0)) := hb
    rw [hgg] at hb'
    injection hb' with hb'
    injection hb' with _ hb'
    exact ht hb'
theorem RS.grown {base size m : Nat} {t : TypeId} {v : Value} {xs : List Value} (h : RS w1 rb e A n c ts K nm NV ns at_ wr) (ho : wr.ownsRow base t size v m xs) (hbase : w1.heap.size ≤ base) (h1 : t ≠ 3) (h2 : t ≠ 65) (hg : wr.grownBy w' v.ownBlock) : RS w1 rb e A n c ts K nm NV ns at_ w' := by
  refine ⟨own_below ho hg h.bel hbase h.bel.size, h.toks, h.blk.grown hg (fun q => ?_), own_apart' h.own ho (Ne.symm h1) hg, h.ge⟩
  rcases ho.2 with ⟨rfl, _⟩ | ⟨g, cap, cur, rfl, _, hgg, _⟩
  · cases q
  · have : rb = g := by simpa [Value.ownBlock] using q
    subst this
    have hb' : wr.heap[rb]? = some (.cells _ 65 (0, 0)) := h.blk
    rw [hgg] at hb'
    injection hb' with hb'
    injection hb' with _ hb'
    exact h2 hb'
/-- .. behind a command. -/
structure PAt (w1 : World) (rb e : Nat) (o d : Value) (w' : World) (ts : List Tok) (OUT : List Cm) (dps : List Nat) (A : Option Addr) (n c : Nat) (K : Int) (nm : ByteArray) (NV : Value) (ns : List Int) (at_ : Int) : Prop where
  rs : RS w1 rb e A n c ts K nm NV ns at_ w'
  outs : w'.ownsRow w1.heap.size 46 4 o OUT.length (OUT.flatMap decC)
  each : ∀ x ∈ OUT, CmOwn w1.heap.size w' x
  dgs : w'.ownsRow w1.heap.size 62 2 d dps.length ((dps.map fun p => (7, p)).flatMap decD)
theorem PAt.cmd (h : PAt w1 rb e o d wr ts OUT dps A n c K nm NV ns at_) {A' : Option Addr} {n' c' : Nat} {K' : Int} {nm' : ByteArray} {NV' : Value} {ns' : List Int} {at' : Int} {ts' : List Tok} (hr : RS w1 rb e A' n' c' ts' K' nm' NV' ns' at' w') (hg : Gr rb none wr w') :
    PAt w1 rb e o d w' ts' OUT dps A' n' c' K' nm' NV' ns' at' :=
  ⟨hr, own_gr h.outs hg h.rs.blk (by decide), fun x hx => (h.each x hx).gr hg h.rs.blk, own_gr h.dgs hg h.rs.blk (by decide)⟩
theorem PAt.up (h : PAt w1 rb e o d w' ts OUT dps A n c K nm NV ns at_) (hb : Below w'.heap.size w' w2) : PAt w1 rb e o d w2 ts OUT dps A n c K nm NV ns at_ :=
  ⟨h.rs.up hb, own_keep h.outs hb, fun x hx => (h.each x hx).up hb, own_keep h.dgs hb⟩
/-- One command more. -/
theorem PAt.more (h : PAt w1 rb e o d w2 ts OUT dps A n c K nm NV ns at_) (hg : w2.grownBy w3 o.ownBlock) {x : Cm} (hx : CmOwn w1.heap.size w2 x) (ho : w3.ownsRow w1.heap.size 46 4 o' (OUT.length + 1) (OUT.flatMap decC ++ decC x)) :
    PAt w1 rb e o' d w3 ts (OUT ++ [x]) dps A n c K nm NV ns at_ := by
  refine ⟨h.rs.grown h.outs (Nat.le_refl _) (by decide) (by decide) hg, ?_, fun y hy => ?_, own_apart' h.dgs h.outs (by decide) hg⟩
  · rw [List.length_append, List.flatMap_append, List.flatMap_singleton]; exact ho
  · rcases List.mem_append.1 hy with hy | hy
    · exact (h.each y hy).grown h.outs (by decide) hg
    · rw [List.mem_singleton.1 hy]; exact hx.grown h.outs (by decide) hg
/-- One diagnostic more. -/
theorem PAt.diag (h : PAt w1 rb e o d w2 ts OUT dps A n c K nm NV ns at_) (hg : w2.grownBy w3 d.ownBlock) {p : Nat} (ho : w3.ownsRow w1.heap.size 62 2 d' (dps.length + 1) ((dps.map fun p => (7, p)).flatMap decD ++ decD (7, p))) :
    PAt w1 rb e o d' w3 ts OUT (dps ++ [p]) A n c K nm NV ns at_ := by
  refine ⟨h.rs.grown h.dgs (Nat.le_refl _) (by decide) (by decide) hg, own_apart' h.outs h.dgs (by decide) hg, fun y hy => (h.each y hy).grown h.dgs (by decide) hg, ?_⟩
  rw [List.length_append, List.map_append, List.flatMap_append, List.map_singleton, List.flatMap_singleton]; exact ho
/-- What the loop has still to do. -/
structure PTo (e : Nat) (fin : PR) (ts : List Tok) (OUT : List Cm) (dps : List Nat) : Prop where
  fin_ : ∃ F pcs, OUT.map keyQ = pcs.map keyR ∧ ts.length < F ∧ loopB e F ts ⟨pcs, dps⟩ = fin
  len : OUT.length + ts.length ≤ 2000
  wf : ∀ t ∈ ts, WfP t
  few : dps.length ≤ 20
theorem PTo.ok (h : PTo e fin ts OUT dps) (h0 : ts ≠ []) (hd : dps.length < 20) {c : PC} {m : Nat} (hr : rdB ts = (some c, m)) {x : Cm} (hx : keyQ x = keyR c) : PTo e fin (ts.drop m) (OUT ++ [x]) dps := by
  obtain ⟨F, pcs, h1, h2, h3⟩ := h.fin_
  obtain ⟨_, hm1, hm2⟩ := rd_some h.wf hr
  have hl := h.len
  refine ⟨?_, by rw [List.length_append, List.length_drop, List.length_singleton]; omega, fun t ht => h.wf t (List.mem_of_mem_drop ht), h.few⟩
  cases F with
  | zero => omega
  | succ F =>
    refine ⟨F, pcs ++ [c], by rw [List.map_append, List.map_append, h1]; simp [hx], by rw [List.length_drop]; omega, ?_⟩
    rw [← h3]
    simp only [loopB]
    rw [if_neg (by rintro (q | q); exact h0 q; exact absurd q (by omega)), hr]
theorem PTo.bad (h : PTo e fin ts OUT dps) (h0 : ts ≠ []) (hd : dps.length < 20) {m : Nat} (hr : rdB ts = (none, m)) : PTo e fin (skipB (ts.drop m)) OUT (dps ++ [posB (ts.drop m).head? e]) := by
  obtain ⟨F, pcs, h1, h2, h3⟩ := h.fin_
  have hl := h.len
  have hs := skipB_len (ts.drop m)
  rw [List.length_drop] at hs
  have hp : 0 < ts.length := List.length_pos_iff.2 h0
  refine ⟨?_, by omega, fun t ht => ?_, by rw [List.length_append, List.length_singleton]; omega⟩
  · cases F with
    | zero => omega
    | succ F =>
      refine ⟨F, pcs, h1, by omega, ?_⟩
      rw [← h3]
      simp only [loopB]
      rw [if_neg (by rintro (q | q); exact h0 q; exact absurd q (by omega)), hr]
  · unfold skipB at ht
    exact h.wf t (List.mem_of_mem_drop ((List.dropWhile_sublist _).subset (List.mem_of_mem_tail ht)))
theorem PTo.done (h : PTo e fin ts OUT dps) (h0 : ts = [] ∨ dps.length = 20) : OUT.map keyQ = fin.out.map keyR ∧ dps = fin.dgs := by
  obtain ⟨F, pcs, h1, h2, h3⟩ := h.fin_
  have : loopB e F ts ⟨pcs, dps⟩ = ⟨pcs, dps⟩ := by
    cases F with
    | zero => rfl
    | succ F => simp only [loopB]; rw [if_pos h0]
  rw [this] at h3
  subst h3
  exact ⟨h1, rfl⟩
theorem semi_fit {t : Tok} (h : WfP t) : (t.text.data.toList == [59]) = !decide (t.kind ≠ 3) := by
  by_cases h3 : t.kind = 3
  · rw [h.1.w3 h3, decide_eq_false (fun q => q h3)]; rfl
  · rw [decide_eq_true h3]
    rw [Bool.not_true, beq_eq_false_iff_ne]
    by_cases h2 : t.kind = 2
    · rw [h.1.w2 h2]; simp
    · exact (h.1.w1 h2 h3).2.1
theorem skip_semi : ∀ (ts : List Tok), (∀ t ∈ ts, WfP t) → (semiI ts = -1 ∧ skipB ts = []) ∨ (∃ k : Nat, semiI ts = (k : Nat) ∧ k < ts.length ∧ skipB ts = ts.drop (k + 1))
  | [], _ => .inl ⟨rfl, rfl⟩
  | t :: r, h => by
    have ht := semi_fit (h t (List.mem_cons_self ..))
    have ih := skip_semi r (fun u hu => h u (List.mem_cons_of_mem _ hu))
    unfold semiI skipB
    rw [List.findIdx?_cons]
    by_cases h3 : t.kind = 3
    · have e1 : (t.text.data.toList == [59]) = true := by rw [ht, decide_eq_false (fun q => q h3)]; rfl
      rw [e1, List.dropWhile_cons_of_neg (by simpa using h3)]
      exact .inr ⟨0, rfl, by simp, rfl⟩
    · have e1 : (t.text.data.toList == [59]) = false := by rw [ht, decide_eq_true h3]; rfl
      rw [e1, List.dropWhile_cons_of_pos (by simpa using h3)]
      unfold semiI skipB at ih
      rcases ih with ⟨a, b⟩ | ⟨k, a, b, c⟩
      · refine .inl ⟨?_, b⟩
        revert a
        cases r.findIdx? (fun t => t.text.data.toList == [59]) with
        | none => intro _; rfl
        | some j => intro a; exact absurd a (by simp)
      · refine .inr ⟨k + 1, ?_, by simp; omega, by rw [List.drop_succ_cons]; exact c⟩
        revert a
        cases r.findIdx? (fun t => t.text.data.toList == [59]) with
        | none => intro a; exact absurd a (by simp)
        | some j => intro a; have : j = k := by have h2 : (j : Int) = (k : Int) := (by simpa using a); omega
                    subst this; rfl
end
end Go.Proofs.YtmdogklgbifacaaDoor.Ps
