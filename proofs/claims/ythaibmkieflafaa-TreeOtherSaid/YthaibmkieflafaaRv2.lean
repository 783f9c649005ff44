/- A range over a function whose iterator hands over memory that it has made: its contract says, at each round, what that memory holds (V). -/
import Derived.RangeFuncWrites
import Derived.RangeFuncBound
import Derived.RangeFuncLeaves
import Derived.Test.YthaibmkieflafaaRnd
import Derived.Test.YthaibmkieflafaaCom
namespace Go.Proofs.Ythaibmkieflafaa
open Go.RowKit
set_option linter.unusedVariables false

theorem below_put {B L : Nat} {W W' : World} (h : Below B W W') (hL : L < W.heap.size) (o : Obj) : Below B (W.putObj L o) (W'.putObj L o) :=
  ⟨h.os, h.tape, h.output, by simpa using h.size, fun i hi => by
    have := h.block i hi
    by_cases e : i = L
    · subst e
      rw [World.putObj_heap_same hL, World.putObj_heap_same (Nat.lt_of_lt_of_le hL h.size)]
    · rw [World.putObj_heap_other e, World.putObj_heap_other e, this]⟩

section
variable {F : Fence} {n : Nat} {P : Program}

/-- The marks of loops that are over: their blocks hold no deferred call. -/
def Marks (B : Nat) (W : World) (ds : List Deferred) : Prop :=
  ∃ Ds : List Nat, ds = Ds.map (fun D => { target := .collected D, args := #[] }) ∧ Ds.Nodup ∧ ∀ D ∈ Ds, B ≤ D ∧ W.heap[D]? = some (.deferred (some []))
theorem Marks.nil (B : Nat) (W : World) : Marks B W [] := ⟨[], rfl, List.nodup_nil, fun D h => by cases h⟩
theorem Marks.up {B : Nat} {W W' : World} {ds : List Deferred} (h : Marks B W ds) (hb : Below W.heap.size W W') : Marks B W' ds := by
  obtain ⟨Ds, rfl, h1, h2⟩ := h
  exact ⟨Ds, rfl, h1, fun D hD => ⟨(h2 D hD).1, (hb.block D (Array.getElem?_eq_some_iff.1 (h2 D hD).2).1).trans (h2 D hD).2⟩⟩
theorem Marks.keeps {B C : Nat} {W W' : World} {ds : List Deferred} (h : Marks B W ds) (hC : C ≤ B) (hk : KeepsFrom C W W') : Marks B W' ds := by
  obtain ⟨Ds, rfl, h1, h2⟩ := h
  exact ⟨Ds, rfl, h1, fun D hD => ⟨(h2 D hD).1, hk.same D _ (by have := (h2 D hD).1; omega) (h2 D hD).2 rfl⟩⟩
theorem Marks.cons {B D : Nat} {W W0 : World} {ds : List Deferred} (h : Marks B W ds) (h0 : Marks B W0 ds) (hs : W0.heap.size ≤ D) (hD : B ≤ D) (hd : W.heap[D]? = some (.deferred (some []))) : Marks B W ({ target := .collected D, args := #[] } :: ds) := by
  obtain ⟨Ds, rfl, h1, h2⟩ := h
  obtain ⟨Es, e, _, h4⟩ := h0
  have hE : Es = Ds := by
    have := congrArg (List.map (fun d : Deferred => match d.target with | .collected D => D | _ => 0)) e
    simpa [List.map_map, Function.comp_def] using this.symm
  subst hE
  refine ⟨D :: Es, rfl, List.nodup_cons.2 ⟨fun hm => ?_, h1⟩, fun E hE => ?_⟩
  · have := (Array.getElem?_eq_some_iff.1 (h4 D hm).2).1
    omega
  · rcases List.mem_cons.1 hE with rfl | hE
    · exact ⟨hD, hd⟩
    · exact h2 E hE
/-- Out through the marks. -/
theorem leaves_marks {fn : Func} {tmps : Array Value} {R : Ending → World → Prop} {B : Nat} : ∀ (Ds : List Nat) (W : World), Ds.Nodup → (∀ D ∈ Ds, B ≤ D ∧ W.heap[D]? = some (.deferred (some []))) →
    (∀ W', W'.heap.size = W.heap.size → W'.os = W.os → W'.tape = W.tape → W'.output = W.output → (∀ k o, W.heap[k]? = some o → (k < B ∨ o.isCells = true) → W'.heap[k]? = some o) → (∀ (β : Type) (J : β → World → Prop) (s : β) , OwnFrom B J → J s W → J s W') → LeavesInM F n P fn tmps R [] .returning W') →
    LeavesInM F n P fn tmps R (Ds.map (fun D => { target := .collected D, args := #[] })) .returning W
  | [], W, _, _, h => h W rfl rfl rfl rfl (fun _ _ h _ => h) (fun _ _ _ _ h => h)
  | D :: Ds, W, hn, hd, h => by
    obtain ⟨hn1, hn2⟩ := List.nodup_cons.1 hn
    obtain ⟨hB, hD⟩ := hd D (by simp)
    refine ⟨by simp, .inl ⟨_, _, rfl, run_takeDeferred hD, ?_⟩⟩
    refine leaves_marks Ds _ hn2 (fun E hE => ⟨(hd E (by simp [hE])).1, ?_⟩) (fun W' h1 h2 h3 h4 h5 h6 => h W' (by rw [h1]; simp) h2 h3 h4 (fun k o hk ho => h5 k o ?_ ho) (fun β J s hJ hs => h6 β J s hJ (hJ.putObj _ hs hB hD rfl)))
    · rw [World.putObj_heap_other (fun e => by subst e; exact hn1 hE)]
      exact (hd E (by simp [hE])).2
    · rw [World.putObj_heap_other ?_]
      · exact hk
      · rintro rfl
        rcases ho with ho | ho
        · omega
        · rw [hD] at hk
          injection hk with hk
          subst hk
          cases ho
theorem Marks.leaves {fn : Func} {tmps : Array Value} {R : Ending → World → Prop} {B : Nat} {W : World} {ds : List Deferred} (h : Marks B W ds)
    (hk : ∀ W', W'.heap.size = W.heap.size → W'.os = W.os → W'.tape = W.tape → W'.output = W.output → (∀ k o, W.heap[k]? = some o → (k < B ∨ o.isCells = true) → W'.heap[k]? = some o) → (∀ (β : Type) (J : β → World → Prop) (s : β) , OwnFrom B J → J s W → J s W') → LeavesInM F n P fn tmps R [] .returning W') :
    LeavesInM F n P fn tmps R ds .returning W := by
  obtain ⟨Ds, rfl, h1, h2⟩ := h
  exact leaves_marks Ds W h1 h2 hk

/-- The iterator's word: it hands over x only where V pre x holds; it is never stopped. -/
def SeqV2 {α : Type} (F : Fence) (n : Nat) (P : Program) (g : Nat) (lb : Array Value) (encs : α → Array Value) (V : List α → α → Nat → World → Prop) (Kp : α → World → World → Prop) (S : List α → Prop) (w0 : World) : Prop :=
  ∀ (l : Nat) (J : List α → World → Prop) (W : World), Below w0.heap.size w0 W → OwnFrom W.heap.size J →
    (∀ pre x Wp W1, J pre Wp → Below Wp.heap.size Wp W1 → V pre x Wp.heap.size W1 → YieldAt F (n - 1) P l (encs x) W1 fun e W' => e = .returned (.bool true) ∧ J (pre ++ [x]) W' ∧ Kp x W1 W') → J [] W →
    CallsIn F n P g (#[.func (.yield l) #[] #[]] ++ lb) W fun e W' => (∃ v, e = .returned v) ∧ ∃ xs, S xs ∧ J xs W'

theorem wpIn_rangeFunc_V2 {α : Type} {g : Operand} {ps : Array Tmp} {assign body : Code} {Q : Exit → Act → World → Prop} {a : Act} {w : World}
    (hro : F.round = none) (h1 : 1 ≤ n) {gf : Nat} {lb : Array Value} (hg : a.eval g = .func (.func gf) #[] lb) (hFg : F.fn gf) (eg : ∀ args w, (callFunc gf args).run P w = .ok (.enter gf args) w)
    {encs : α → Array Value} {V : List α → α → Nat → World → Prop} {Kp : α → World → World → Prop} {S : List α → Prop} {w0 : World} (hseq : SeqV2 F (n - 1) P gf lb encs V Kp S w0)
    (hKt : ∀ {x : α} {A B C : World}, Kp x A B → Kp x B C → Kp x A C) (hKb : ∀ (x : α) (W : World) (l : Nat) (r : Loop) (o' : Obj), w.heap.size ≤ l → W.heap[l]? = some (.loop r) → Kp x W (W.putObj l o')) (hb0 : Below w0.heap.size w0 w) (hps : ∀ x, (encs x).size = ps.size)
    (hV : ∀ pre x h, OwnFrom w.heap.size (fun (_ : Unit) W => V pre x h W))
    (I : List α → World → Prop) (hI : OwnFrom w.heap.size I) (h0 : I [] w) (a₁ : α → Act)
    (hassign : ∀ (l : Nat) (x : α) (W : World) (K : Act → World → Prop), K (a₁ x) W →
      assign.wpIn (F.inRound l) (n - 1 - 1) P (Exit.then K (fun _ _ _ => False)) { tmps := (ps.zip (encs x)).foldl (fun t (p, v) => t.setIfInBounds p v) a.tmps, defers := [] } W)
    (hbody : ∀ (l : Nat) (pre : List α) (x : α) (Wp W : World), I pre Wp → w.heap.size ≤ Wp.heap.size → Below Wp.heap.size Wp W → V pre x Wp.heap.size W → body.wpIn (F.inRound l) (n - 1 - 1) P (ownPostG w.heap.size (Kp x) I (fun _ _ _ => False) (pre ++ [x]) W) (a₁ x) W)
    (hdone : ∀ (D : Nat) (xs : List α) (W : World), w.heap.size ≤ D → S xs → I xs W → W.heap[D]? = some (.deferred (some [])) → Q .normal { a with defers := { target := .collected D, args := #[] } :: a.defers } W) :
    (Code.rangeFunc g ps assign body).wpIn F n P Q a w := by
  refine wpIn_rangeFunc ?_
  intro fn hfn
  rw [hro]
  obtain ⟨rec, hrec⟩ : ∃ rec : LoopState → Option Code → Loop, rec = fun st pe => { state := st, pending := pe, fn, tmps := a.tmps, params := ps, assign, body, defers := w.heap.size } := ⟨_, rfl⟩
  let L := w.heap.size + 1
  obtain ⟨W1, hW1⟩ : ∃ W1, (w.alloc (.deferred (some []))).alloc (.loop (rec .ready none)) = W1 := ⟨_, rfl⟩
  have sz1 : W1.heap.size = w.heap.size + 2 := by rw [← hW1]; simp
  have mk : I [] W1 ∧ W1.heap[w.heap.size + 1]? = some (.loop (rec .ready none)) ∧ W1.heap[w.heap.size]? = some (.deferred (some [])) ∧ Below w0.heap.size w0 W1 := by
    rw [← hW1]
    refine ⟨hI.alloc _ (hI.alloc _ h0), ?_, (Below.heap_alloc _ _ _ (by simp)).trans (World.alloc_heap_new w _), hb0.trans ((((Below.refl _ w).alloc (Nat.le_refl _) _).alloc (by simp) _).mono hb0.size)⟩
    have := World.alloc_heap_new (w.alloc (.deferred (some []))) (.loop (rec .ready none))
    rwa [World.size_alloc] at this
  obtain ⟨hI1, hL1, hK1, hb1⟩ := mk
  refine ⟨w.heap.size + 1, [{ target := .collected w.heap.size, args := #[] }], W1, { target := .fn (.func gf) lb, args := #[.func (.yield (w.heap.size + 1)) #[] #[]] }, W1, gf,
    #[.func (.yield (w.heap.size + 1)) #[] #[]] ++ lb, W1, by rw [← hW1, hrec]; exact run_enterLoop_outer _ _ _ _ _, by simp only [resolve, hg]; simp [go_sem], fun f' hf' => (by simp [Target.leads] at hf'; subst hf'; exact hFg), by simp [invoke, go_sem, eg], fun _ => h1, ?_⟩
  refine (hseq (w.heap.size + 1) (fun pre W => I pre W ∧ W.heap[w.heap.size + 1]? = some (.loop (rec .ready none)) ∧ W.heap[w.heap.size]? = some (.deferred (some []))) W1 hb1
    (fun s A B row hs hg' hr => ⟨hI s A B row hs.1 hg' (fun r e => ⟨by have := (hr r e).1; omega, (hr r e).2⟩), (hg'.block _ (Array.getElem?_eq_some_iff.1 hs.2.1).1 (fun e => by have := (hr _ e.symm).1; omega)).trans hs.2.1, (hg'.block _ (Array.getElem?_eq_some_iff.1 hs.2.2).1 (fun e => by have := (hr _ e.symm).1; omega)).trans hs.2.2⟩) ?_ ⟨hI1, hL1, hK1⟩).mono ?_
  · rintro pre x Wp W ⟨hi, hlp, hkp⟩ hbp hv
    have hltp : w.heap.size + 1 < Wp.heap.size := (Array.getElem?_eq_some_iff.1 hlp).1
    have hl : W.heap[w.heap.size + 1]? = some (.loop (rec .ready none)) := (hbp.block _ hltp).trans hlp
    have hk : W.heap[w.heap.size]? = some (.deferred (some [])) := (hbp.block _ (by omega)).trans hkp
    have hlt : w.heap.size + 1 < W.heap.size := (Array.getElem?_eq_some_iff.1 hl).1
    have hy := run_yield (P := P) (args := encs x) hl (by rw [hrec]; exact hps x)
    rw [hrec] at hy
    refine ⟨fn, _, assign, body, hy, roundIn_of_wpIn hfn (hassign _ x W _ ⟨_, run_beginRound hl (by rw [hrec]), ?_⟩)⟩
    obtain ⟨Wb, hWb⟩ : ∃ Wb, W.putObj (w.heap.size + 1) (.loop { rec .ready none with state := .busy }) = Wb := ⟨_, rfl⟩
    have l2 : Wb.heap[w.heap.size + 1]? = some (.loop { rec .ready none with state := .busy }) := by rw [← hWb]; exact World.putObj_heap_same hlt
    have k2 : Wb.heap[w.heap.size]? = some (.deferred (some [])) := by rw [← hWb]; exact (World.putObj_heap_other (by omega)).trans hk
    have kp2 : Kp x W Wb := by rw [← hWb]; exact hKb _ _ _ _ _ (by omega) hl
    obtain ⟨Wq, hWq⟩ : ∃ Wq, Wp.putObj (w.heap.size + 1) (.loop { rec .ready none with state := .busy }) = Wq := ⟨_, rfl⟩
    have i2 : I pre Wq := by rw [← hWq]; exact hI.putObj _ hi (by omega) hlp rfl
    have szq : Wq.heap.size = Wp.heap.size := by rw [← hWq]; simp
    have bq : Below Wq.heap.size Wq Wb := by rw [szq, ← hWq, ← hWb]; exact below_put hbp hltp _
    have v2 : V pre x Wq.heap.size Wb := by rw [szq, ← hWb]; exact (hV pre x _).putObj (s := ()) _ hv (by omega) hl rfl
    have go := hbody (w.heap.size + 1) pre x Wq Wb i2 (by omega) bq v2
    rw [← hWb] at go
    refine wpIn_mono go ?_
    rw [hWb]
    rintro e a3 W3 hp
    cases e with
    | normal =>
      obtain ⟨hk3, hkp3, hi3⟩ := hp
      have l3 := hk3.same _ _ (by omega) l2 rfl
      have k3 := hk3.same _ _ (Nat.le_refl _) k2 rfl
      have he : (Instr.endRound (w.heap.size + 1) none).run P W3 = .ok (.bool true) (W3.putObj (w.heap.size + 1) (.loop (rec .ready none))) := by
        have := run_endRound (P := P) none l3
        rw [hrec] at this ⊢
        exact this
      exact ⟨_, _, he, rfl, ⟨hI.putObj _ hi3 (by omega) l3 rfl, World.putObj_heap_same (Array.getElem?_eq_some_iff.1 l3).1, (World.putObj_heap_other (by omega)).trans k3⟩, hKt (hKt kp2 hkp3) (hKb _ _ _ _ _ (by omega) l3)⟩
    | ret => exact hp.2.elim
    | exit id => exact hp.2.elim
    | goto t => exact hp.2.elim
    | panic ch => exact hp.elim
    | outgrown => exact hp.elim
  · rintro e W2 ⟨⟨v, rfl⟩, xs, hS, hi, hl, hk⟩
    have he := run_endLoop (P := P) hl (by rw [hrec]; simp)
    rw [hrec] at he
    exact ⟨none, _, he, hdone _ xs _ (Nat.le_refl _) hS (hI.putObj _ hi (by omega) hl rfl) ((World.putObj_heap_other (by omega)).trans hk)⟩
end

/-- 'wpIn_rf' where the activation has marks already. -/
theorem wpIn_rfd {P : Program} {n : Nat} {α : Type} (cp : List (Nat × Nat)) (zs : α → List (Nat × Value)) {g : Operand} {ps : Array Tmp} {assign body : Code} {Q : Exit → Act → World → Prop} {ts : List Value} {ds : List Deferred} {w : World}
    {gf : Nat} {lb : Array Value} (hg : Act.eval { tmps := ts.toArray, defers := ds } g = .func (.func gf) #[] lb) (eg : ∀ args w, (callFunc gf args).run P w = .ok (.enter gf args) w)
    {encs : α → Array Value} {Kp : World → World → Prop} {S Sp : List α → Prop} {N : Nat} (hseq : SeqStopsK Fence.wide n P gf lb encs Kp S Sp N w)
    (hKt : ∀ {A B C : World}, Kp A B → Kp B C → Kp A C) (hKb : ∀ (W : World) (l : Nat) (o o' : Obj), w.heap.size ≤ l → W.heap[l]? = some o → o.isCells = false → o.isWalk = false → Kp W (W.putObj l o')) (hps : ∀ x, (encs x).size = ps.size)
    (I : List α → World → Prop) (Ix : Code → List α → World → Prop) (hI : OwnFrom w.heap.size I) (hIx : ∀ c, OwnFrom w.heap.size (Ix c)) (h0 : I [] w)
    (hassign : ∀ (l : Nat) (x : α) (W : World) (K : Act → World → Prop), K { tmps := (rfL (zs x) cp ts).toArray, defers := [] } W →
      assign.wpIn (Fence.wide.inRound l) (n - 1) P (Exit.then K (fun _ _ _ => False)) { tmps := (ps.zip (encs x)).foldl (fun t (p, v) => t.setIfInBounds p v) ts.toArray, defers := [] } W)
    (hbody : ∀ (l : Nat) (pre : List α) (x : α) (W : World), I pre W → pre.length < N → body.wpIn (Fence.wide.inRound l) (n - 1) P (ownPostG w.heap.size Kp I Ix (pre ++ [x]) W) { tmps := (rfL (zs x) cp ts).toArray, defers := [] } W)
    (hdone : ∀ (D : Nat) (xs : List α) (W : World), w.heap.size ≤ D → S xs → I xs W → W.heap[D]? = some (.deferred (some [])) → Q .normal { tmps := ts.toArray, defers := { target := .collected D, args := #[] } :: ds } W)
    (hstop : ∀ (D : Nat) (c : Code) (pre : List α) (W : World), w.heap.size ≤ D → Sp pre → Ix c pre W → W.heap[D]? = some (.deferred (some [])) → c.wpIn Fence.wide (n + 1) P Q { tmps := ts.toArray, defers := { target := .collected D, args := #[] } :: ds } W) :
    (Code.rangeFunc g ps assign body).wpIn Fence.wide (n + 1) P Q { tmps := ts.toArray, defers := ds } w :=
  wpIn_rangeFunc_ownG (F := Fence.wide) (n := n + 1) rfl (by omega) hg trivial eg hseq (fun h k => hKt h k) hKb (Below.refl _ _) hps I Ix hI hIx h0 (fun x => { tmps := (rfL (zs x) cp ts).toArray, defers := [] }) hassign hbody hdone hstop
/-- 'wpIn_rangeFunc_V2' with the round's frame by slots. -/
theorem wpIn_rv {P : Program} {n : Nat} {α : Type} (cp : List (Nat × Nat)) (zs : α → List (Nat × Value)) {g : Operand} {ps : Array Tmp} {assign body : Code} {Q : Exit → Act → World → Prop} {ts : List Value} {w : World}
    {gf : Nat} {lb : Array Value} (hg : Act.eval { tmps := ts.toArray, defers := [] } g = .func (.func gf) #[] lb) (eg : ∀ args w, (callFunc gf args).run P w = .ok (.enter gf args) w)
    {encs : α → Array Value} {V : List α → α → Nat → World → Prop} {Kp : α → World → World → Prop} {S : List α → Prop} (hseq : SeqV2 Fence.wide n P gf lb encs V Kp S w)
    (hKt : ∀ {x : α} {A B C : World}, Kp x A B → Kp x B C → Kp x A C) (hKb : ∀ (x : α) (W : World) (l : Nat) (r : Loop) (o' : Obj), w.heap.size ≤ l → W.heap[l]? = some (.loop r) → Kp x W (W.putObj l o')) (hps : ∀ x, (encs x).size = ps.size)
    (hV : ∀ pre x h, OwnFrom w.heap.size (fun (_ : Unit) W => V pre x h W))
    (I : List α → World → Prop) (hI : OwnFrom w.heap.size I) (h0 : I [] w)
    (hassign : ∀ (l : Nat) (x : α) (W : World) (K : Act → World → Prop), K { tmps := (rfL (zs x) cp ts).toArray, defers := [] } W →
      assign.wpIn (Fence.wide.inRound l) (n - 1) P (Exit.then K (fun _ _ _ => False)) { tmps := (ps.zip (encs x)).foldl (fun t (p, v) => t.setIfInBounds p v) ts.toArray, defers := [] } W)
    (hbody : ∀ (l : Nat) (pre : List α) (x : α) (Wp W : World), I pre Wp → w.heap.size ≤ Wp.heap.size → Below Wp.heap.size Wp W → V pre x Wp.heap.size W → body.wpIn (Fence.wide.inRound l) (n - 1) P (ownPostG w.heap.size (Kp x) I (fun _ _ _ => False) (pre ++ [x]) W) { tmps := (rfL (zs x) cp ts).toArray, defers := [] } W)
    (hdone : ∀ (D : Nat) (xs : List α) (W : World), w.heap.size ≤ D → S xs → I xs W → W.heap[D]? = some (.deferred (some [])) → Q .normal { tmps := ts.toArray, defers := [{ target := .collected D, args := #[] }] } W) :
    (Code.rangeFunc g ps assign body).wpIn Fence.wide (n + 1) P Q { tmps := ts.toArray, defers := [] } w :=
  wpIn_rangeFunc_V2 (F := Fence.wide) (n := n + 1) rfl (by omega) hg trivial eg hseq hKt hKb (Below.refl _ _) hps hV I hI h0 (fun x => { tmps := (rfL (zs x) cp ts).toArray, defers := [] }) hassign hbody hdone
theorem keepsFrom_grown {B : Nat} {W W' : World} {base size n : Nat} {e : TypeId} {v : Value} {xs : List Value} (h : W.ownsRow base e size v n xs) (hg : W.grownBy W' v.ownBlock) : KeepsFrom B W W' :=
  ⟨hg.size, fun k o _ hk ho => (hg.block k (Array.getElem?_eq_some_iff.1 hk).1 (fun e => by
    rcases h.2 with ⟨rfl, _⟩ | ⟨g, cap, cur, rfl, _, hh, _⟩
    · cases e
    · obtain rfl : k = g := by simpa [Value.ownBlock] using e
      rw [hk] at hh
      injection hh with hh
      subst hh
      cases ho)).trans hk⟩
theorem kf_trans {B : Nat} {a b c : World} (h : KeepsFrom B a b) (k : KeepsFrom B b c) : KeepsFrom B a c := ⟨Nat.le_trans h.size k.size, fun i o hi ho hc => k.same i o hi (h.same i o hi ho hc) hc⟩
end Go.Proofs.Ythaibmkieflafaa
