/- A range over a function whose iterator writes variables of its own that it has captured (the blocks O): the caller's invariants abide that. -/
import Derived.RangeFuncWrites
import Derived.RangeFuncBound
import Derived.RangeFuncLeaves
import Derived.Test.YthaibmkieflafaaRnd
import Derived.Test.YthaibmkieflafaaCom
namespace Go.Proofs.Ythaibmkieflafaa
open Go.RowKit
set_option linter.unusedVariables false

/-- It abides new memory, the turn of whatever is no cells at or beyond B, and writes to the blocks O. -/
def OwnO {β : Type} (O : Nat → Prop) (B : Nat) (I : β → World → Prop) : Prop :=
  ∀ s W W' row, I s W → W.grownBy W' row → (∀ r, row = some r → O r ∨ (B ≤ r ∧ ∃ o : Obj, W.heap[r]? = some o ∧ o.isCells = false)) → I s W'
theorem OwnO.putObj {β : Type} {O : Nat → Prop} {B : Nat} {I : β → World → Prop} (h : OwnO O B I) {s : β} {W : World} {l : Nat} {o : Obj} (o' : Obj) (hs : I s W) (hB : B ≤ l) (hl : W.heap[l]? = some o) (ho : o.isCells = false) : I s (W.putObj l o') :=
  h s W _ (some l) hs (grownBy_putObj' W l o') (fun r e => by cases e; exact .inr ⟨hB, o, hl, ho⟩)
theorem OwnO.alloc {β : Type} {O : Nat → Prop} {B : Nat} {I : β → World → Prop} (h : OwnO O B I) {s : β} {W : World} (o : Obj) (hs : I s W) : I s (W.alloc o) :=
  h s W _ none hs ⟨rfl, rfl, rfl, by simp, fun k hk _ => Below.heap_alloc W o k hk⟩ (fun r e => by cases e)
theorem OwnO.below {β : Type} {O : Nat → Prop} {B : Nat} {I : β → World → Prop} (h : OwnO O B I) {s : β} {W W' : World} (hs : I s W) (hb : Below W.heap.size W W') : I s W' :=
  h s W _ none hs ⟨hb.os, hb.tape, hb.output, hb.size, fun k hk _ => hb.block k hk⟩ (fun r e => by cases e)
theorem OwnO.set {β : Type} {O : Nat → Prop} {B : Nat} {I : β → World → Prop} (h : OwnO O B I) {s : β} {W : World} {b : Nat} (hb : O b) (v : Value) (hs : I s W) : I s (W.setCell ⟨b, 0, none⟩ v) :=
  h s W _ (some b) hs ⟨rfl, rfl, rfl, by simp [World.setCell], fun k hk hne => Below.heap_setCell W ⟨b, 0, none⟩ v k (fun e => hne (by rw [e]))⟩ (fun r e => by cases e; exact .inl hb)
theorem OwnO.and {β : Type} {O : Nat → Prop} {B : Nat} {I J : β → World → Prop} (h : OwnO O B I) (k : OwnO O B J) : OwnO O B (fun s W => I s W ∧ J s W) := fun s W W' row hs hg hr => ⟨h s W W' row hs.1 hg hr, k s W W' row hs.2 hg hr⟩

section
variable {F : Fence} {n : Nat} {P : Program}
def SeqO {α : Type} (F : Fence) (n : Nat) (P : Program) (g : Nat) (lb : Array Value) (encs : α → Array Value) (Kp : World → World → Prop) (S Sp : List α → Prop) (N : Nat) (O : Nat → Prop) (w0 : World) : Prop :=
  ∀ (l : Nat) (J Jx : List α → World → Prop) (W : World), Below w0.heap.size w0 W → OwnO O W.heap.size J → OwnO O W.heap.size Jx →
    (∀ pre x W1, J pre W1 → pre.length < N → YieldAt F (n - 1) P l (encs x) W1 fun e W' =>
      (e = .returned (.bool true) ∧ J (pre ++ [x]) W' ∧ Kp W1 W') ∨ (e = .returned (.bool false) ∧ Jx (pre ++ [x]) W')) → J [] W →
    CallsIn F n P g (#[.func (.yield l) #[] #[]] ++ lb) W fun e W' => (∃ v, e = .returned v) ∧ ((∃ xs, S xs ∧ J xs W') ∨ (∃ pre, Sp pre ∧ Jx pre W'))

theorem wpIn_rangeFunc_O {α : Type} {g : Operand} {ps : Array Tmp} {assign body : Code} {Q : Exit → Act → World → Prop} {a : Act} {w : World}
    (hro : F.round = none) (h1 : 1 ≤ n) {gf : Nat} {lb : Array Value} (hg : a.eval g = .func (.func gf) #[] lb) (hFg : F.fn gf) (eg : ∀ args w, (callFunc gf args).run P w = .ok (.enter gf args) w)
    {encs : α → Array Value} {Kp : World → World → Prop} {S Sp : List α → Prop} {N : Nat} {O : Nat → Prop} {w0 : World} (hseq : SeqO F (n - 1) P gf lb encs Kp S Sp N O w0) (hO : ∀ r, O r → r < w.heap.size)
    (hKt : ∀ {A B C : World}, Kp A B → Kp B C → Kp A C) (hKb : ∀ (W : World) (l : Nat) (r : Loop) (o' : Obj), w.heap.size ≤ l → W.heap[l]? = some (.loop r) → Kp W (W.putObj l o')) (hb0 : Below w0.heap.size w0 w) (hps : ∀ x, (encs x).size = ps.size)
    (I : List α → World → Prop) (Ix : Code → List α → World → Prop) (hI : OwnO O w.heap.size I) (hIx : ∀ c, OwnO O w.heap.size (Ix c)) (h0 : I [] w) (a₁ : α → Act)
    (hassign : ∀ (l : Nat) (x : α) (W : World) (K : Act → World → Prop), K (a₁ x) W →
      assign.wpIn (F.inRound l) (n - 1 - 1) P (Exit.then K (fun _ _ _ => False)) { tmps := (ps.zip (encs x)).foldl (fun t (p, v) => t.setIfInBounds p v) a.tmps, defers := [] } W)
    (hbody : ∀ (l : Nat) (pre : List α) (x : α) (W : World), I pre W → pre.length < N → body.wpIn (F.inRound l) (n - 1 - 1) P (ownPostG w.heap.size Kp I Ix (pre ++ [x]) W) (a₁ x) W)
    (hdone : ∀ (D : Nat) (xs : List α) (W : World), w.heap.size ≤ D → S xs → I xs W → W.heap[D]? = some (.deferred (some [])) → Q .normal { a with defers := { target := .collected D, args := #[] } :: a.defers } W)
    (hstop : ∀ (D : Nat) (c : Code) (pre : List α) (W : World), w.heap.size ≤ D → Sp pre → Ix c pre W → W.heap[D]? = some (.deferred (some [])) → c.wpIn F n P Q { a with defers := { target := .collected D, args := #[] } :: a.defers } W) :
    (Code.rangeFunc g ps assign body).wpIn F n P Q a w := by
  refine wpIn_rangeFunc ?_
  intro fn hfn
  rw [hro]
  obtain ⟨rec, hrec⟩ : ∃ rec : LoopState → Option Code → Loop, rec = fun st pe => { state := st, pending := pe, fn, tmps := a.tmps, params := ps, assign, body, defers := w.heap.size } := ⟨_, rfl⟩
  obtain ⟨W1, hW1⟩ : ∃ W1, (w.alloc (.deferred (some []))).alloc (.loop (rec .ready none)) = W1 := ⟨_, rfl⟩
  have sz1 : W1.heap.size = w.heap.size + 2 := by rw [← hW1]; simp
  have mk : I [] W1 ∧ W1.heap[w.heap.size + 1]? = some (.loop (rec .ready none)) ∧ W1.heap[w.heap.size]? = some (.deferred (some [])) ∧ Below w0.heap.size w0 W1 := by
    rw [← hW1]
    refine ⟨hI.alloc _ (hI.alloc _ h0), ?_, (Below.heap_alloc _ _ _ (by simp)).trans (World.alloc_heap_new w _), hb0.trans ((((Below.refl _ w).alloc (Nat.le_refl _) _).alloc (by simp) _).mono hb0.size)⟩
    have := World.alloc_heap_new (w.alloc (.deferred (some []))) (.loop (rec .ready none))
    rwa [World.size_alloc] at this
  obtain ⟨hI1, hL1, hK1, hb1⟩ := mk
  have less : ∀ {A : World} {row : Option Nat}, (∀ r, row = some r → O r ∨ (W1.heap.size ≤ r ∧ ∃ o : Obj, A.heap[r]? = some o ∧ o.isCells = false)) → (∀ r, row = some r → O r ∨ (w.heap.size ≤ r ∧ ∃ o : Obj, A.heap[r]? = some o ∧ o.isCells = false)) :=
    fun hr r e => (hr r e).imp id (fun h => ⟨by omega, h.2⟩)
  have keep : ∀ {A B : World} {row : Option Nat} {k : Nat} {o : Obj}, A.grownBy B row → (∀ r, row = some r → O r ∨ (W1.heap.size ≤ r ∧ ∃ o : Obj, A.heap[r]? = some o ∧ o.isCells = false)) → w.heap.size ≤ k → k < W1.heap.size → A.heap[k]? = some o → B.heap[k]? = some o :=
    fun hg' hr h2 h3 hk => (hg'.block _ (Array.getElem?_eq_some_iff.1 hk).1 (fun e => by
      rcases hr _ e.symm with h | ⟨h, _⟩
      · have := hO _ h; omega
      · omega)).trans hk
  refine ⟨w.heap.size + 1, [{ target := .collected w.heap.size, args := #[] }], W1, { target := .fn (.func gf) lb, args := #[.func (.yield (w.heap.size + 1)) #[] #[]] }, W1, gf,
    #[.func (.yield (w.heap.size + 1)) #[] #[]] ++ lb, W1, by rw [← hW1, hrec]; exact run_enterLoop_outer _ _ _ _ _, by simp only [resolve, hg]; simp [go_sem], fun f' hf' => (by simp [Target.leads] at hf'; subst hf'; exact hFg), by simp [invoke, go_sem, eg], fun _ => h1, ?_⟩
  refine (hseq (w.heap.size + 1) (fun pre W => I pre W ∧ W.heap[w.heap.size + 1]? = some (.loop (rec .ready none)) ∧ W.heap[w.heap.size]? = some (.deferred (some [])))
    (fun pre W => ∃ c, Ix c pre W ∧ W.heap[w.heap.size + 1]? = some (.loop (rec .done (some c))) ∧ W.heap[w.heap.size]? = some (.deferred (some []))) W1 hb1
    (fun s A B row hs hg' hr => ⟨hI s A B row hs.1 hg' (less hr), keep hg' hr (by omega) (by omega) hs.2.1, keep hg' hr (by omega) (by omega) hs.2.2⟩)
    (fun s A B row hs hg' hr => by
      obtain ⟨c, hc, hl, hk⟩ := hs
      exact ⟨c, hIx c s A B row hc hg' (less hr), keep hg' hr (by omega) (by omega) hl, keep hg' hr (by omega) (by omega) hk⟩) ?_ ⟨hI1, hL1, hK1⟩).mono ?_
  · rintro pre x W ⟨hi, hl, hk⟩ hlen
    have hlt : w.heap.size + 1 < W.heap.size := (Array.getElem?_eq_some_iff.1 hl).1
    have hy := run_yield (P := P) (args := encs x) hl (by rw [hrec]; exact hps x)
    rw [hrec] at hy
    refine ⟨fn, _, assign, body, hy, roundIn_of_wpIn hfn (hassign _ x W _ ⟨_, run_beginRound hl (by rw [hrec]), ?_⟩)⟩
    obtain ⟨Wb, hWb⟩ : ∃ Wb, W.putObj (w.heap.size + 1) (.loop { rec .ready none with state := .busy }) = Wb := ⟨_, rfl⟩
    have l2 : Wb.heap[w.heap.size + 1]? = some (.loop { rec .ready none with state := .busy }) := by rw [← hWb]; exact World.putObj_heap_same hlt
    have k2 : Wb.heap[w.heap.size]? = some (.deferred (some [])) := by rw [← hWb]; exact (World.putObj_heap_other (by omega)).trans hk
    have kp2 : Kp W Wb := by rw [← hWb]; exact hKb _ _ _ _ (by omega) hl
    have i2 : I pre Wb := by rw [← hWb]; exact hI.putObj _ hi (by omega) hl rfl
    have go := hbody (w.heap.size + 1) pre x Wb i2 hlen
    rw [← hWb] at go
    refine wpIn_mono go ?_
    rw [hWb]
    have fin : ∀ (jump : Option Code) (W3 : World), KeepsFrom w.heap.size Wb W3 →
        ∃ W4, W4 = W3.putObj (w.heap.size + 1) (.loop (rec (if jump.isNone then .ready else .done) jump)) ∧ (Instr.endRound (w.heap.size + 1) jump).run P W3 = .ok (.bool jump.isNone) W4 ∧ (∃ r, W3.heap[w.heap.size + 1]? = some (.loop r)) ∧
        W4.heap[w.heap.size + 1]? = some (.loop (rec (if jump.isNone then .ready else .done) jump)) ∧ W4.heap[w.heap.size]? = some (.deferred (some [])) := fun jump W3 hk3 => by
      have l3 := hk3.same _ _ (by omega) l2 rfl
      have k3 := hk3.same _ _ (Nat.le_refl _) k2 rfl
      have := run_endRound (P := P) jump l3
      rw [hrec] at this ⊢
      exact ⟨_, rfl, this, ⟨_, l3⟩, World.putObj_heap_same (Array.getElem?_eq_some_iff.1 l3).1, (World.putObj_heap_other (by omega)).trans k3⟩
    rintro e a3 W3 hp
    cases e with
    | normal =>
      obtain ⟨hk3, hkp3, hi3⟩ := hp
      obtain ⟨W4, rfl, he, ⟨r, l3⟩, l4, k4⟩ := fin none W3 hk3
      exact ⟨_, _, he, .inl ⟨rfl, ⟨hI.putObj _ hi3 (by omega) l3 rfl, l4, k4⟩, hKt (hKt kp2 hkp3) (hKb _ _ _ _ (by omega) l3)⟩⟩
    | ret =>
      obtain ⟨hk3, hi3⟩ := hp
      obtain ⟨W4, rfl, he, ⟨r, l3⟩, l4, k4⟩ := fin (some .ret) W3 hk3
      exact ⟨_, _, he, .inr ⟨rfl, .ret, (hIx _).putObj _ hi3 (by omega) l3 rfl, l4, k4⟩⟩
    | exit id =>
      obtain ⟨hk3, hi3⟩ := hp
      obtain ⟨W4, rfl, he, ⟨r, l3⟩, l4, k4⟩ := fin (some (.exit id)) W3 hk3
      exact ⟨_, _, he, .inr ⟨rfl, .exit id, (hIx _).putObj _ hi3 (by omega) l3 rfl, l4, k4⟩⟩
    | goto t =>
      obtain ⟨hk3, hi3⟩ := hp
      obtain ⟨W4, rfl, he, ⟨r, l3⟩, l4, k4⟩ := fin (some (.goto t)) W3 hk3
      exact ⟨_, _, he, .inr ⟨rfl, .goto t, (hIx _).putObj _ hi3 (by omega) l3 rfl, l4, k4⟩⟩
    | panic ch => exact hp.elim
    | outgrown => exact hp.elim
  · rintro e W2 ⟨⟨v, rfl⟩, (⟨xs, hS, hi, hl, hk⟩ | ⟨pre, hSp, c, hi, hl, hk⟩)⟩
    · have he := run_endLoop (P := P) hl (by rw [hrec]; simp)
      rw [hrec] at he
      exact ⟨none, _, he, hdone _ xs _ (Nat.le_refl _) hS (hI.putObj _ hi (by omega) hl rfl) ((World.putObj_heap_other (by omega)).trans hk)⟩
    · have he := run_endLoop (P := P) hl (by rw [hrec]; simp)
      rw [hrec] at he
      exact ⟨some c, _, he, hstop _ c pre _ (Nat.le_refl _) hSp ((hIx c).putObj _ hi (by omega) hl rfl) ((World.putObj_heap_other (by omega)).trans hk)⟩
end

theorem wpIn_ro {P : Program} {n : Nat} {α : Type} (cp : List (Nat × Nat)) (zs : α → List (Nat × Value)) {g : Operand} {ps : Array Tmp} {assign body : Code} {Q : Exit → Act → World → Prop} {ts : List Value} {w : World}
    {gf : Nat} {lb : Array Value} (hg : Act.eval { tmps := ts.toArray, defers := [] } g = .func (.func gf) #[] lb) (eg : ∀ args w, (callFunc gf args).run P w = .ok (.enter gf args) w)
    {encs : α → Array Value} {Kp : World → World → Prop} {S Sp : List α → Prop} {N : Nat} {O : Nat → Prop} (hseq : SeqO Fence.wide n P gf lb encs Kp S Sp N O w) (hO : ∀ r, O r → r < w.heap.size)
    (hKt : ∀ {A B C : World}, Kp A B → Kp B C → Kp A C) (hKb : ∀ (W : World) (l : Nat) (r : Loop) (o' : Obj), w.heap.size ≤ l → W.heap[l]? = some (.loop r) → Kp W (W.putObj l o')) (hps : ∀ x, (encs x).size = ps.size)
    (I : List α → World → Prop) (Ix : Code → List α → World → Prop) (hI : OwnO O w.heap.size I) (hIx : ∀ c, OwnO O w.heap.size (Ix c)) (h0 : I [] w)
    (hassign : ∀ (l : Nat) (x : α) (W : World) (K : Act → World → Prop), K { tmps := (rfL (zs x) cp ts).toArray, defers := [] } W →
      assign.wpIn (Fence.wide.inRound l) (n - 1) P (Exit.then K (fun _ _ _ => False)) { tmps := (ps.zip (encs x)).foldl (fun t (p, v) => t.setIfInBounds p v) ts.toArray, defers := [] } W)
    (hbody : ∀ (l : Nat) (pre : List α) (x : α) (W : World), I pre W → pre.length < N → body.wpIn (Fence.wide.inRound l) (n - 1) P (ownPostG w.heap.size Kp I Ix (pre ++ [x]) W) { tmps := (rfL (zs x) cp ts).toArray, defers := [] } W)
    (hdone : ∀ (D : Nat) (xs : List α) (W : World), w.heap.size ≤ D → S xs → I xs W → W.heap[D]? = some (.deferred (some [])) → Q .normal { tmps := ts.toArray, defers := [{ target := .collected D, args := #[] }] } W)
    (hstop : ∀ (D : Nat) (c : Code) (pre : List α) (W : World), w.heap.size ≤ D → Sp pre → Ix c pre W → W.heap[D]? = some (.deferred (some [])) → c.wpIn Fence.wide (n + 1) P Q { tmps := ts.toArray, defers := [{ target := .collected D, args := #[] }] } W) :
    (Code.rangeFunc g ps assign body).wpIn Fence.wide (n + 1) P Q { tmps := ts.toArray, defers := [] } w :=
  wpIn_rangeFunc_O (F := Fence.wide) (n := n + 1) rfl (by omega) hg trivial eg hseq hO (fun h k => hKt h k) hKb (Below.refl _ _) hps I Ix hI hIx h0 (fun x => { tmps := (rfL (zs x) cp ts).toArray, defers := [] }) hassign hbody hdone hstop
end Go.Proofs.Ythaibmkieflafaa
