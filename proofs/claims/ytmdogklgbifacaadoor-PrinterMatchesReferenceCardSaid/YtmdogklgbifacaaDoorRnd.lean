/- A region that draws its order in the round of a loop over a function: what is shown of it in the plain calculus holds in the round. -/
import Derived.StillTailTactics
import Derived.OrdersIn
import Derived.RangeFuncCalls
import Derived.OwnWalkIn
import Derived.RangeFuncNested
import Derived.RangeFuncWrites
import Derived.Test.YtmdogklgbifacaaDoorCom
namespace Go.Proofs.YtmdogklgbifacaaDoor
open Go.RowKit

section
variable {P : Program} {ops : Array Oper} {Q : Exit → Act → World → Prop} {md : Region.Mode} {l n : Nat}

theorem rowsIn_of_rows {row : String} {args : Array Value} {w : World} {R : Value → World → Prop} (h : Rows P row args w R) : RowsIn (Fence.wide.inRound l) n P row args w R := fun c cs _ => by
  obtain ⟨v, w', r, s⟩ := h c cs
  exact ⟨v, w', r, stepsIn_wide.2 s⟩

theorem uponIn_of_upon {o : Oper} {a : Act} {next : Act → World → Prop} {r : Result Next} (h : o.upon P a next Q r) : o.uponIn (Fence.wide.inRound l) n P a next Q r := by
  cases r with
  | ok x w' =>
    cases x <;> simp only [Oper.upon, Oper.uponIn] at h ⊢ <;>
      first
        | exact h
        | exact ⟨fun h => by simp [Fence.inRound, Fence.wide] at h, (callsIn_wide.2 h).inRound l⟩
        | exact ⟨fun h => by simp [Fence.inRound, Fence.wide] at h, rowsIn_of_rows h⟩
  | halt x w' => cases x <;> simp only [Oper.upon, Oper.uponIn] at h ⊢ <;> exact h

theorem wpIn_of_wp {o : Oper} {a : Act} {w : World} {next : Act → World → Prop} (hd : ∀ c, o.op ≠ .defer c) (h : o.wp P a w next Q) : o.wpIn (Fence.wide.inRound l) n P a w next Q :=
  ⟨fun _ _ => trivial, by rw [Oper.semAt_plain _ _ _ hd]; exact uponIn_of_upon h⟩

theorem wpOpIn_of_wpOp {i : Nat} {K : Act → World → Prop} {a : Act} {w : World} (hd : ∀ o ∈ ops, ∀ c, o.op ≠ .defer c) (hout : ¬ LetsOut Q) (h : wpOp P ops Q i K a w) : wpOpIn (Fence.wide.inRound l) n P ops Q i K a w := by
  unfold wpOp at h
  unfold wpOpIn
  split
  · simpa [*] using h
  · rename_i o ho
    simp only [ho] at h
    split
    · rename_i hw
      simp only [hw, if_true] at h
      rcases h with h | h
      · exact wpIn_of_wp (hd o (Array.mem_of_getElem? ho)) h
      · exact absurd h.2 hout
    · rename_i hw
      simp only [hw] at h
      exact ⟨fun _ _ => trivial, h⟩

theorem wpAnyIn_of_wpAny (hd : ∀ o ∈ ops, ∀ c, o.op ≠ .defer c) (hout : ¬ LetsOut Q) : ∀ (fuel : Nat) (listed : Array Bool) (a : Act) (w : World), wpAny P md ops Q fuel listed a w → wpAnyIn (Fence.wide.inRound l) n P md ops Q fuel listed a w
  | 0, _, _, _, h => h
  | fuel + 1, _, _, _, h => ⟨h.1, fun i hi => wpOpIn_mono (fun a w hh => wpAnyIn_of_wpAny hd hout fuel _ a w hh) (wpOpIn_of_wpOp hd hout (h.2 i hi))⟩

/-- THE TRANSFER. -/
theorem wpIn_region_of_any {id : Nat} {a : Act} {w : World} (hm : P.follows .mixedOrders = true) (hd : ∀ o ∈ ops, ∀ c, o.op ≠ .defer c) (hout : ¬ LetsOut Q)
    (h : wpAny P .any ops Q ops.size (Array.replicate ops.size false) a w.drew) : (Code.region id ops true).wpIn (Fence.wide.inRound l) n P Q a w :=
  wpIn_region_any hm (wpAnyIn_of_wpAny hd hout _ _ _ _ h)

def noDefer (ops : List Oper) : Bool := ops.all fun o => match o.op with | .defer _ => false | _ => true
theorem noDefer_spec {ops : List Oper} (h : noDefer ops = true) : ∀ o ∈ ops.toArray, ∀ c, o.op ≠ .defer c := fun o ho c e => by
  have := List.all_eq_true.1 h o (by simpa using ho)
  rw [e] at this
  cases this

/-- Reads and quiet calls, then a tail in one forced order: in a round. -/
theorem wpIn_region_still_tail {id : Nat} {a : Act} {w : World} {ls : List Oper} (k : Nat) (hm : P.follows .mixedOrders = true) (hnd : noDefer ls = true) (hout : ¬ LetsOut Q) (hB : Region.lexTailB .any ls.toArray k = true)
    (h : wpStill P ls.toArray w.drew (fun a' => wpList P ls.toArray Q (ls.drop k) a' w.drew) (ls.take k) a) : (Code.region id ls.toArray true).wpIn (Fence.wide.inRound l) n P Q a w := by
  refine wpIn_region_of_any hm (noDefer_spec hnd) hout ?_
  simp only [Region.lexTailB, Bool.and_eq_true, decide_eq_true_eq] at hB
  obtain ⟨⟨⟨⟨hsel, hn⟩, hs⟩, hc⟩, hlex⟩ := hB
  have hn' : k < ls.length := by simpa using hn
  have htl : (ls.take k).length = k := by simp; omega
  have hdl : (ls.drop k).length = ls.toArray.size - k := by simp
  have inv0 : HeadInv .any ls.toArray k (Array.replicate ls.toArray.size false) :=
    ⟨by simp, fun j oj _ hl => (by rw [getD_replicate_false] at hl; cases hl), fun t _ ht => getD_in (by simpa using ht) (getD_replicate_false _ _)⟩
  have H := wpAnyL_lex (md := .any) (g := ls.toArray.size - k) hsel hs hc hn (ls.take k) 0 _ a (fun j hj => by
    have hj' : j < k := by rw [htl] at hj; exact hj
    simp [hj']) (by simpa using htl) inv0 (by rw [htl]; exact hlex) h
  have := wpAny_of_head (Q' := Q) (g := ls.toArray.size - k) (fun listed a' hL => by
    have := wpAny_of_seq (md := .any) (Q' := Q) (ls.drop k) k listed a' w.drew (fun j => by simp [List.getElem?_drop]) (by rw [hdl]; exact hL.1) hL.2
    rwa [hdl] at this) _ _ _ H
  rw [htl, show k + (ls.toArray.size - k) = ls.toArray.size by omega] at this
  exact this
end

/-- The frame of a round: yield's values in their slots, then copies (slot, from slot). -/
def rfL (zs : List (Nat × Value)) (cp : List (Nat × Nat)) (ts : List Value) : List Value :=
  cp.foldl (fun t p => t.set p.1 (t.getD p.2 undef)) (zs.foldl (fun t p => t.set p.1 p.2) ts)

theorem wpIn_rf {P : Program} {n : Nat} {α : Type} (cp : List (Nat × Nat)) (zs : α → List (Nat × Value)) {g : Operand} {ps : Array Tmp} {assign body : Code} {Q : Exit → Act → World → Prop} {ts : List Value} {w : World}
    {gf : Nat} {lb : Array Value} (hg : Act.eval { tmps := ts.toArray, defers := [] } g = .func (.func gf) #[] lb) (eg : ∀ args w, (callFunc gf args).run P w = .ok (.enter gf args) w)
    {encs : α → Array Value} {Kp : World → World → Prop} {S Sp : List α → Prop} {N : Nat} (hseq : SeqStopsK Fence.wide n P gf lb encs Kp S Sp N w)
    (hKt : ∀ {A B C : World}, Kp A B → Kp B C → Kp A C) (hKb : ∀ (W : World) (l : Nat) (o o' : Obj), w.heap.size ≤ l → W.heap[l]? = some o → o.isCells = false → o.isWalk = false → Kp W (W.putObj l o')) (hps : ∀ x, (encs x).size = ps.size)
    (I : List α → World → Prop) (Ix : Code → List α → World → Prop) (hI : OwnFrom w.heap.size I) (hIx : ∀ c, OwnFrom w.heap.size (Ix c)) (h0 : I [] w)
    (hassign : ∀ (l : Nat) (x : α) (W : World) (K : Act → World → Prop), K { tmps := (rfL (zs x) cp ts).toArray, defers := [] } W →
      assign.wpIn (Fence.wide.inRound l) (n - 1) P (Exit.then K (fun _ _ _ => False)) { tmps := (ps.zip (encs x)).foldl (fun t (p, v) => t.setIfInBounds p v) ts.toArray, defers := [] } W)
    (hbody : ∀ (l : Nat) (pre : List α) (x : α) (W : World), I pre W → pre.length < N → body.wpIn (Fence.wide.inRound l) (n - 1) P (ownPostG w.heap.size Kp I Ix (pre ++ [x]) W) { tmps := (rfL (zs x) cp ts).toArray, defers := [] } W)
    (hdone : ∀ (D : Nat) (xs : List α) (W : World), w.heap.size ≤ D → S xs → I xs W → W.heap[D]? = some (.deferred (some [])) → Q .normal { tmps := ts.toArray, defers := [{ target := .collected D, args := #[] }] } W)
    (hstop : ∀ (D : Nat) (c : Code) (pre : List α) (W : World), w.heap.size ≤ D → Sp pre → Ix c pre W → W.heap[D]? = some (.deferred (some [])) → c.wpIn Fence.wide (n + 1) P Q { tmps := ts.toArray, defers := [{ target := .collected D, args := #[] }] } W) :
    (Code.rangeFunc g ps assign body).wpIn Fence.wide (n + 1) P Q { tmps := ts.toArray, defers := [] } w :=
  wpIn_rangeFunc_ownG (F := Fence.wide) (n := n + 1) rfl (by omega) hg trivial eg hseq (fun h k => hKt h k) hKb (Below.refl _ _) hps I Ix hI hIx h0 (fun x => { tmps := (rfL (zs x) cp ts).toArray, defers := [] }) hassign hbody hdone hstop
theorem keepsFrom_below {B : Nat} {W W' : World} (h : Below W.heap.size W W') : KeepsFrom B W W' :=
  ⟨h.size, fun k _ _ hk _ => (h.block k (Array.getElem?_eq_some_iff.1 hk).1).trans hk⟩
theorem keepsFrom_drew {B : Nat} (W : World) : KeepsFrom B W W.drew := (KeepsOthers.drew W).from B
theorem keepsFrom_set {B : Nat} (W : World) (p : Addr) (v : Value) : KeepsFrom B W (W.setCell p v) := (KeepsOthers.setCell _ _ _).from _
end Go.Proofs.YtmdogklgbifacaaDoor
