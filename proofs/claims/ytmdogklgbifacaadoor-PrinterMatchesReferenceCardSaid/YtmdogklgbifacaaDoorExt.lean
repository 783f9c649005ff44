/- A region that draws its order, whose operations read and whose callees read or make memory: one walk, in a class of worlds that calls may extend. -/
import Derived.Deep.QuietTactic
import Derived.BigQuiet
import Derived.Test.YtmdogklgbifacaaDoorRnd
namespace Go.Proofs.YtmdogklgbifacaaDoor
open Go.RowKit

/-- A world with a fact. -/
structure WOf (Pd : World → Prop) where
  w : World
  ok : Pd w

section
variable {P : Program} {Q : Exit → Act → World → Prop}
theorem wp_region_ext (Pd : World → Prop) {id : Nat} {a : Act} {w : World} {l : List Oper} (h0 : Pd w) (hup : ∀ a b, Pd a → Below a.heap.size a b → Pd b) (hm : P.follows .mixedOrders = true) (hB : Region.lexB .any l.toArray = true)
    (h : Nonempty (WOf Pd) → wpQuiet P l.toArray (fun w' => ∃ s : WOf Pd, w' = s.w) (fun a' => ∀ w', (∃ s : WOf Pd, w' = s.w) → Q .normal a' w') l a) : (Code.region id l.toArray true).wp P Q a w :=
  wp_region_quiet (C := fun w' => ∃ s : WOf Pd, w' = s.w) hm hB ⟨⟨_, hup w w.drew h0 (Below.refl _ _).drew⟩, rfl⟩ (by simpa using h ⟨⟨w, h0⟩⟩)

theorem wpIn_region_ext (Pd : World → Prop) {r n : Nat} {id : Nat} {a : Act} {w : World} {l : List Oper} (h0 : Pd w) (hup : ∀ a b, Pd a → Below a.heap.size a b → Pd b) (hm : P.follows .mixedOrders = true) (hnd : noDefer l = true) (hout : ¬ LetsOut Q) (hB : Region.lexB .any l.toArray = true)
    (h : Nonempty (WOf Pd) → wpQuiet P l.toArray (fun w' => ∃ s : WOf Pd, w' = s.w) (fun a' => ∀ w', (∃ s : WOf Pd, w' = s.w) → Q .normal a' w') l a) : (Code.region id l.toArray true).wpIn (Fence.wide.inRound r) n P Q a w := by
  refine wpIn_region_of_any hm (noDefer_spec hnd) hout ?_
  simp only [Region.lexB, Bool.and_eq_true] at hB
  refine wpAny_of_quiet (C := fun w' => ∃ s : WOf Pd, w' = s.w) (Q := fun a' => ∀ w', (∃ s : WOf Pd, w' = s.w) → Q .normal a' w') (fun _ w' hw' h => h w' hw') _ _ _ _ ⟨⟨_, hup w w.drew h0 (Below.refl _ _).drew⟩, rfl⟩ ?_
  have := wpAnyQ_lex (C := fun w' => ∃ s : WOf Pd, w' = s.w) (md := .any) hB.1 l 0 (Array.replicate l.toArray.size false) a (by simp) (by simpa using hB.2) (h ⟨⟨w, h0⟩⟩)
  simpa using this

/-- A callee's contract, met in a world of the class. -/
theorem calls_ext {Pd : World → Prop} (hup : ∀ a b, Pd a → Below a.heap.size a b → Pd b) {f : FuncId} {args : Array Value} {s : WOf Pd} {v : Value}
    (h : Calls P f args s.w fun e w' => e = .returned v ∧ Below s.w.heap.size s.w w') : Calls P f args s.w fun e w'' => e = .returned v ∧ ∃ s' : WOf Pd, w'' = s'.w :=
  h.mono fun _ w' ⟨he, hb⟩ => ⟨he, ⟨w', hup _ _ s.ok hb⟩, rfl⟩
theorem calls_ext_same {Pd : World → Prop} {f : FuncId} {args : Array Value} {s : WOf Pd} {v : Value}
    (h : Calls P f args s.w fun e w' => e = .returned v ∧ s.w = w') : Calls P f args s.w fun e w'' => e = .returned v ∧ ∃ s' : WOf Pd, w'' = s'.w :=
  h.mono fun _ _ ⟨he, hb⟩ => ⟨he, s, hb.symm⟩
end
end Go.Proofs.YtmdogklgbifacaaDoor
