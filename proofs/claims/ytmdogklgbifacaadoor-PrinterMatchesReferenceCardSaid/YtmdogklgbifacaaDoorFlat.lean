/- Slices of structs: a list of decoded elements, one cell of it stored. -/
import Derived.Test.YtmdogklgbifacaaDoorOpen
import Derived.Test.YtmdogklgbifacaaDoorApp2
namespace Go.Proofs.YtmdogklgbifacaaDoor
open Go.RowKit
set_option linter.unusedVariables false

theorem one_flat {α : Type} {dec : α → List Value} (h : ∀ a, ∀ u ∈ dec a, u.oneCell' = true) (l : List α) : ∀ u ∈ l.flatMap dec, u.oneCell' = true := by
  intro u hu
  obtain ⟨a, _, ha⟩ := List.mem_flatMap.1 hu
  exact h a u ha
theorem flat_set {α : Type} {dec : α → List Value} {s : Nat} (hd : ∀ a, (dec a).length = s) : ∀ (l : List α) (i t : Nat) (v : Value) (a : α) (hi : i < l.length), t < s → dec a = (dec l[i]).set t v → (l.flatMap dec).set (i * s + t) v = (l.set i a).flatMap dec
  | [], i, _, _, _, hi, _, _ => absurd hi (by simp)
  | b :: l, 0, t, v, a, _, ht, e => by
    simp only [List.getElem_cons_zero] at e
    rw [List.flatMap_cons, Nat.zero_mul, Nat.zero_add, List.set_append_left _ _ (by rw [hd]; exact ht), List.set_cons_zero, List.flatMap_cons, e]
  | b :: l, i + 1, t, v, a, hi, ht, e => by
    simp only [List.getElem_cons_succ] at e
    rw [List.flatMap_cons, List.set_append_right _ _ (by rw [hd, Nat.add_mul]; omega), hd, show (i + 1) * s + t - s = i * s + t by rw [Nat.add_mul]; omega, List.set_cons_succ, List.flatMap_cons, flat_set hd l i t v a (by simpa using hi) ht e]
theorem rd_blk {W : World} {g : Nat} {t : TypeId} {cs : Array Value} (h : Blk W g t cs) (size n : Nat) (xs : List Value) (hx : cs.toList = xs) (hs : cs.size = n * size) : Rd W W.heap.size size (some ⟨g, 0, none⟩) n xs := by
  subst hx
  exact ⟨by simpa using hs, fun _ => ⟨g, 0, rfl, h.lt, fun j u hu => by
    rw [Nat.zero_add, h.cell]
    simpa using hu⟩⟩
theorem rd_fresh (w : World) (t : TypeId) (cs : Array Value) (size n : Nat) (xs : List Value) (hx : cs.toList = xs) (h : cs.size = n * size) : Rd (w.alloc (.cells cs t)) (w.heap.size + 1) size (some ⟨w.heap.size, 0, none⟩) n xs := by
  subst hx
  have := Rd.new w t cs (0, 0) size n h
  rwa [World.size_alloc] at this
theorem own_keep {w w' : World} {base size n : Nat} {e : TypeId} {v : Value} {xs : List Value} (h : w.ownsRow base e size v n xs) (hb : Below w.heap.size w w') : w'.ownsRow base e size v n xs :=
  h.kept (row := none) ⟨hb.os, hb.tape, hb.output, hb.size, fun k hk _ => hb.block k hk⟩ (by cases v.ownBlock <;> simp)
theorem own_base {w : World} {b b' n s : Nat} {e : TypeId} {v : Value} {xs : List Value} (h : w.ownsRow b e s v n xs) (hb : b' ≤ b) : w.ownsRow b' e s v n xs :=
  ⟨h.1, h.2.elim .inl fun ⟨g, cap, cur, hv, hg, hr⟩ => .inr ⟨g, cap, cur, hv, by omega, hr⟩⟩
end Go.Proofs.YtmdogklgbifacaaDoor
