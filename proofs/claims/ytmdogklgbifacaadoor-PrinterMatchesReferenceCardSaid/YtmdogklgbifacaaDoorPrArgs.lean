/- Commands that came in. -/
import Derived.Test.YtmdogklgbifacaaDoorOpen
import Derived.Test.YtmdogklgbifacaaDoorProg
import Derived.KernelRfl
namespace Go.Proofs.YtmdogklgbifacaaDoor.Pr
open Go.RowKit Go.ChangeShapes Go.WideShapes Go.Deep
set_option linter.unusedVariables false

abbrev w64 (x : Int) : Prop := (Lit.int .i64 x).wf = true
/-- A command, its numbers with the place where they lie. -/
structure Cm where
  kind : Int
  name : ByteArray
  A : Option Addr
  n : Nat
  c : Nat
  ns : List Int
  pos : Int
def iv (x : Int) : Value := .int .i64 x
def decC (x : Cm) : List Value := [.int .i64 x.kind, .string x.name, .slice x.A x.n x.c, .int .i64 x.pos]
structure Cm.In (w : World) (x : Cm) : Prop where
  kind : w64 x.kind
  name : x.name.size ≤ maxLen
  rd : Rd w w.heap.size 1 x.A x.n (x.ns.map iv)
  len : x.ns.length = x.n
  nc : x.n ≤ x.c
  cm : x.c ≤ maxLen
  wf : ∀ v ∈ x.ns, w64 v
  pos : w64 x.pos
theorem Cm.In.up {w w' : World} {x : Cm} (h : Cm.In w x) (hb : Below w.heap.size w w') : Cm.In w' x := ⟨h.kind, h.name, h.rd.up hb, h.len, h.nc, h.cm, h.wf, h.pos⟩
/-- Commands in memory. -/
def IsCms (w : World) (A : Option Addr) (n c : Nat) (l : List Cm) : Prop := IsList decC 4 (Cm.In w) w A n c l
theorem IsCms.up {w w' : World} {A : Option Addr} {n c : Nat} {l : List Cm} (h : IsCms w A n c l) (hb : Below w.heap.size w w') : IsCms w' A n c l :=
  ⟨h.1, h.2.1.up hb, h.2.2.1, h.2.2.2.1, fun x hx => (h.2.2.2.2 x hx).up hb⟩
theorem cells_int : Tryd.prog.cellsOf 3 = 1 := by kernel_rfl
theorem cells_str : Tryd.prog.cellsOf 9 = 1 := by kernel_rfl
theorem cells_ints : Tryd.prog.cellsOf 44 = 1 := by kernel_rfl
theorem cells_cmd : Tryd.prog.cellsOf 46 = 4 := by kernel_rfl
section
variable {H : Type} {enc : TypeId × Value → H} {w : World} {spare : Nat → Bool} {held : Bool}

theorem el_ints (n0 : Nat) (cs : List Value) (y : DataW H × List MemPlace) (hf : DataW.trod enc Tryd.prog w 0 spare held n0 44 cs = some y) :
    ∃ (A : Option Addr) (n c : Nat) (ns : List Int), cs = [.slice A n c] ∧ Rd w w.heap.size 1 A n (ns.map iv) ∧ ns.length = n ∧ n ≤ c ∧ c ≤ maxLen ∧ ∀ v ∈ ns, w64 v := by
  rcases open_slice Tryd.underlying44 hf with ⟨hcs, _⟩ | ⟨a, len, cap, m, n', D, Pl, hcs, _, hl, hm, hmm, hx, hi⟩
  · exact ⟨none, 0, 0, [], hcs, Rd.nil_, rfl, Nat.le_refl _, by decide, fun v hv => by cases hv⟩
  · have hlm : len ≤ m := by rw [hmm]; split <;> omega
    obtain ⟨l, hll, hr⟩ := choose_list (fun i (x : Int) => w64 x ∧ ∀ j, j < 1 → w.cell? (a.add (i * 1 + j)) = [iv x][j]?) len (fun i hin => by
      obtain ⟨cs', hc, htr⟩ := hi i (by omega)
      obtain ⟨x, rfl, hw⟩ := open_el_int Tryd.underlying3 _ _ _ htr
      obtain ⟨_, hcl, hat⟩ := World.cells?_some hc
      rw [cells_int] at hat
      exact ⟨x, hw, fun j hj => by rw [← Go.Deep.add_add]; exact hat j hj⟩)
    refine ⟨some a, len, cap, l, hcs, ⟨by simp [hll], fun hn => ?_⟩, hll, hl, hm, fun v hv => ?_⟩
    · obtain ⟨x0, hx0⟩ : ∃ x0, l[0]? = some x0 := ⟨_, List.getElem?_eq_getElem (by omega)⟩
      have h0 := (hr 0 x0 hx0).2 0 (by omega)
      have hs := World.cell?_spot h0
      obtain ⟨b, off, spot⟩ := a
      have hspot : spot = none := by simpa [Addr.add] using hs
      subst hspot
      refine ⟨b, off, rfl, by simpa [Addr.add] using cell_lt h0, fun j u hu => ?_⟩
      rw [List.getElem?_map] at hu
      obtain ⟨x, hx2, rfl⟩ := Option.map_eq_some_iff.1 hu
      have := (hr j x hx2).2 0 (by omega)
      by_cases hj0 : j = 0
      · subst hj0; simpa [Addr.add] using this
      · simpa [Addr.add, hj0] using this
    · obtain ⟨i, hix⟩ := List.getElem?_of_mem hv
      exact (hr i v hix).1
set_option maxRecDepth 100000 in
theorem el_cmd (n : Nat) (cs : List Value) (y : DataW H × List MemPlace) (h : DataW.trod enc Tryd.prog w 0 spare held n 46 cs = some y) : ∃ x, cs = decC x ∧ Cm.In w x := by
  obtain ⟨xs, m, _, _, hcl, hxl, hf⟩ := DataW.trod_struct Tryd.underlying46 h
  rw [cells_cmd] at hcl
  have h0 : DataW.trod enc Tryd.prog w 0 spare held m 3 ((cs.drop 0).take (Tryd.prog.cellsOf 3)) = xs[0]? := hf 0 _ rfl
  have h1 : DataW.trod enc Tryd.prog w 0 spare held m 9 ((cs.drop 1).take (Tryd.prog.cellsOf 9)) = xs[1]? := hf 1 _ rfl
  have h2 : DataW.trod enc Tryd.prog w 0 spare held m 44 ((cs.drop 2).take (Tryd.prog.cellsOf 44)) = xs[2]? := hf 2 _ rfl
  have h3 : DataW.trod enc Tryd.prog w 0 spare held m 3 ((cs.drop 3).take (Tryd.prog.cellsOf 3)) = xs[3]? := hf 3 _ rfl
  rw [cells_int] at h0 h3
  rw [cells_str] at h1
  rw [cells_ints] at h2
  match cs, hcl, xs, hxl with
  | [c0, c1, c2, c3], _, [y0, y1, y2, y3], _ =>
    simp only [List.drop_zero, List.drop_succ_cons, List.take_succ_cons, List.take_zero, List.getElem?_cons_zero, List.getElem?_cons_succ] at h0 h1 h2 h3
    obtain ⟨z0, e0, w0⟩ := open_el_int Tryd.underlying3 _ _ _ h0
    obtain ⟨z1, e1, _, w1⟩ := DataW.trod_string Tryd.underlying9 h1
    obtain ⟨A, nn, c, ns, e2, q1, q2, q3, q4, q5⟩ := el_ints _ _ _ h2
    obtain ⟨z3, e3, w3⟩ := open_el_int Tryd.underlying3 _ _ _ h3
    simp only [List.cons.injEq, and_true] at e0 e1 e2 e3
    subst e0 e1 e2 e3
    exact ⟨⟨z0, z1, A, nn, c, ns, z3⟩, rfl, w0, by simpa using w1, q1, q2, q3, q4, q5, w3⟩
set_option maxRecDepth 100000 in
theorem open_cms {r : Reach} {b0 : Nat} {v : Value} {d : DataW H} {p : List MemPlace} (hv : Value.okWide Tryd.prog w r b0 22 v) (h : DataW.Trod enc Tryd.prog w 0 spare held 22 v d p) :
    ∃ A n c l, v = .slice A n c ∧ IsCms w A n c l := open_list decC 4 (Cm.In w) Tryd.underlying22 cells_cmd (by decide) (fun _ => rfl) el_cmd hv h
end
end Go.Proofs.YtmdogklgbifacaaDoor.Pr
