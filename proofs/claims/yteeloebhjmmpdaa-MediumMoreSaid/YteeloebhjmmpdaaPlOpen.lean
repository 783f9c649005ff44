/- Places, jammers and actions that came in. -/
import Derived.Test.YteeloebhjmmpdaaProg
import Derived.Test.YteeloebhjmmpdaaOpen
import Derived.Test.YteeloebhjmmpdaaPlPlain
namespace Go.Proofs.Yteeloebhjmmpdaa.Pl
open Go.RowKit Go.ChangeShapes Go.WideShapes

abbrev w64 (x : Int) : Prop := (Lit.int .i64 x).wf = true
abbrev i64 (x : Int) : Value := .int .i64 x
def decP (p : Pt) : List Value := [i64 p.1, i64 p.2]
def wfP (p : Pt) : Prop := w64 p.1 ∧ w64 p.2
def decJ (j : Jm) : List Value := [i64 j.p.1, i64 j.p.2, i64 j.r, i64 j.ch, i64 j.til]
def wfJ (j : Jm) : Prop := wfP j.p ∧ w64 j.r ∧ w64 j.ch ∧ w64 j.til

theorem cells_int : Try.prog.cellsOf 3 = 1 := by kernel_rfl
theorem cells_place : Try.prog.cellsOf 25 = 2 := by kernel_rfl
theorem cells_jam : Try.prog.cellsOf 43 = 5 := by kernel_rfl
section
variable {H : Type} {enc : TypeId × Value → H} {w : World} {spare : Nat → Bool} {held : Bool}

theorem el_place (n : Nat) (cs : List Value) (y : DataW H × List MemPlace) (h : DataW.trod enc Try.prog w 0 spare held n 25 cs = some y) : ∃ p, cs = decP p ∧ wfP p := by
  obtain ⟨xs, m, _, _, hcl, hxl, hf⟩ := DataW.trod_struct Try.underlying25 h
  rw [cells_place] at hcl
  have h0 : DataW.trod enc Try.prog w 0 spare held m 3 ((cs.drop 0).take (Try.prog.cellsOf 3)) = xs[0]? := hf 0 _ rfl
  have h1 : DataW.trod enc Try.prog w 0 spare held m 3 ((cs.drop 1).take (Try.prog.cellsOf 3)) = xs[1]? := hf 1 _ rfl
  rw [cells_int] at h0 h1
  match cs, hcl, xs, hxl with
  | [c0, c1], _, [y0, y1], _ =>
    simp only [List.drop_zero, List.drop_succ_cons, List.take_succ_cons, List.take_zero, List.getElem?_cons_zero, List.getElem?_cons_succ] at h0 h1
    obtain ⟨z0, e0, w0⟩ := open_el_int Try.underlying3 _ _ _ h0
    obtain ⟨z1, e1, w1⟩ := open_el_int Try.underlying3 _ _ _ h1
    simp only [List.cons.injEq, and_true] at e0 e1
    subst e0 e1
    exact ⟨(z0, z1), rfl, w0, w1⟩

theorem el_jam (n : Nat) (cs : List Value) (y : DataW H × List MemPlace) (h : DataW.trod enc Try.prog w 0 spare held n 43 cs = some y) : ∃ j, cs = decJ j ∧ wfJ j := by
  obtain ⟨xs, m, _, _, hcl, hxl, hf⟩ := DataW.trod_struct Try.underlying43 h
  rw [cells_jam] at hcl
  have h0 : DataW.trod enc Try.prog w 0 spare held m 25 ((cs.drop 0).take (Try.prog.cellsOf 25)) = xs[0]? := hf 0 _ rfl
  have h1 : DataW.trod enc Try.prog w 0 spare held m 3 ((cs.drop 2).take (Try.prog.cellsOf 3)) = xs[1]? := hf 1 _ rfl
  have h2 : DataW.trod enc Try.prog w 0 spare held m 3 ((cs.drop 3).take (Try.prog.cellsOf 3)) = xs[2]? := hf 2 _ rfl
  have h3 : DataW.trod enc Try.prog w 0 spare held m 3 ((cs.drop 4).take (Try.prog.cellsOf 3)) = xs[3]? := hf 3 _ rfl
  rw [cells_int] at h1 h2 h3
  rw [cells_place] at h0
  match cs, hcl, xs, hxl with
  | [c0, c1, c2, c3, c4], _, [y0, y1, y2, y3], _ =>
    simp only [List.drop_zero, List.drop_succ_cons, List.take_succ_cons, List.take_zero, List.getElem?_cons_zero, List.getElem?_cons_succ] at h0 h1 h2 h3
    obtain ⟨p, e0, w0⟩ := el_place _ _ _ h0
    obtain ⟨z1, e1, w1⟩ := open_el_int Try.underlying3 _ _ _ h1
    obtain ⟨z2, e2, w2⟩ := open_el_int Try.underlying3 _ _ _ h2
    obtain ⟨z3, e3, w3⟩ := open_el_int Try.underlying3 _ _ _ h3
    simp only [List.cons.injEq, and_true, decP] at e0 e1 e2 e3
    obtain ⟨rfl, rfl⟩ := e0
    subst e1 e2 e3
    exact ⟨⟨p, z1, z2, z3⟩, rfl, w0, w1, w2, w3⟩

theorem open_agg {α : Type} (dec : α → List Value) (G : α → Prop) {t : TypeId} {fs : Array Field} {r : Reach} {b0 : Nat} {v : Value} {d : DataW H} {p : List MemPlace} (ht : Try.prog.underlying t = some (.struct fs))
    (hel : ∀ (n : Nat) (cs : List Value) (y : DataW H × List MemPlace), DataW.trod enc Try.prog w 0 spare held n t cs = some y → ∃ a, cs = dec a ∧ G a)
    (hv : Value.okWide Try.prog w r b0 t v) (h : DataW.Trod enc Try.prog w 0 spare held t v d p) : ∃ a, v = .agg (dec a).toArray ∧ G a := by
  obtain ⟨cs, rfl, _⟩ := okWide_struct ht hv
  obtain ⟨fuel, hf⟩ := h
  obtain ⟨a, e, g⟩ := hel _ _ _ hf
  refine ⟨a, ?_, g⟩
  have : cs.toList = dec a := e
  rw [← this]
theorem open_place {r : Reach} {b0 : Nat} {v : Value} {d : DataW H} {p : List MemPlace} (hv : Value.okWide Try.prog w r b0 25 v) (h : DataW.Trod enc Try.prog w 0 spare held 25 v d p) :
    ∃ a : Pt, v = .agg #[i64 a.1, i64 a.2] ∧ wfP a := open_agg decP wfP Try.underlying25 el_place hv h
theorem open_jam {r : Reach} {b0 : Nat} {v : Value} {d : DataW H} {p : List MemPlace} (hv : Value.okWide Try.prog w r b0 43 v) (h : DataW.Trod enc Try.prog w 0 spare held 43 v d p) :
    ∃ a : Jm, v = .agg #[i64 a.p.1, i64 a.p.2, i64 a.r, i64 a.ch, i64 a.til] ∧ wfJ a := open_agg decJ wfJ Try.underlying43 el_jam hv h
/-- A []Place that came in. -/
def IsPlaces (w : World) (A : Option Addr) (n c : Nat) (l : List Pt) : Prop := IsList decP 2 wfP w A n c l
theorem open_places {r : Reach} {b0 : Nat} {v : Value} {d : DataW H} {p : List MemPlace} (hv : Value.okWide Try.prog w r b0 22 v) (h : DataW.Trod enc Try.prog w 0 spare held 22 v d p) :
    ∃ A n c l, v = .slice A n c ∧ IsPlaces w A n c l := open_list decP 2 wfP Try.underlying22 cells_place (by decide) (fun _ => rfl) el_place hv h
/-- A []Jam that came in. -/
def IsJams (w : World) (A : Option Addr) (n c : Nat) (l : List Jm) : Prop := IsList decJ 5 wfJ w A n c l
theorem open_jams {r : Reach} {b0 : Nat} {v : Value} {d : DataW H} {p : List MemPlace} (hv : Value.okWide Try.prog w r b0 23 v) (h : DataW.Trod enc Try.prog w 0 spare held 23 v d p) :
    ∃ A n c l, v = .slice A n c ∧ IsJams w A n c l := open_list decJ 5 wfJ Try.underlying23 cells_jam (by decide) (fun _ => rfl) el_jam hv h
end
end Go.Proofs.Yteeloebhjmmpdaa.Pl
