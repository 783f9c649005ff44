/- Actions that came in. -/
import Derived.Test.YteeloebhjmmpdaaPlOpen
import Derived.Test.YteeloebhjmmpdaaMdPlain
namespace Go.Proofs.Yteeloebhjmmpdaa.Md
open Go.RowKit Go.ChangeShapes Go.WideShapes Go.Proofs.Yteeloebhjmmpdaa.Pl

def decA (a : Ac) : List Value := [i64 a.act, i64 a.ch, i64 a.st, i64 a.lo, i64 a.hi]
def wfA (a : Ac) : Prop := w64 a.act ∧ w64 a.ch ∧ w64 a.st ∧ w64 a.lo ∧ w64 a.hi
theorem cells_range : Try.prog.cellsOf 53 = 2 := by kernel_rfl
theorem cells_action : Try.prog.cellsOf 55 = 5 := by kernel_rfl
section
variable {H : Type} {enc : TypeId × Value → H} {w : World} {spare : Nat → Bool} {held : Bool}

theorem el_range (n : Nat) (cs : List Value) (y : DataW H × List MemPlace) (h : DataW.trod enc Try.prog w 0 spare held n 53 cs = some y) : ∃ p : Int × Int, cs = [i64 p.1, i64 p.2] ∧ w64 p.1 ∧ w64 p.2 := by
  obtain ⟨xs, m, _, _, hcl, hxl, hf⟩ := DataW.trod_struct Try.underlying53 h
  rw [cells_range] at hcl
  have h0 : DataW.trod enc Try.prog w 0 spare held m 3 ((cs.drop 0).take (Try.prog.cellsOf 3)) = xs[0]? := hf 0 _ rfl
  have h1 : DataW.trod enc Try.prog w 0 spare held m 3 ((cs.drop 1).take (Try.prog.cellsOf 3)) = xs[1]? := hf 1 _ rfl
  rw [cells_int] at h0 h1
  match cs, hcl, xs, hxl with
  | [c0, c1], _, [y0, y1], _ =>
    simp only [List.drop_zero, List.drop_succ_cons, List.take_succ_cons, List.take_zero, List.getElem?_cons_zero, List.getElem?_cons_succ] at h0 h1
    obtain ⟨z0, e0, w0⟩ := open_el_int Try.underlying3 _ _ _ h0
    obtain ⟨z1, e1, w1⟩ := open_el_int Try.underlying3 _ _ _ h1
    simp only [List.cons.injEq, and_true] at e0 e1
    subst e0 e1
    exact ⟨(z0, z1), rfl, w0, w1⟩

theorem el_action (n : Nat) (cs : List Value) (y : DataW H × List MemPlace) (h : DataW.trod enc Try.prog w 0 spare held n 55 cs = some y) : ∃ a, cs = decA a ∧ wfA a := by
  obtain ⟨xs, m, _, _, hcl, hxl, hf⟩ := DataW.trod_struct Try.underlying55 h
  rw [cells_action] at hcl
  have h0 : DataW.trod enc Try.prog w 0 spare held m 3 ((cs.drop 0).take (Try.prog.cellsOf 3)) = xs[0]? := hf 0 _ rfl
  have h1 : DataW.trod enc Try.prog w 0 spare held m 3 ((cs.drop 1).take (Try.prog.cellsOf 3)) = xs[1]? := hf 1 _ rfl
  have h2 : DataW.trod enc Try.prog w 0 spare held m 3 ((cs.drop 2).take (Try.prog.cellsOf 3)) = xs[2]? := hf 2 _ rfl
  have h3 : DataW.trod enc Try.prog w 0 spare held m 53 ((cs.drop 3).take (Try.prog.cellsOf 53)) = xs[3]? := hf 3 _ rfl
  rw [cells_int] at h0 h1 h2
  rw [cells_range] at h3
  match cs, hcl, xs, hxl with
  | [c0, c1, c2, c3, c4], _, [y0, y1, y2, y3], _ =>
    simp only [List.drop_zero, List.drop_succ_cons, List.take_succ_cons, List.take_zero, List.getElem?_cons_zero, List.getElem?_cons_succ] at h0 h1 h2 h3
    obtain ⟨z0, e0, w0⟩ := open_el_int Try.underlying3 _ _ _ h0
    obtain ⟨z1, e1, w1⟩ := open_el_int Try.underlying3 _ _ _ h1
    obtain ⟨z2, e2, w2⟩ := open_el_int Try.underlying3 _ _ _ h2
    obtain ⟨p, e3, w3, w4⟩ := el_range _ _ _ h3
    simp only [List.cons.injEq, and_true] at e0 e1 e2 e3
    obtain ⟨rfl, rfl⟩ := e3
    subst e0 e1 e2
    exact ⟨⟨z0, z1, z2, p.1, p.2⟩, rfl, w0, w1, w2, w3, w4⟩

theorem open_action {r : Reach} {b0 : Nat} {v : Value} {d : DataW H} {p : List MemPlace} (hv : Value.okWide Try.prog w r b0 55 v) (h : DataW.Trod enc Try.prog w 0 spare held 55 v d p) :
    ∃ a : Ac, v = .agg #[i64 a.act, i64 a.ch, i64 a.st, i64 a.lo, i64 a.hi] ∧ wfA a := open_agg decA wfA Try.underlying55 el_action hv h
/-- A []Action that came in. -/
def IsActs (w : World) (A : Option Addr) (n c : Nat) (l : List Ac) : Prop := IsList decA 5 wfA w A n c l
theorem open_acts {r : Reach} {b0 : Nat} {v : Value} {d : DataW H} {p : List MemPlace} (hv : Value.okWide Try.prog w r b0 44 v) (h : DataW.Trod enc Try.prog w 0 spare held 44 v d p) :
    ∃ A n c l, v = .slice A n c ∧ IsActs w A n c l := open_list decA 5 wfA Try.underlying44 cells_action (by decide) (fun _ => rfl) el_action hv h
end
end Go.Proofs.Yteeloebhjmmpdaa.Md
