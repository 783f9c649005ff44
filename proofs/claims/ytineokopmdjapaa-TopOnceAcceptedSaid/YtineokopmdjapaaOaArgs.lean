/- What is on the air, as it came in; and one hearing of a frame. -/
import Derived.Test.YtineokopmdjapaaOaOnce
namespace Go.Proofs.Ytineokopmdjapaa.Oa
open Go.RowKit Go.ChangeShapes Go.WideShapes
set_option linter.unusedVariables false

structure Air where
  wait : UInt8
  from_ : UInt8
  again : Bool
  which : UInt8
  often : UInt8
def decAir (a : Air) : List Value := [ub a.wait, ub a.from_, .bool a.again, ub a.which, ub a.often]
theorem cells_u8 : Try.prog.cellsOf 5 = 1 := by kernel_rfl
theorem cells_bool : Try.prog.cellsOf 4 = 1 := by kernel_rfl
theorem cells_air : Try.prog.cellsOf 28 = 5 := by kernel_rfl
section
variable {H : Type} {enc : TypeId × Value → H} {w : World} {spare : Nat → Bool} {held : Bool}
theorem el_air (n : Nat) (cs : List Value) (y : DataW H × List MemPlace) (h : DataW.trod enc Try.prog w 0 spare held n 28 cs = some y) : ∃ a, cs = decAir a ∧ True := by
  obtain ⟨xs, m, _, _, hcl, hxl, hf⟩ := DataW.trod_struct Try.underlying28 h
  rw [cells_air] at hcl
  have h0 : DataW.trod enc Try.prog w 0 spare held m 5 ((cs.drop 0).take (Try.prog.cellsOf 5)) = xs[0]? := hf 0 _ rfl
  have h1 : DataW.trod enc Try.prog w 0 spare held m 5 ((cs.drop 1).take (Try.prog.cellsOf 5)) = xs[1]? := hf 1 _ rfl
  have h2 : DataW.trod enc Try.prog w 0 spare held m 4 ((cs.drop 2).take (Try.prog.cellsOf 4)) = xs[2]? := hf 2 _ rfl
  have h3 : DataW.trod enc Try.prog w 0 spare held m 5 ((cs.drop 3).take (Try.prog.cellsOf 5)) = xs[3]? := hf 3 _ rfl
  have h4 : DataW.trod enc Try.prog w 0 spare held m 5 ((cs.drop 4).take (Try.prog.cellsOf 5)) = xs[4]? := hf 4 _ rfl
  rw [cells_u8] at h0 h1 h3 h4
  rw [cells_bool] at h2
  match cs, hcl, xs, hxl with
  | [c0, c1, c2, c3, c4], _, [y0, y1, y2, y3, y4], _ =>
    simp only [List.drop_zero, List.drop_succ_cons, List.take_succ_cons, List.take_zero, List.getElem?_cons_zero, List.getElem?_cons_succ] at h0 h1 h2 h3 h4
    obtain ⟨z0, e0, _⟩ := open_el_byte Try.underlying5 _ _ _ h0
    obtain ⟨z1, e1, _⟩ := open_el_byte Try.underlying5 _ _ _ h1
    obtain ⟨z2, e2, _⟩ := DataW.trod_bool Try.underlying4 h2
    obtain ⟨z3, e3, _⟩ := open_el_byte Try.underlying5 _ _ _ h3
    obtain ⟨z4, e4, _⟩ := open_el_byte Try.underlying5 _ _ _ h4
    simp only [List.cons.injEq, and_true] at e0 e1 e2 e3 e4
    subst e0 e1 e2 e3 e4
    exact ⟨⟨z0, z1, z2, z3, z4⟩, rfl, trivial⟩
/-- A []W17Air that came in. -/
def IsAir (w : World) (A : Option Addr) (n c : Nat) (l : List Air) : Prop := IsList decAir 5 (fun _ => True) w A n c l
theorem open_air {r : Reach} {b0 : Nat} {v : Value} {d : DataW H} {p : List MemPlace} (hv : Value.okWide Try.prog w r b0 23 v) (h : DataW.Trod enc Try.prog w 0 spare held 23 v d p) :
    ∃ A n c l, v = .slice A n c ∧ IsAir w A n c l := open_list decAir 5 (fun _ => True) Try.underlying23 cells_air (by decide) (fun _ => rfl) el_air hv h
theorem open_u32 {t : TypeId} {r : Reach} {b0 : Nat} {v : Value} {d : DataW H} {p : List MemPlace} (ht : Try.prog.underlying t = some (.int .u32)) (hv : Value.okWide Try.prog w r b0 t v) (h : DataW.Trod enc Try.prog w 0 spare held t v d p) : ∃ x : Nat, v = .int .u32 (x : Int) ∧ x < 4294967296 := by
  obtain ⟨x, rfl, hw⟩ := open_i ht hv h
  have hb := bounds_u32 hw
  exact ⟨x.toNat, by rw [show ((x.toNat : Nat) : Int) = x by omega], by omega⟩
end

/-- A window and the slots: valid, and its top lies before the counter of slot a. -/
def okw (a : Nat) (p : Nat × Nat) : Prop := vw p.1 p.2 ∧ p.2 < 2 ^ 64 ∧ p.1 ≤ a
theorem okw.mono {a b : Nat} {p : Nat × Nat} (h : okw a p) (hb : a ≤ b) : okw b p := ⟨h.1, h.2.1, Nat.le_trans h.2.2 hb⟩
/-- The windows after a frame of sender j was heard k times in slot a. -/
def LL (old : Bool) (L : List (Nat × Nat)) (j a k : Nat) : List (Nat × Nat) := if old = true ∨ k = 0 then L else L.set j (a + 1, nb (L.getD j (0, 0)).1 (L.getD j (0, 0)).2 (a + 1))
theorem LL_zero (old : Bool) (L : List (Nat × Nat)) (j a : Nat) : LL old L j a 0 = L := by simp [LL]
/-- How often it was accepted. -/
def acn (old : Bool) (k : Nat) : Nat := if old = true ∨ k = 0 then 0 else 1

theorem acc_any (old : Bool) (A : Option Addr) (c : Nat) (L : List (Nat × Nat)) (j fr fa a k : Nat) (hL4 : L.length = 4) (hok : ∀ p ∈ L, okw a p) (ha : a ≤ 999999999) (hj : j < 4) (h1 : old = true → fa ≠ a) (h2 : old = false → fr = j ∧ fa = a)
    (w : World) (hW : Win w A 4 c (LL old L j a k)) :
    Calls Try.prog 7 #[.slice A 4 c, fv 1 (fr : Nat) (-1) (fa : Nat) ((fa / 2000 + 1 : Nat) : Int) (.slice none 0 0), rv a, i64 (a : Nat)] w
      fun e w' => (∃ A' c', e = .returned (.tuple #[.slice A' 4 c', .bool (!old && decide (k = 0))]) ∧ Win w' A' 4 c' (LL old L j a (k + 1))) ∧ Below w.heap.size w w' := by
  have hjl : j < L.length := by omega
  have hp := hok _ (List.getElem_mem hjl)
  have hD : L.getD j (0, 0) = L[j] := by rw [List.getD_eq_getElem?_getD, List.getElem?_eq_getElem hjl]; rfl
  cases old with
  | true =>
    refine (acc_old A 4 c 1 fr (-1) _ fa a none 0 0 (h1 rfl) (by omega) w).mono ?_
    rintro e w' ⟨rfl, hb⟩
    refine ⟨⟨A, c, rfl, ?_⟩, hb⟩
    have e1 : LL true L j a (k + 1) = LL true L j a k := by simp [LL]
    rw [e1]
    exact hW.up hb
  | false =>
    obtain ⟨rfl, rfl⟩ := h2 rfl
    by_cases hk : k = 0
    · subst hk
      rw [LL_zero] at hW
      refine (acc_know A 4 c L 1 (-1) fr fa none 0 0 ha (by omega) (by omega) (fa + 1) (nb L[fr].1 L[fr].2 (fa + 1)) 0 hjl (fun w => note_new L[fr].1 L[fr].2 (fa + 1) hp.1 hp.2.1 (by have := hp.2.2; omega) (by omega) w) w hW).mono ?_
      rintro e w' ⟨hb, h, _⟩
      obtain ⟨A', c', rfl, hW'⟩ := h rfl
      refine ⟨⟨A', c', rfl, ?_⟩, hb⟩
      have e1 : LL false L fr fa (0 + 1) = L.set fr (fa + 1, nb L[fr].1 L[fr].2 (fa + 1)) := by unfold LL; rw [hD]; simp
      rw [e1]
      exact hW'
    · have e1 : LL false L fr fa k = L.set fr (fa + 1, nb L[fr].1 L[fr].2 (fa + 1)) := by unfold LL; rw [hD]; simp [hk]
      have e2 : LL false L fr fa (k + 1) = L.set fr (fa + 1, nb L[fr].1 L[fr].2 (fa + 1)) := by unfold LL; rw [hD]; simp
      rw [e1] at hW
      have hl2 : fr < (L.set fr (fa + 1, nb L[fr].1 L[fr].2 (fa + 1))).length := by simpa using hjl
      refine (acc_know A 4 c _ 1 (-1) fr fa none 0 0 ha (by omega) (by omega) 0 0 14 hl2 (fun w => ?_) w hW).mono ?_
      · rw [List.getElem_set_self]
        have hlt : L[fr].1 < fa + 1 := by have := hp.2.2; omega
        exact note_same (fa + 1) (nb L[fr].1 L[fr].2 (fa + 1)) (vw_nb hp.1 hlt (by omega)) (nb_lt _ _ _ hlt) (nb_odd _ _ _ hlt) (by omega) (by omega) w
      · rintro e w' ⟨hb, _, h⟩
        obtain rfl := h (by decide)
        refine ⟨⟨A, c, by simp [hk], ?_⟩, hb⟩
        rw [e2]
        exact hW.up hb
end Go.Proofs.Ytineokopmdjapaa.Oa
