/- The variables that the printer reads. strings.Builder's methods at a builder that is the one field of printer.text. printer's command: a line is written. printer.Print. -/
import Derived.Lib.LaidTab
import Derived.Lib.ItoaNum
import Derived.Test.YtbgekgakamincaaDoorPrT
import Derived.Test.YtbgekgakamincaaDoorLxA
import Derived.Test.YtbgekgakamincaaDoorShelf
import Derived.Shelf.Strings.BuilderK
import Derived.Shelf.Strings.BuilderRune
import Derived.Test.YtbgekgakamincaaDoorBas
import Derived.StillTailTactics
import Derived.Lib.OthersKept
import Derived.Lib.AppendIntMem
import Derived.Test.YtbgekgakamincaaDoorLxC

/- The variables that the printer reads. -/
namespace Go.Proofs.YtbgekgakamincaaDoor.Pr
open Go.RowKit Go.Proofs.YtbgekgakamincaaDoor.Lx
set_option linter.unusedVariables false

/-- The printer's forms lie in their variable. -/
def FormsIs (w : World) : Prop := ∀ i, i < 12 → w.cell? ⟨0, i, none⟩ = some (.string ⟨(formP i).toArray⟩)
structure VarP (w : World) : Prop where
  err : Vars w
  pow : Lib.TabIs Tryd.prog w "internal/strconv.uint64pow10" .u64 Lib.pow10Tab
  forms : FormsIs w
theorem gPow : Tryd.prog.globalNamed "internal/strconv.uint64pow10" = some 3 := by kernel_rfl
theorem tabIs_up {n : String} {g : Nat} {k : IntKind} {zs : List Int} {w w' : World} (hg : Tryd.prog.globalNamed n = some g) (h : Lib.TabIs Tryd.prog w n k zs) (hb : Below w.heap.size w w') : Lib.TabIs Tryd.prog w' n k zs := by
  unfold Lib.TabIs World.var? at h ⊢
  rw [hg] at h ⊢
  simp only [Option.bind_some] at h ⊢
  have hlt : g < w.heap.size := by
    rcases Nat.lt_or_ge g w.heap.size with h' | h'
    · exact h'
    · rw [Array.getElem?_eq_none h'] at h; cases h
  rw [hb.block g hlt]
  exact h
theorem VarP.up {w w' : World} (h : VarP w) (hb : Below w.heap.size w w') : VarP w' :=
  ⟨h.err.up hb, tabIs_up gPow h.pow hb, fun i hi => (hb.cell (Lx.cell_lt (h.forms i hi))).trans (h.forms i hi)⟩
end Go.Proofs.YtbgekgakamincaaDoor.Pr

/- strings.Builder's methods at a builder that is the one field of printer.text. -/
namespace Go.Proofs.YtbgekgakamincaaDoor.Pr
open Go.RowKit Go.Shelf
set_option linter.unusedVariables false

abbrev TT : TypeId := 70
abbrev BldAt (B b : Nat) (p : Value) (bs : List Value) (w : World) : Prop := Lib.BuilderAtF TT 5 B b p bs w
abbrev Bld (B b : Nat) (bs : List Value) (w : World) : Prop := Lib.IsBuilderF TT 5 B b bs w
abbrev Oth (b : Nat) (w w' : World) : Prop := Lib.OthersKept 5 (some b) w w'

theorem szB : (Tryd.prog.info? 68).map (·.size) = some 2 := by kernel_rfl
theorem lyB : liesAt Tryd.prog Tryd.prog.depth TT (2 / Tryd.prog.cellsOf TT) 0 68 1 = true := by kernel_rfl
theorem infoU8 : (Tryd.prog.info? 5).map (fun i => (i.zero, i.size, i.bytes)) = some (some (.int .u8 0), 1, 1) := by kernel_rfl
theorem neTT : TT ≠ 5 := by decide
theorem eAbi : ∀ x w, (Extern.AbiNoEscape.same #[x]).run Tryd.prog w = .ok x w := fun x w => rfl

set_option maxHeartbeats 1000000 in
set_option maxRecDepth 100000 in
theorem copy_used (b : Nat) (w : World) (h0 : w.cell? ⟨b, 0, none⟩ = some (.pointer (some ⟨b, 0, none⟩))) :
    Calls Tryd.prog 67 #[.pointer (some ⟨b, 0, none⟩)] w fun e w' => e = .returned (.tuple #[]) ∧ w' = w := by
  obtain ⟨j, hj, _⟩ := Option.map_eq_some_iff.1 szB
  go_enter Tryd.func67, Tryd.ntmps67
  go_wp2
  rw [Lib.run_neq_ptr_same w _ Tryd.underlying66 hj]
  go_wp2
  go_end0
  exact ⟨rfl, rfl⟩

set_option maxHeartbeats 1000000 in
set_option maxRecDepth 100000 in
theorem copy_fresh (b : Nat) (w : World) (h0 : w.cell? ⟨b, 0, none⟩ = some (.pointer none)) (hsh : w.shape? b = some (TT, 2)) (hfz : w.frozen? ⟨b, 0, none⟩ = false) :
    Calls Tryd.prog 67 #[.pointer (some ⟨b, 0, none⟩)] w fun e w' => e = .returned (.tuple #[]) ∧ w' = w.setCell ⟨b, 0, none⟩ (.pointer (some ⟨b, 0, none⟩)) := by
  obtain ⟨j, hj, hjs⟩ := Option.map_eq_some_iff.1 szB
  go_enter Tryd.func67, Tryd.ntmps67
  go_wp2
  rw [Lib.run_to_unsafe w ⟨b, 0, none⟩ Tryd.underlying66 Tryd.underlying117 hj (by rw [hjs]; decide) hsh (Nat.zero_lt_succ 1)]
  simp only [Result.andThen]
  rw [Oper.upon_value]
  go_wp2
  rw [run_callFunc_extern Tryd.func78 (by kernel_rfl) (by kernel_rfl) (by kernel_rfl) (e := Extern.AbiNoEscape.same) (by kernel_rfl)]
  rw [Lib.run_noEscape]
  simp only [Result.andThen]
  rw [Oper.upon_value]
  go_wp2
  rw [Lib.run_from_unsafe w ⟨b, 0, none⟩ Tryd.underlying117 Tryd.underlying66 hj hsh lyB]
  simp only [Result.andThen]
  rw [Oper.upon_value]
  go_wp2
  go_end0
  exact ⟨rfl, rfl⟩
theorem bld_copy (B b : Nat) (bs : List Value) (w : World) (h : Bld B b bs w) :
    Calls Tryd.prog 67 #[.pointer (some ⟨b, 0, none⟩)] w fun e w' => e = .returned (.tuple #[]) ∧ (BldAt B b (.pointer (some ⟨b, 0, none⟩)) bs w' ∧ Below B w w' ∧ Oth b w w') := by
  rcases h with h | h
  · refine (copy_fresh b w h.cell0 h.shape h.frozen0).mono ?_
    rintro e w' ⟨rfl, rfl⟩
    exact ⟨rfl, h.used _, (Below.refl B w).setCell (p := ⟨b, 0, none⟩) h.1 _, (Lib.OthersKept.refl _ _ w).setCell ⟨b, 0, none⟩ rfl _⟩
  · refine (copy_used b w h.cell0).mono ?_
    rintro e w' ⟨rfl, rfl⟩
    exact ⟨rfl, h, Below.refl B _, Lib.OthersKept.refl _ _ _⟩

set_option maxHeartbeats 2000000 in
set_option maxRecDepth 100000 in
theorem bld_str (B b : Nat) (bs : List Value) (s : ByteArray) (w : World) (h : Bld B b bs w) (hlen : bs.length + s.size ≤ 140737488355328) (hBw : B ≤ w.heap.size) :
    Calls Tryd.prog 44 #[.pointer (some ⟨b, 0, none⟩), .string s] w fun e w' => e = .returned (.tuple #[.int .i64 s.size, .nilIface]) ∧ (BldAt B b (.pointer (some ⟨b, 0, none⟩)) (bs ++ Lib.strCells s) w' ∧ Below B w w' ∧ Oth b w w') := by
  obtain ⟨i0, hi, hz0, hz1, hz2⟩ := info_parts infoU8
  go_enter Tryd.func44, Tryd.ntmps44
  go_wp2_with fail
  refine (bld_copy B b bs _ h).mono ?_
  rintro e w1 ⟨rfl, h1, hb1, hk1⟩
  obtain ⟨hB, v, hbk, hown, hne⟩ := h1
  have c0 : w1.cell? ⟨b, 0, none⟩ = some (.pointer (some ⟨b, 0, none⟩)) := by rw [Lib.cell_of_heap hbk]; rfl
  have c1 : w1.cell? ⟨b, 1, none⟩ = some v := by rw [Lib.cell_of_heap hbk]; rfl
  go_wp2_with (at_builtin; refine Lib.wpList_append_own_stringF _ rfl _ _ 65 9 rfl B 5 i0 Tryd.underlying65 Tryd.underlying9 hi hz0 hz1 hz2 _ _ _ rfl hown s rfl ?c3 ?c4 ?c5 ?_)
  case c3 => unfold maxLen; omega
  case c4 => omega
  case c5 => have := hb1.size; omega
  intro v' w2 hown' hgrow _
  have hlt : b < w1.heap.size := by
    rcases Nat.lt_or_ge b w1.heap.size with h' | h'
    · exact h'
    · simp [Array.getElem?_eq_none h'] at hbk
  have hb2 : w2.heap[b]? = some (.cells #[.pointer (some ⟨b, 0, none⟩), v] TT (0, 0)) := by
    rw [hgrow.block b hlt (fun e => hne e.symm)]
    exact hbk
  have d0 : w2.cell? ⟨b, 0, none⟩ = some (.pointer (some ⟨b, 0, none⟩)) := by rw [Lib.cell_of_heap hb2]; rfl
  have d1 : w2.cell? ⟨b, 1, none⟩ = some v := by rw [Lib.cell_of_heap hb2]; rfl
  have f1 : w2.frozen? ⟨b, 1, none⟩ = false := Lib.frozen_of_heap hb2 1
  obtain ⟨ao, n', cap, rfl⟩ : ∃ ao n' cap, v' = .slice ao n' cap := by
    rcases hown'.2 with ⟨hv, _⟩ | ⟨g, cap, cur, fz, hv, _⟩
    · exact ⟨_, _, _, hv⟩
    · exact ⟨_, _, _, hv⟩
  go_wp2
  go_ret2
  refine ⟨rfl, ?_, ?_, (hk1.grown hgrow (Lib.ownsRowF_kind hown)).setCell ⟨b, 1, none⟩ rfl _⟩
  · exact Lib.BuilderAtF.put (T := TT) (e := 5) hB hb2 (bs' := bs ++ Lib.strCells s) (by simpa [Lib.strCells_length] using hown') neTT
  · exact (hb1.grown hgrow (by have := hb1.size; omega) (fun k hk => (hown.lt k hk).1)).setCell (p := ⟨b, 1, none⟩) hB _

set_option maxHeartbeats 2000000 in
set_option maxRecDepth 100000 in
theorem bld_rune (B b : Nat) (bs : List Value) (r : Int) (hr0 : -2147483648 ≤ r) (hr1 : r ≤ 2147483647) (w : World) (h : Bld B b bs w) (hlen : bs.length + 4 ≤ 140737488355328) (hBw : B ≤ w.heap.size) :
    Calls Tryd.prog 45 #[.pointer (some ⟨b, 0, none⟩), .int .i32 r] w fun e w' => e = .returned (.tuple #[.int .i64 (Lib.runeCells r).length, .nilIface]) ∧ (BldAt B b (.pointer (some ⟨b, 0, none⟩)) (bs ++ Lib.runeCells r) w' ∧ Below B w w' ∧ Oth b w w') := by
  have hk4 := Lib.runeCells_le r
  go_enter Tryd.func45, Tryd.ntmps45
  go_wp2_with fail
  refine (bld_copy B b bs _ h).mono ?_
  rintro e w1 ⟨rfl, h1, hb1, hk1⟩
  obtain ⟨hB, v, hbk, hown, hne⟩ := h1
  obtain ⟨ao, cap, rfl⟩ : ∃ ao cap, v = .slice ao bs.length cap := by
    rcases hown.2 with ⟨hv, h0⟩ | ⟨g, cap, cur, fz, hv, _⟩
    · exact ⟨none, 0, by rw [hv, h0]⟩
    · exact ⟨_, _, hv⟩
  have c0 : w1.cell? ⟨b, 0, none⟩ = some (.pointer (some ⟨b, 0, none⟩)) := by rw [Lib.cell_of_heap hbk]; rfl
  have c1 : w1.cell? ⟨b, 1, none⟩ = some (.slice ao bs.length cap) := by rw [Lib.cell_of_heap hbk]; rfl
  go_wp2_with fail
  refine (Tryd.utf8_AppendRune_row B _ bs.length bs r hr0 hr1 _ hown hlen (by have := hb1.size; omega)).mono ?_
  rintro e w2 ⟨v', rfl, hown', o, hgrow⟩
  have hlt : b < w1.heap.size := by
    rcases Nat.lt_or_ge b w1.heap.size with h' | h'
    · exact h'
    · simp [Array.getElem?_eq_none h'] at hbk
  have hb2 : w2.heap[b]? = some (.cells #[.pointer (some ⟨b, 0, none⟩), .slice ao bs.length cap] TT (0, 0)) := by
    rw [hgrow.block b (by simp; omega) (fun e => hne e.symm), Lib.alloc_old w1 _ b hlt]
    exact hbk
  have d0 : w2.cell? ⟨b, 0, none⟩ = some (.pointer (some ⟨b, 0, none⟩)) := by rw [Lib.cell_of_heap hb2]; rfl
  have d1 : w2.cell? ⟨b, 1, none⟩ = some (.slice ao bs.length cap) := by rw [Lib.cell_of_heap hb2]; rfl
  have f1 : w2.frozen? ⟨b, 1, none⟩ = false := Lib.frozen_of_heap hb2 1
  obtain ⟨g, cap', rfl⟩ : ∃ g cap', v' = .slice (some ⟨g, 0, none⟩) (bs.length + (Lib.runeCells r).length) cap' := by
    rcases hown'.2 with ⟨_, h0⟩ | ⟨g, cap', cur, fz, hv, _⟩
    · omega
    · exact ⟨g, cap', hv⟩
  go_wp2
  go_ret2
  refine ⟨?_, ?_, ?_, ((hk1.alloc _).grown hgrow (Lib.ownsRowF_kind (hown.alloc _))).setCell ⟨b, 1, none⟩ rfl _⟩
  · have e : ((bs.length : Int) + ((Lib.runeCells r).length : Int) - (bs.length : Int)) = ((Lib.runeCells r).length : Int) := by omega
    simp [e]
  · exact Lib.BuilderAtF.put (T := TT) (e := 5) hB hb2 (bs' := bs ++ Lib.runeCells r) (by simpa using hown') neTT
  · exact ((hb1.alloc (by have := hb1.size; omega) _).grown hgrow (by have := hb1.size; simp; omega) (fun k hk => (hown.lt k hk).1)).setCell (p := ⟨b, 1, none⟩) hB _

set_option maxHeartbeats 1000000 in
set_option maxRecDepth 100000 in
theorem bld_String (B b : Nat) (l : List UInt8) (w : World) (h : Bld B b (Lib.byteCells l) w) (h0 : l ≠ []) :
    Calls Tryd.prog 25 #[.pointer (some ⟨b, 0, none⟩)] w fun e w' => e = .returned (.string ⟨l.toArray⟩) ∧ (Bld B b (Lib.byteCells l) w' ∧ Below B w w' ∧ Oth b w w') := by
  obtain ⟨p, hp, hAt⟩ : ∃ p, (p = .pointer none ∨ p = .pointer (some ⟨b, 0, none⟩)) ∧ BldAt B b p (Lib.byteCells l) w := by
    rcases h with h | h
    · exact ⟨_, .inl rfl, h⟩
    · exact ⟨_, .inr rfl, h⟩
  obtain ⟨hB, v, hbk, hown, hne⟩ := hAt
  have hl0 : l.length ≠ 0 := by simpa using h0
  rw [Lib.byteCells_length] at hown
  obtain ⟨g, cap, cur, fz, rfl, hbg, hg, hfz, hnc, hcm, hcs, htake⟩ : ∃ g cap cur fz, v = .slice (some ⟨g, 0, none⟩) l.length cap ∧ B ≤ g ∧ w.heap[g]? = some (.cells cur 5 fz) ∧ fz.2 ≤ l.length * 1 ∧ l.length ≤ cap ∧ cap ≤ maxLen ∧ cur.size = cap * 1 ∧ cur.toList.take (l.length * 1) = Lib.byteCells l := by
    rcases hown.2 with ⟨_, hz⟩ | ⟨g, cap, cur, fz, hv, r⟩
    · exact absurd hz hl0
    · exact ⟨g, cap, cur, fz, hv, r⟩
  have c1 : w.drew.cell? ⟨b, 1, none⟩ = some (.slice (some ⟨g, 0, none⟩) l.length cap) := by
    have : w.drew.heap[b]? = some (.cells #[p, .slice (some ⟨g, 0, none⟩) l.length cap] TT (0, 0)) := hbk
    rw [Lib.cell_of_heap this]; rfl
  have hSD : (Builtin.unsafeSliceData_ #[65] 99 #[.slice (some ⟨g, 0, none⟩) l.length cap]).run Tryd.prog w.drew = .ok (.pointer (some ⟨g, 0, none⟩)) w.drew :=
    Lib.run_unsafeSliceData_row _ _ _ _ _ _ (by omega)
  have hUS : (Builtin.unsafeString_ #[99, 3] 9 #[.pointer (some ⟨g, 0, none⟩), .int .i64 l.length]).run Tryd.prog w.drew = .ok (.string ⟨l.toArray⟩) (w.drew.freeze ⟨g, 0, none⟩ l.length) := by
    refine Lib.run_unsafeString_row w.drew 99 3 9 5 Tryd.underlying99 (by kernel_rfl) g cur.size (by have hg' : w.drew.heap[g]? = some (.cells cur 5 fz) := hg; simp [World.shape?, hg']) l h0 (by omega) (by unfold maxLen at hcm; omega) ?_
    intro j x hx
    have := hown.cells (g := g) rfl j (.int .u8 x.toNat) (by simp [Lib.byteCells, hx])
    exact this
  have hkeep : Bld B b (Lib.byteCells l) (w.drew.freeze ⟨g, 0, none⟩ l.length) := by
    have hA : BldAt B b p (Lib.byteCells l) w.drew := ⟨hB, _, hbk, by rw [Lib.byteCells_length]; exact hown, hne⟩
    have hF := hA.froze (g := g) (cap := cap) (by rw [Lib.byteCells_length]; exact c1)
    rw [Lib.byteCells_length] at hF
    rcases hp with rfl | rfl
    · exact .inl hF
    · exact .inr hF
  have mixed : Tryd.prog.follows .mixedOrders = true := by kernel_rfl
  go_enter Tryd.func25, Tryd.ntmps25
  go_wp2
  go_region_o
  all_goals (go_wp2; go_ret; exact ⟨rfl, hkeep, Lib.below_freeze (Below.drew (Below.refl B w)) (p := ⟨g, 0, none⟩) hbg _, ((Lib.OthersKept.refl _ _ w).drew).freeze ⟨g, 0, none⟩ _ ⟨cur, fz, hg⟩⟩)

set_option maxHeartbeats 2000000 in
set_option maxRecDepth 100000 in
theorem bld_String_nil (B b : Nat) (p : Value) (w : World) (hbk : w.heap[b]? = some (.cells #[p, .slice none 0 0] TT (0, 0))) (hA : BldAt B b p [] w) :
    Calls Tryd.prog 25 #[.pointer (some ⟨b, 0, none⟩)] w fun e w' => e = .returned (.string ⟨#[]⟩) ∧ (w'.heap[b]? = some (.cells #[p, .slice none 0 0] TT (0, 0)) ∧ BldAt B b p [] w' ∧ Below B w w' ∧ Oth b w w') := by
  have hUS : ∀ (W : World) (q : Option Addr), (Builtin.unsafeString_ #[99, 3] 9 #[.pointer q, .int .i64 0]).run Tryd.prog W = .ok (.string .empty) W := fun W q => Lib.run_unsafeString_none W _ _ _ q
  have c1 : w.drew.cell? ⟨b, 1, none⟩ = some (.slice none 0 0) := by
    have : w.drew.heap[b]? = some (.cells #[p, .slice none 0 0] TT (0, 0)) := hbk
    rw [Lib.cell_of_heap this]; rfl
  have hSD : (Builtin.unsafeSliceData_ #[65] 99 #[.slice none 0 0]).run Tryd.prog w.drew = .ok (.pointer none) w.drew := rfl
  have mixed : Tryd.prog.follows .mixedOrders = true := by kernel_rfl
  go_enter Tryd.func25, Tryd.ntmps25
  go_wp2
  go_region_o
  all_goals (go_wp2; go_ret; exact ⟨rfl, hbk, hA.drew, Below.drew (Below.refl B w), (Lib.OthersKept.refl _ _ w).drew⟩)
end Go.Proofs.YtbgekgakamincaaDoor.Pr

/- printer's command: a line is written. -/
namespace Go.Proofs.YtbgekgakamincaaDoor.Pr
open Go.RowKit Go.Proofs.YtbgekgakamincaaDoor.Lx
set_option linter.unusedVariables false

theorem bldAt_up {B b : Nat} {p : Value} {bs : List Value} {W W' : World} (h : BldAt B b p bs W) (hb : Below W.heap.size W W') : BldAt B b p bs W' := by
  have hlt := h.lt
  obtain ⟨hB, v, hv, hown, hne⟩ := h
  exact ⟨hB, v, (hb.block b hlt).trans hv, hown.kept (row := none) ⟨hb.os, hb.tape, hb.output, hb.size, fun k hk _ => hb.block k hk⟩ (Classical.em _), hne⟩
theorem bld_up {B b : Nat} {bs : List Value} {W W' : World} (h : Bld B b bs W) (hb : Below W.heap.size W W') : Bld B b bs W' := h.elim (fun x => .inl (bldAt_up x hb)) (fun x => .inr (bldAt_up x hb))
theorem oth_up {b : Nat} {W W' : World} (hb : Below W.heap.size W W') : Oth b W W' := fun k o hk _ _ => (hb.block k (Array.getElem?_eq_some_iff.1 hk).1).trans hk
theorem blk_oth {b g : Nat} {t : TypeId} {cs : Array Value} {w w' : World} (h : Blk w g t cs) (ho : Oth b w w') (hg : g ≠ b) (ht : t ≠ 5) : Blk w' g t cs :=
  ho g _ h (fun e => hg (Option.some.inj e)) (fun c fz e => by injection e with _ e2; exact ht e2)
theorem lt_bld {B b : Nat} {bs : List Value} {W : World} (h : Bld B b bs W) : b < W.heap.size := h.elim (fun x => x.lt) (fun x => x.lt)
/-- How many numbers a form wants. -/
def numF : List UInt8 → Nat
  | [] => 0
  | c :: r => (if c = 35 ∨ c = 37 then 1 else 0) + numF r
theorem numF_form {k : Int} (h : kind11 k) : ((numF (formP k.toNat) : Nat) : Int) = (shapeOf k).2 := by
  rcases h with rfl | rfl | rfl | rfl | rfl | rfl | rfl | rfl | rfl | rfl | rfl <;> decide
theorem formP_ascii (k : Nat) : ∀ c ∈ formP k, c.toNat < 128 := by
  have h : (formP k).all (fun c => decide (c.toNat < 128)) = true := by
    unfold formP
    have hi : ∀ {p : Prop} [Decidable p] {a b : List UInt8}, a.all (fun c => decide (c.toNat < 128)) = true → b.all (fun c => decide (c.toNat < 128)) = true → (if p then a else b).all (fun c => decide (c.toNat < 128)) = true := by
      intro p _ a b ha hb; split <;> assumption
    repeat (refine hi (by decide) ?_)
    decide
  intro c hc
  have := List.all_eq_true.1 h c hc
  simpa using this
theorem size_int (w : World) : (sizeOf (Tryd.prog.elem 38)).run Tryd.prog w = .ok 1 w := by kernel_rfl
theorem elem_int : Tryd.prog.underlying 38 = some (.slice (Tryd.prog.elem 38)) := by kernel_rfl
def restA (A : Option Addr) (c : Nat) : Option Addr := if c = 1 then A else A.map (·.add (1 * 1))
theorem slice_one (A : Option Addr) (n c : Nat) (h1 : 1 ≤ n) (w : World) : (Instr.slice 38 (.slice A n c) (some (.int .i64 1)) none none).run Tryd.prog w = .ok (.slice (restA A c) (n - 1) (c - 1)) w := by
  rw [run_slice_l w 38 A n c elem_int .i64 _ (by omega) (by omega), size_int]
  rfl
theorem runeB (c : UInt8) (h : c.toNat < 128) : Lib.runeCells (c.toNat : Int) = Lib.byteCells [c] := by
  unfold Lib.runeCells
  rw [Lib.encodeRuneZ_one (by omega) (by omega)]
  rfl
theorem strB (s : ByteArray) : Lib.strCells s = Lib.byteCells s.data.toList := rfl
theorem byteCells_app (a b : List UInt8) : Lib.byteCells a ++ Lib.byteCells b = Lib.byteCells (a ++ b) := by unfold Lib.byteCells; rw [List.map_append]
/-- Numbers that are still to be written. -/
structure RestIs (w0 : World) (A : Option Addr) (n c : Nat) (r : List Int) : Prop where
  rd : Rd w0 w0.heap.size 1 A n (r.map iv)
  len : r.length = n
  nc : n ≤ c
  cm : c ≤ maxLen
  rng : ∀ v ∈ r, -1000000000 ≤ v ∧ v ≤ 1000000000
theorem RestIs.tail {w0 : World} {A : Option Addr} {n c : Nat} {v : Int} {r : List Int} (h : RestIs w0 A n c (v :: r)) : RestIs w0 (restA A c) (n - 1) (c - 1) r := by
  have hl := h.len
  have h1 : 1 ≤ n := by rw [← hl]; simp
  have := h.rd.cut (k := 1) h1 h.nc
  refine ⟨this, by simp at hl; omega, by have := h.nc; omega, by have := h.cm; omega, fun x hx => h.rng x (List.mem_cons_of_mem _ hx)⟩
theorem RestIs.cell {w0 : World} {A : Option Addr} {n c : Nat} {v : Int} {r : List Int} (h : RestIs w0 A n c (v :: r)) : ∃ b off, A = some ⟨b, off, none⟩ ∧ b < w0.heap.size ∧ w0.cell? ⟨b, off, none⟩ = some (.int .i64 v) := by
  obtain ⟨b, off, e, hb, hc⟩ := h.rd.2 (by rw [← h.len]; simp)
  exact ⟨b, off, e, hb, hc 0 _ rfl⟩

/-- Where a command's writing stands. -/
structure St (w0 w : World) (b : Nat) (FB : ByteArray) (cs : Array Value) (i : Nat) (txt : List UInt8) (W : World) : Prop where
  it : W.heap[w.heap.size + 1]? = some (.stringIter FB i)
  bld : Bld w0.heap.size b (Lib.byteCells txt) W
  bel : Below w0.heap.size w0 W
  oth : Oth b w W
  box : Blk W w.heap.size 40 cs
  lt : b < w.heap.size
  hw : w0.heap.size ≤ w.heap.size
theorem St.next {w0 w : World} {b : Nat} {FB : ByteArray} {cs : Array Value} {i : Nat} {txt : List UInt8} {W : World} (h : St w0 w b FB cs i txt W) (j : Nat) : St w0 w b FB cs j txt (W.iterAt (w.heap.size + 1) FB j) := by
  refine ⟨Lib.iterAt_heap W _ FB i j h.it, h.bld.iterAt h.it j, Lib.below_iterAt h.bel (by have := h.hw; omega) FB j, fun k o hk hb ho => ?_, ?_, h.lt, h.hw⟩
  · have hlt : k < w.heap.size := (Array.getElem?_eq_some_iff.1 hk).1
    rw [Lib.iterAt_other W (w.heap.size + 1) k FB j (by omega)]
    exact h.oth k o hk hb ho
  · exact (Lib.iterAt_other W (w.heap.size + 1) w.heap.size FB j (by omega)).trans h.box
theorem St.write {w0 w : World} {b : Nat} {FB : ByteArray} {cs : Array Value} {i : Nat} {txt s : List UInt8} {p : Value} {W W' : World} (h : St w0 w b FB cs i txt W) (hp : p = .pointer (some ⟨b, 0, none⟩))
    (h1 : BldAt w0.heap.size b p (Lib.byteCells txt ++ Lib.byteCells s) W') (h2 : Below w0.heap.size W W') (h3 : Oth b W W') : St w0 w b FB cs i (txt ++ s) W' := by
  rw [byteCells_app] at h1
  subst hp
  exact ⟨h3.iter h.it (by have := h.lt; omega), .inr h1, h.bel.trans h2, h.oth.trans h3, blk_oth h.box h3 (by have := h.lt; omega) (by decide), h.lt, h.hw⟩
theorem St.up {w0 w : World} {b : Nat} {FB : ByteArray} {cs : Array Value} {i : Nat} {txt : List UInt8} {W W' : World} (h : St w0 w b FB cs i txt W) (hb : Below W.heap.size W W') : St w0 w b FB cs i txt W' :=
  ⟨(hb.block _ (Array.getElem?_eq_some_iff.1 h.it).1).trans h.it, bld_up h.bld hb, h.bel.trans (hb.mono h.bel.size), h.oth.trans (oth_up hb), h.box.up' hb, h.lt, h.hw⟩
theorem St.size {w0 w : World} {b : Nat} {FB : ByteArray} {cs : Array Value} {i : Nat} {txt : List UInt8} {W : World} (h : St w0 w b FB cs i txt W) : w0.heap.size ≤ W.heap.size := h.bel.size
theorem St.pos {w0 w : World} {b : Nat} {FB : ByteArray} {cs : Array Value} {i : Nat} {txt : List UInt8} {W : World} (h : St w0 w b FB cs i txt W) : W.iterPos (w.heap.size + 1) = i := by simp [World.iterPos, h.it]

theorem itoa_val (m : Nat) (hm : m ≤ 1000000000) {w0 w : World} (hv : VarP w0) (h0 : Below w0.heap.size w0 w) :
    Calls Tryd.prog 46 #[.int .i64 (m : Nat)] w fun e w' => e = .returned (.string ⟨(Lib.decDigits m).toArray⟩) ∧ Below w.heap.size w w' := by
  refine (Tryd.strconv_Itoa (m : Int) (by omega) (by omega) w (tabIs_up gPow hv.pow h0)).mono ?_
  rintro e w' ⟨rfl, k, os, rfl⟩
  exact ⟨by rw [Lib.itoa_nonneg], Lib.below_grow _ w (Nat.le_refl _) k os⟩

set_option maxRecDepth 100000 in
set_option maxHeartbeats 4000000 in
theorem wr_val (w0 : World) (b : Nat) (bs : List UInt8) (x : Cm) (w : World) (h0 : Below w0.heap.size w0 w) (hx : Cm.In w0 x) (ho : OkC x.kind x.name x.ns) (hv : VarP w0) (hbd : Bld w0.heap.size b (Lib.byteCells bs) w) (hlen : bs.length ≤ 1000000) :
    Calls Tryd.prog 24 #[.pointer (some ⟨b, 0, none⟩), .agg #[.int .i64 x.kind, .string x.name, .slice x.A x.n x.c, .int .i64 x.pos]] w fun e w' => e = .returned (.tuple #[]) ∧ Bld w0.heap.size b (Lib.byteCells (bs ++ (lnC x ++ [10]))) w' ∧ Below w0.heap.size w0 w' ∧ Oth b w w' := by
  obtain ⟨k, nm, A, n, c, ns, p⟩ := x
  have hbw := lt_bld hbd
  have hsz0 := h0.size
  dsimp only at ho
  have hkd := ho.kind
  obtain ⟨K, rfl⟩ : ∃ K : Nat, k = (K : Int) := ⟨k.toNat, by rcases hkd with h | h | h | h | h | h | h | h | h | h | h <;> omega⟩
  have hK12 : K < 12 := by rcases hkd with h | h | h | h | h | h | h | h | h | h | h <;> omega
  have hnm12 : nm.size ≤ 12 := ho.name12
  have hnl := hx.len
  dsimp only at hnl
  have hnf : numF (formP K) = n := by have h1 := numF_form hkd; have h2 := ho.len; rw [Int.toNat_natCast] at h1; omega
  have HRE : Hid (RestIs w0 A n c ns) := Lib.hid ⟨hx.rd, hnl, hx.nc, hx.cm, ho.range⟩
  have hK0 : (0 : Int) ≤ (K : Int) := by omega
  have hK1 : (K : Int) < 12 := by omega
  have hfc := hv.forms K hK12
  have hasc := formP_ascii K
  have hfl := formP_len K
  have hwl := wrF_len nm.data.toList (by rw [show nm.data.toList.length = nm.size from Array.length_toList]; exact hnm12) (formP K) ns ho.range
  have HLN : Hid (lnC ⟨(K : Int), nm, A, n, c, ns, p⟩ = wrF nm.data.toList (formP K) ns ++ [59]) := Lib.hid (by unfold lnC lineL; rw [Int.toNat_natCast])
  obtain ⟨F, hF⟩ : ∃ F, formP K = F := ⟨_, rfl⟩
  rw [hF] at hfc hnf hasc hfl hwl HLN
  have HASC := Lib.hid hasc
  obtain ⟨FB, hFB⟩ : ∃ FB : ByteArray, ⟨F.toArray⟩ = FB := ⟨_, rfl⟩
  have HFB : Hid (FB.data.toList = F) := Lib.hid (by rw [← hFB])
  have hFs : FB.size = F.length := by rw [← hFB]; rfl
  rw [hFB] at hfc
  have HFL := Lib.hid hfl
  have HFS := Lib.hid hFs
  have HWL := Lib.hid hwl
  have HNF := Lib.hid hnf
  have HV := Lib.hid hv
  have HB0 := Lib.hid h0
  have BX0 : Hid (Blk (w.alloc (.cells #[.int .i64 (K : Int), .string nm, .slice A n c, .int .i64 p] 40)) w.heap.size 40 #[.int .i64 (K : Int), .string nm, .slice A n c, .int .i64 p]) := Lib.hid (Blk.new w _ _)
  have hcF0 : w.cell? ⟨0, K, none⟩ = some (.string FB) := (h0.cell (Lx.cell_lt hfc)).trans hfc
  have hcF : (w.alloc (.cells #[.int .i64 (K : Int), .string nm, .slice A n c, .int .i64 p] 40)).cell? ⟨0, K, none⟩ = some (.string FB) := by rw [World.cell?_alloc_lt _ _ _ (Lx.cell_lt hcF0)]; exact hcF0
  clear hx ho hv hkd hasc hF hFB hfl hwl hnf hfc hcF0
  go_enter Tryd.func24, Tryd.ntmps24
  go_wp2_with fail
  have hs0 : St w0 w b FB #[.int .i64 (K : Int), .string nm, .slice A n c, .int .i64 p] 0 bs ((w.alloc (.cells #[.int .i64 (K : Int), .string nm, .slice A n c, .int .i64 p] 40)).iter FB 0) := by
    have hw1 : Below w0.heap.size w0 (w.alloc (.cells #[.int .i64 (K : Int), .string nm, .slice A n c, .int .i64 p] 40)) := h0.alloc hsz0 _
    have e1 : ((w.alloc (.cells #[.int .i64 (K : Int), .string nm, .slice A n c, .int .i64 p] 40)).iter FB 0).heap[w.heap.size + 1]? = some (.stringIter FB 0) := by
      have h5 := World.iter_heap (w.alloc (.cells #[.int .i64 (K : Int), .string nm, .slice A n c, .int .i64 p] 40)) FB 0
      simpa using h5
    exact ⟨e1, (hbd.alloc _).alloc _, hw1.alloc hw1.size _, ((Lib.OthersKept.refl _ _ w).alloc _).alloc _, BX0.out.alloc _, hbw, hsz0⟩
  obtain ⟨W0, hW0⟩ : ∃ W0, (w.alloc (.cells #[.int .i64 (K : Int), .string nm, .slice A n c, .int .i64 p] 40)).iter FB 0 = W0 := ⟨_, rfl⟩
  rw [hW0] at hs0 ⊢
  have HS0 := Lib.hid hs0
  clear hW0 hs0 BX0 hbd h0 hcF
  go_loopw [4, 6, 7] (fun r x wd wr => ∃ (i nr cr : Nat) (Ar : Option Addr) (rest : List Int) (D : List UInt8) (zx zw : Value), i ≤ FB.size ∧ r = .slice Ar nr cr ∧ x = zx ∧ wd = zw ∧ Hid (RestIs w0 Ar nr cr rest) ∧ Hid (wrF nm.data.toList F ns = D ++ wrF nm.data.toList (F.drop i) rest) ∧ Hid (numF (F.drop i) = nr) ∧ Hid (St w0 w b FB #[.int .i64 (K : Int), .string nm, .slice A n c, .int .i64 p] i (bs ++ D) wr)) (fun _ _ _ wr => FB.size - wr.iterPos (w.heap.size + 1))
  case atStart => exact ⟨0, n, c, A, ns, [], _, _, Nat.zero_le _, rfl, rfl, rfl, HRE, Lib.hid rfl, Lib.hid HNF.out, Lib.hid (by rw [List.append_nil]; exact HS0.out)⟩
  case round =>
    obtain ⟨i, nr, cr, Ar, rest, D, zx, zw, hi, rfl, rfl, rfl, HR, HG, HNR, HS⟩ := hrel
    have hmu := HS.out.pos
    have HDL : Hid (D.length ≤ 1040) := Lib.hid (by have h1 := HWL.out; rw [HG.out, List.length_append] at h1; have := HFL.out; omega)
    by_cases hlt : i < FB.size
    · have hiF : i < F.length := by rw [← HFS.out]; exact hlt
      have hg := HG.out
      have hnr := HNR.out
      rw [List.drop_eq_getElem_cons hiF] at hg hnr
      have h128 : (FB[i]'hlt).toNat < 128 := HASC.out _ (by rw [← HFB.out]; exact Array.getElem_mem_toList _)
      have hcc : F[i] = FB[i]'hlt := by simp only [← HFB.out]; rfl
      rw [hcc] at hg hnr
      have hnext : ∀ ty, (Instr.next (.pointer (some ⟨w.heap.size + 1, 0, none⟩)) true ty).run Tryd.prog wr = _ := fun ty => Lib.run_next_ascii_at wr (w.heap.size + 1) FB i ty HS.out.it hlt h128
      obtain ⟨ch, hch⟩ : ∃ ch, FB[i]'hlt = ch := ⟨_, rfl⟩
      rw [hch] at hg hnr h128 hnext
      have hs1 := HS.out.next (i + 1)
      obtain ⟨W1, hW1⟩ : ∃ W1, wr.iterAt (w.heap.size + 1) FB (i + 1) = W1 := ⟨_, rfl⟩
      rw [hW1] at hs1 hnext
      have HS1 := Lib.hid hs1
      simp only [wrF, numF] at hg hnr
      clear hs1 hW1 hch hcc hiF
      by_cases h78 : ch = 78
      · rw [if_pos h78] at hg
        rw [if_neg (by rw [h78]; decide)] at hnr
        have f1 : ((ch.toNat : Int) == 78) = true := by rw [h78]; rfl
        have hdr := (Below.refl W1.heap.size W1).drew
        have c1 : W1.cell? ⟨w.heap.size, 1, none⟩ = some (.string nm) := HS1.out.box.cell 1
        have HC := Lib.hid (bld_str w0.heap.size b (Lib.byteCells (bs ++ D)) nm W1.drew (HS1.out.up hdr).bld (by rw [Lib.byteCells_length, List.length_append]; have := HDL.out; omega) (HS1.out.up hdr).size)
        have HSd := Lib.hid (HS1.out.up hdr)
        have HG2 := Lib.hid hg
        have HN2 : Hid (numF (F.drop (i + 1)) = nr) := Lib.hid (by omega)
        clear hg hnr h78 hdr
        go_wp2_with fail
        go_still_tail 5, (by kernel_rfl)
        go_wp2_with fail
        refine HC.out.mono ?_
        rintro e w2 ⟨rfl, ha, hb2, ho2⟩
        have HS2 := Lib.hid (HSd.out.write rfl ha hb2 ho2)
        have hmu2 := HS2.out.pos
        clear ha hb2 ho2
        go_wp2_with fail
        case roundEnd =>
          refine ⟨⟨i + 1, nr, cr, Ar, rest, D ++ nm.data.toList, _, _, by omega, rfl, rfl, rfl, HR, Lib.hid ?_, HN2, Lib.hid ?_⟩, ?_⟩
          · rw [HG2.out, List.append_assoc]
          · have := HS2.out; rwa [List.append_assoc] at this
          · rw [hmu, hmu2]; omega
      rw [if_neg h78] at hg
      have f1 : ((ch.toNat : Int) == 78) = false := by rw [beq_eq_false_iff_ne]; intro e; exact h78 (UInt8.toNat_inj.1 (show ch.toNat = 78 from by omega))
      by_cases h37 : ch = 37
      · rw [if_pos h37] at hg
        obtain ⟨v, r2, rfl⟩ : ∃ v r2, rest = v :: r2 := by
          match rest, HR.out.len with
          | [], hl => simp [h37] at hl hnr; omega
          | v :: r2, _ => exact ⟨v, r2, rfl⟩
        obtain ⟨nb, no, rfl, hnb, hnc⟩ := HR.out.cell
        have hnr1 : 1 ≤ nr := by have := HR.out.len; simp at this; omega
        have hv9 := HR.out.rng v (List.mem_cons_self ..)
        have HRT := Lib.hid HR.out.tail
        simp only [List.headD_cons, List.tail_cons] at hg
        rw [if_pos (by rw [h37]; decide)] at hnr
        have HN2 : Hid (numF (F.drop (i + 1)) = nr - 1) := Lib.hid (by omega)
        have f3 : ((ch.toNat : Int) == 37) = true := by rw [h37]; rfl
        have c1 : W1.cell? ⟨nb, no, none⟩ = some (.int .i64 v) := (HS1.out.bel.cell hnb).trans hnc
        by_cases q1 : v < 0
        · have f4 : v < 0 := q1
          have HG2 : Hid (wrF nm.data.toList F ns = D ++ ([115, 108, 111, 119, 32] ++ (dg v ++ wrF nm.data.toList (F.drop (i + 1)) r2))) := Lib.hid (by rw [hg]; unfold driftL dg; rw [if_pos q1, List.append_assoc])
          have HC := Lib.hid (bld_str w0.heap.size b (Lib.byteCells (bs ++ D)) ⟨#[115, 108, 111, 119, 32]⟩ W1 HS1.out.bld (by rw [Lib.byteCells_length, List.length_append]; have := HDL.out; show _ + 5 ≤ _; omega) HS1.out.size)
          clear hg hnr h78 h37
          go_wp2_with fail
          refine HC.out.mono ?_
          rintro e w2 ⟨rfl, ha, hb2, ho2⟩
          have HS2 : Hid (St w0 w b FB #[.int .i64 (K : Int), .string nm, .slice A n c, .int .i64 p] (i + 1) (bs ++ (D ++ [115, 108, 111, 119, 32])) w2) := Lib.hid (by have := HS1.out.write (s := [115, 108, 111, 119, 32]) rfl ha hb2 ho2; rwa [List.append_assoc] at this)
          clear ha hb2 ho2 c1
          go_wp2_with fail
          have HC15 := Lib.hid (fun (W : World) (hb : Below w2.heap.size w2 W) => itoa_val v.natAbs (by omega) (w := W) HV.out (HS2.out.bel.trans (hb.mono HS2.out.size)))
          obtain ⟨NB, hNB⟩ : ∃ NB : ByteArray, ⟨(Lib.decDigits v.natAbs).toArray⟩ = NB := ⟨_, rfl⟩
          have HNBl : Hid (NB.data.toList = dg v) := Lib.hid (by rw [← hNB]; rfl)
          have HNBs : Hid (NB.size ≤ 21) := Lib.hid (by rw [← hNB]; exact dec_len (by omega))
          rw [hNB] at HC15
          have g1 : ∀ q : WOf (Below w2.heap.size w2), q.w.cell? ⟨nb, no, none⟩ = some (.int .i64 v) := fun q => (q.ok.cell (Nat.lt_of_lt_of_le hnb HS2.out.size)).trans ((HS2.out.bel.cell hnb).trans hnc)
          have hup : ∀ a b, Below w2.heap.size w2 a → Below a.heap.size a b → Below w2.heap.size w2 b := fun a b h k => below_trans' h k
          have hsl := slice_one (some ⟨nb, no, none⟩) nr cr hnr1
          have HIT : Hid (∀ q : WOf (Below w2.heap.size w2), Calls Tryd.prog 46 #[.int .i64 (max v (-v))] q.w fun e w' => e = .returned (.string NB) ∧ Below q.w.heap.size q.w w') := Lib.hid (fun q => by have := HC15.out q.w q.ok; rwa [show ((v.natAbs : Nat) : Int) = max v (-v) by omega] at this)
          clear hNB
          refine wp_region_qt (Below w2.heap.size w2) 12 (Below.refl _ _) hup (by kernel_rfl) (by kernel_rfl) (fun hne => ?_)
          simp only [List.take_succ_cons, List.take_zero, List.drop_succ_cons, List.drop_zero]
          repeat (go_big_quiet_step (with_reducible exact calls_ext hup (HIT.out _)))
          refine wpQuiet_nil ?_
          clear hne
          intro q
          obtain ⟨wx, hxx⟩ := q
          have HSx := Lib.hid (HS2.out.up hxx)
          have HCx := Lib.hid (bld_str w0.heap.size b (Lib.byteCells (bs ++ (D ++ [115, 108, 111, 119, 32]))) NB wx HSx.out.bld (by rw [Lib.byteCells_length, List.length_append, List.length_append]; have := HDL.out; simp only [List.length_cons, List.length_nil]; have := HNBs.out; omega) HSx.out.size)
          clear g1 HIT HC15 hup
          go_wp2_with fail
          refine HCx.out.mono ?_
          rintro e w5 ⟨rfl, ha, hb2, ho2⟩
          have HS5 := Lib.hid (HSx.out.write rfl ha hb2 ho2)
          have hmu2 := HS5.out.pos
          clear ha hb2 ho2
          go_wp2_with fail
          case roundEnd =>
            refine ⟨⟨i + 1, nr - 1, cr - 1, _, r2, (D ++ [115, 108, 111, 119, 32]) ++ NB.data.toList, _, _, by omega, rfl, rfl, rfl, HRT, Lib.hid ?_, HN2, Lib.hid ?_⟩, ?_⟩
            · rw [HG2.out, HNBl.out]; simp
            · have := HS5.out; rwa [List.append_assoc] at this
            · rw [hmu, hmu2]; omega
        · have f4 : ¬ v < 0 := q1
          have HG2 : Hid (wrF nm.data.toList F ns = D ++ ([102, 97, 115, 116, 32] ++ (dg v ++ wrF nm.data.toList (F.drop (i + 1)) r2))) := Lib.hid (by rw [hg]; unfold driftL dg; rw [if_neg q1, List.append_assoc])
          have HC := Lib.hid (bld_str w0.heap.size b (Lib.byteCells (bs ++ D)) ⟨#[102, 97, 115, 116, 32]⟩ W1 HS1.out.bld (by rw [Lib.byteCells_length, List.length_append]; have := HDL.out; show _ + 5 ≤ _; omega) HS1.out.size)
          clear hg hnr h78 h37
          go_wp2_with fail
          refine HC.out.mono ?_
          rintro e w2 ⟨rfl, ha, hb2, ho2⟩
          have HS2 : Hid (St w0 w b FB #[.int .i64 (K : Int), .string nm, .slice A n c, .int .i64 p] (i + 1) (bs ++ (D ++ [102, 97, 115, 116, 32])) w2) := Lib.hid (by have := HS1.out.write (s := [102, 97, 115, 116, 32]) rfl ha hb2 ho2; rwa [List.append_assoc] at this)
          clear ha hb2 ho2 c1
          go_wp2_with fail
          have HC15 := Lib.hid (fun (W : World) (hb : Below w2.heap.size w2 W) => itoa_val v.natAbs (by omega) (w := W) HV.out (HS2.out.bel.trans (hb.mono HS2.out.size)))
          obtain ⟨NB, hNB⟩ : ∃ NB : ByteArray, ⟨(Lib.decDigits v.natAbs).toArray⟩ = NB := ⟨_, rfl⟩
          have HNBl : Hid (NB.data.toList = dg v) := Lib.hid (by rw [← hNB]; rfl)
          have HNBs : Hid (NB.size ≤ 21) := Lib.hid (by rw [← hNB]; exact dec_len (by omega))
          rw [hNB] at HC15
          have g1 : ∀ q : WOf (Below w2.heap.size w2), q.w.cell? ⟨nb, no, none⟩ = some (.int .i64 v) := fun q => (q.ok.cell (Nat.lt_of_lt_of_le hnb HS2.out.size)).trans ((HS2.out.bel.cell hnb).trans hnc)
          have hup : ∀ a b, Below w2.heap.size w2 a → Below a.heap.size a b → Below w2.heap.size w2 b := fun a b h k => below_trans' h k
          have hsl := slice_one (some ⟨nb, no, none⟩) nr cr hnr1
          have HIT : Hid (∀ q : WOf (Below w2.heap.size w2), Calls Tryd.prog 46 #[.int .i64 (max v (-v))] q.w fun e w' => e = .returned (.string NB) ∧ Below q.w.heap.size q.w w') := Lib.hid (fun q => by have := HC15.out q.w q.ok; rwa [show ((v.natAbs : Nat) : Int) = max v (-v) by omega] at this)
          clear hNB
          refine wp_region_qt (Below w2.heap.size w2) 12 (Below.refl _ _) hup (by kernel_rfl) (by kernel_rfl) (fun hne => ?_)
          simp only [List.take_succ_cons, List.take_zero, List.drop_succ_cons, List.drop_zero]
          repeat (go_big_quiet_step (with_reducible exact calls_ext hup (HIT.out _)))
          refine wpQuiet_nil ?_
          clear hne
          intro q
          obtain ⟨wx, hxx⟩ := q
          have HSx := Lib.hid (HS2.out.up hxx)
          have HCx := Lib.hid (bld_str w0.heap.size b (Lib.byteCells (bs ++ (D ++ [102, 97, 115, 116, 32]))) NB wx HSx.out.bld (by rw [Lib.byteCells_length, List.length_append, List.length_append]; have := HDL.out; simp only [List.length_cons, List.length_nil]; have := HNBs.out; omega) HSx.out.size)
          clear g1 HIT HC15 hup
          go_wp2_with fail
          refine HCx.out.mono ?_
          rintro e w5 ⟨rfl, ha, hb2, ho2⟩
          have HS5 := Lib.hid (HSx.out.write rfl ha hb2 ho2)
          have hmu2 := HS5.out.pos
          clear ha hb2 ho2
          go_wp2_with fail
          case roundEnd =>
            refine ⟨⟨i + 1, nr - 1, cr - 1, _, r2, (D ++ [102, 97, 115, 116, 32]) ++ NB.data.toList, _, _, by omega, rfl, rfl, rfl, HRT, Lib.hid ?_, HN2, Lib.hid ?_⟩, ?_⟩
            · rw [HG2.out, HNBl.out]; simp
            · have := HS5.out; rwa [List.append_assoc] at this
            · rw [hmu, hmu2]; omega
      rw [if_neg h37] at hg
      have f2 : ((ch.toNat : Int) == 37) = false := by rw [beq_eq_false_iff_ne]; intro e; exact h37 (UInt8.toNat_inj.1 (show ch.toNat = 37 from by omega))
      by_cases h35 : ch = 35
      · rw [if_pos h35] at hg
        obtain ⟨v, r2, rfl⟩ : ∃ v r2, rest = v :: r2 := by
          match rest, HR.out.len with
          | [], hl => simp [h35] at hl hnr; omega
          | v :: r2, _ => exact ⟨v, r2, rfl⟩
        obtain ⟨nb, no, rfl, hnb, hnc⟩ := HR.out.cell
        have hnr1 : 1 ≤ nr := by have := HR.out.len; simp at this; omega
        have hv9 := HR.out.rng v (List.mem_cons_self ..)
        have HRT := Lib.hid HR.out.tail
        simp only [List.headD_cons, List.tail_cons] at hg
        rw [if_pos (by rw [h35]; decide)] at hnr
        have HG2 := Lib.hid hg
        have HN2 : Hid (numF (F.drop (i + 1)) = nr - 1) := Lib.hid (by omega)
        have f3 : ((ch.toNat : Int) == 35) = true := by rw [h35]; rfl
        clear hg hnr h78 h37 h35
        go_wp2_with fail
        have HC15 := Lib.hid (fun (W : World) (hb : Below W1.heap.size W1 W) => itoa_val v.natAbs (by omega) (w := W) HV.out (HS1.out.bel.trans (hb.mono HS1.out.size)))
        obtain ⟨NB, hNB⟩ : ∃ NB : ByteArray, ⟨(Lib.decDigits v.natAbs).toArray⟩ = NB := ⟨_, rfl⟩
        have HNBl : Hid (NB.data.toList = dg v) := Lib.hid (by rw [← hNB]; rfl)
        have HNBs : Hid (NB.size ≤ 21) := Lib.hid (by rw [← hNB]; exact dec_len (by omega))
        rw [hNB] at HC15
        have g1 : ∀ q : WOf (Below W1.heap.size W1), q.w.cell? ⟨nb, no, none⟩ = some (.int .i64 v) := fun q => (q.ok.cell (Nat.lt_of_lt_of_le hnb HS1.out.size)).trans ((HS1.out.bel.cell hnb).trans hnc)
        have hup : ∀ a b, Below W1.heap.size W1 a → Below a.heap.size a b → Below W1.heap.size W1 b := fun a b h k => below_trans' h k
        have hsl := slice_one (some ⟨nb, no, none⟩) nr cr hnr1
        have HIT : Hid (∀ q : WOf (Below W1.heap.size W1), Calls Tryd.prog 46 #[.int .i64 (max v (-v))] q.w fun e w' => e = .returned (.string NB) ∧ Below q.w.heap.size q.w w') := Lib.hid (fun q => by have := HC15.out q.w q.ok; rwa [show ((v.natAbs : Nat) : Int) = max v (-v) by omega] at this)
        clear hNB
        refine wp_region_qt (Below W1.heap.size W1) 12 (Below.refl _ _) hup (by kernel_rfl) (by kernel_rfl) (fun hne => ?_)
        simp only [List.take_succ_cons, List.take_zero, List.drop_succ_cons, List.drop_zero]
        repeat (go_big_quiet_step (with_reducible exact calls_ext hup (HIT.out _)))
        refine wpQuiet_nil ?_
        clear hne
        intro q
        obtain ⟨wx, hxx⟩ := q
        have HSx := Lib.hid (HS1.out.up hxx)
        have HCx := Lib.hid (bld_str w0.heap.size b (Lib.byteCells (bs ++ D)) NB wx HSx.out.bld (by rw [Lib.byteCells_length, List.length_append]; have := HDL.out; have := HNBs.out; omega) HSx.out.size)
        clear g1 HIT HC15 hup
        go_wp2_with fail
        refine HCx.out.mono ?_
        rintro e w5 ⟨rfl, ha, hb2, ho2⟩
        have HS5 := Lib.hid (HSx.out.write rfl ha hb2 ho2)
        have hmu2 := HS5.out.pos
        clear ha hb2 ho2
        go_wp2_with fail
        case roundEnd =>
          refine ⟨⟨i + 1, nr - 1, cr - 1, _, r2, D ++ NB.data.toList, _, _, by omega, rfl, rfl, rfl, HRT, Lib.hid ?_, HN2, Lib.hid ?_⟩, ?_⟩
          · rw [HG2.out, HNBl.out]; simp
          · have := HS5.out; rwa [List.append_assoc] at this
          · rw [hmu, hmu2]; omega
      rw [if_neg h35] at hg
      rw [if_neg (by simp [h35, h37])] at hnr
      have f3 : ((ch.toNat : Int) == 35) = false := by rw [beq_eq_false_iff_ne]; intro e; exact h35 (UInt8.toNat_inj.1 (show ch.toNat = 35 from by omega))
      have HG2 := Lib.hid hg
      have HN2 : Hid (numF (F.drop (i + 1)) = nr) := Lib.hid (by omega)
      have HC := Lib.hid (bld_rune w0.heap.size b (Lib.byteCells (bs ++ D)) (ch.toNat : Int) (by omega) (by omega) W1 HS1.out.bld (by rw [Lib.byteCells_length, List.length_append]; have := HDL.out; omega) HS1.out.size)
      have HRB := Lib.hid (runeB ch h128)
      clear hg hnr h78 h37 h35
      go_wp2_with fail
      refine HC.out.mono ?_
      rintro e w2 ⟨rfl, ha, hb2, ho2⟩
      rw [HRB.out] at ha
      have HS2 := Lib.hid (HS1.out.write rfl ha hb2 ho2)
      have hmu2 := HS2.out.pos
      clear ha hb2 ho2
      go_wp2_with fail
      case roundEnd =>
        refine ⟨⟨i + 1, nr, cr, Ar, rest, D ++ [ch], _, _, by omega, rfl, rfl, rfl, HR, Lib.hid ?_, HN2, Lib.hid ?_⟩, ?_⟩
        · rw [HG2.out]; simp
        · have := HS2.out; rwa [List.append_assoc] at this
        · rw [hmu, hmu2]; omega
    · have hnext : ∀ ty, (Instr.next (.pointer (some ⟨w.heap.size + 1, 0, none⟩)) true ty).run Tryd.prog wr = _ := fun ty => Lib.run_next_end_at wr (w.heap.size + 1) FB i ty HS.out.it hlt
      have hg := HG.out
      rw [List.drop_of_length_le (by rw [← HFS.out]; omega)] at hg
      simp only [wrF, List.append_nil] at hg
      have HC := Lib.hid (bld_str w0.heap.size b (Lib.byteCells (bs ++ D)) ⟨#[59, 10]⟩ wr HS.out.bld (by rw [Lib.byteCells_length, List.length_append]; have := HDL.out; show _ + 2 ≤ _; omega) HS.out.size)
      have HG2 := Lib.hid hg
      clear hg hlt
      go_wp2_with fail
      refine HC.out.mono ?_
      rintro e w2 ⟨rfl, ha, hb2, ho2⟩
      have HS2 := Lib.hid (HS.out.write rfl ha hb2 ho2)
      clear ha hb2 ho2
      go_wp2_with fail
      go_end0
      refine ⟨rfl, ?_, HS2.out.bel, HS2.out.oth⟩
      have := HS2.out.bld
      rw [HLN.out, HG2.out]
      simpa using this
end Go.Proofs.YtbgekgakamincaaDoor.Pr

/- printer.Print. -/
namespace Go.Proofs.YtbgekgakamincaaDoor.Pr
open Go.RowKit Go.Proofs.YtbgekgakamincaaDoor.Lx
set_option linter.unusedVariables false

theorem bld_fresh {w0 w : World} (h : w0.heap.size ≤ w.heap.size) : Bld w0.heap.size w.heap.size (Lib.byteCells []) (w.alloc (.cells #[.pointer none, .slice none 0 0] TT)) :=
  .inl ⟨h, .slice none 0 0, heap_alloc_new w _, ⟨rfl, .inl ⟨rfl, rfl⟩⟩, by simp [Value.ownBlock]⟩
set_option maxRecDepth 100000 in
set_option maxHeartbeats 4000000 in
theorem print_val (A : Option Addr) (n c : Nat) (l : List Cm) (w : World) (h : IsCms w A n c l) (hv : VarP w) :
    Calls Tryd.prog 15 #[.slice A n c] w fun e w' => e = .returned (.tuple #[.string ⟨(printL l).1.toArray⟩, i64 ((printL l).2 : Nat)]) ∧ Below w.heap.size w w' := by
  have hnm : n ≤ 9223372036854775807 := Nat.le_trans h.2.2.1 (Nat.le_trans h.2.2.2.1 (by decide))
  have HI := Lib.hid h
  have HN := Lib.hid h.1
  have HVP := Lib.hid hv
  have HV := Lib.hid (valid_val A n c l w h)
  obtain ⟨v, hv⟩ : ∃ v, validB l = v := ⟨_, rfl⟩
  rw [hv] at HV
  clear h
  cases v with
  | false =>
    have HR : Hid (printL l = ([], 1)) := Lib.hid (by unfold printL; rw [if_pos hv])
    clear hv
    go_enter Tryd.func15, Tryd.ntmps15
    go_wp2_with fail
    refine HV.out.mono ?_
    rintro e w1 ⟨rfl, hb1⟩
    have HB1 := Lib.hid hb1
    clear hb1
    go_wp2_with fail
    go_ret2
    rw [HR.out]
    exact ⟨rfl, HB1.out⟩
  | true =>
    have hv2 := hv
    unfold validB at hv2
    simp only [Bool.and_eq_true, decide_eq_true_eq] at hv2
    have HA := Lib.hid (List.all_eq_true.1 hv2.2)
    have hn3 : n ≤ 300 := by rw [← HN.out]; exact hv2.1
    have HR : Hid (printL l = if (LEX (outL l)).err ≠ 0 then ([], 2) else (outL l, 0)) := Lib.hid (by unfold printL; rw [if_neg (by rw [hv]; decide)])
    clear hv hv2 hnm
    go_enter Tryd.func15, Tryd.ntmps15
    go_wp2_with fail
    refine HV.out.mono ?_
    rintro e w1 ⟨rfl, hb1⟩
    have HB1 := Lib.hid hb1
    have hs1 := hb1.size
    clear hb1
    go_wp2_with fail
    have hbl : Below w.heap.size w (w1.alloc (.cells #[.pointer none, .slice none 0 0] TT)) := HB1.out.alloc hs1 _
    have hbd := bld_fresh (w0 := w) (w := w1) hs1
    have hcell : (w1.alloc (.cells #[.pointer none, .slice none 0 0] TT)).heap[w1.heap.size]? = some (.cells #[.pointer none, .slice none 0 0] TT (0, 0)) := heap_alloc_new w1 _
    obtain ⟨W0, hW0⟩ : ∃ W0, w1.alloc (.cells #[.pointer none, .slice none 0 0] TT) = W0 := ⟨_, rfl⟩
    rw [hW0] at hbl hbd hcell ⊢
    have HBL := Lib.hid hbl
    have HBD := Lib.hid hbd
    have HCE := Lib.hid hcell
    clear hW0 hbl hbd hcell hs1
    go_loopw [15] (fun i wr => ∃ (k : Nat), k ≤ n ∧ i = i64 (k : Nat) ∧ Hid (Bld w.heap.size w1.heap.size (Lib.byteCells (outL (l.take k))) wr) ∧ Hid (Below w.heap.size w wr) ∧ Hid (k = 0 → wr.heap[w1.heap.size]? = some (.cells #[.pointer none, .slice none 0 0] TT (0, 0)))) (fun i _ => n - (intOf i).toNat)
    case atStart => exact ⟨0, Nat.zero_le _, rfl, HBD, HBL, Lib.hid fun _ => HCE.out⟩
    case round =>
      obtain ⟨k, hk, rfl, HD, HB, HZ⟩ := hrel
      by_cases hlt : k < n
      · have hlt' : (k : Int) < (n : Int) := by omega
        have hkl : k < l.length := by rw [HN.out]; exact hlt
        obtain ⟨b, off, rfl, hb, hc⟩ := rd_el (dec := decC) (s := 4) (fun _ => rfl) (HI.out.up HB.out).2.1 HN.out hkl
        have hok := HA.out l[k] (List.getElem_mem hkl)
        have HCI := Lib.hid (HI.out.2.2.2.2 _ (List.getElem_mem hkl))
        have HOK := Lib.hid (okC_of hok)
        have hlen : (outL (l.take k)).length ≤ 1000000 := by
          have h1 := outL_len (l.take k) (fun x hx => HA.out x (List.mem_of_mem_take hx))
          rw [List.length_take] at h1
          omega
        have HLE := Lib.hid hlen
        have HST : Hid (outL (l.take (k + 1)) = outL (l.take k) ++ (lnC l[k] ++ [10])) := Lib.hid (by rw [List.take_succ_eq_append_getElem hkl, outL_snoc])
        obtain ⟨⟨xk, xm, xA, xn, xc, xs, xp⟩, hx⟩ : ∃ x, l[k] = x := ⟨_, rfl⟩
        rw [hx] at hc HCI HOK HST
        have c0 := hc 0 _ rfl
        have c1 := hc 1 _ rfl
        have c2 := hc 2 _ rfl
        have c3 := hc 3 _ rfl
        rw [Nat.add_zero] at c0
        dsimp only at c0 c1 c2 c3 HOK
        have hbw : Below w.heap.size w (wr.alloc (.cells #[.int .i64 xk, .string xm, .slice xA xn xc, .int .i64 xp] 40)) := HB.out.alloc HB.out.size _
        have HCX := Lib.hid (wr_val w w1.heap.size (outL (l.take k)) ⟨xk, xm, xA, xn, xc, xs, xp⟩ _ hbw HCI.out HOK.out HVP.out (HD.out.alloc (.cells #[.int .i64 xk, .string xm, .slice xA xn xc, .int .i64 xp] 40)) HLE.out)
        dsimp only at HCX
        clear hb hc hx hkl hok hlen hbw
        go_wp2_with fail
        refine HCX.out.mono ?_
        rintro e w2 ⟨rfl, hd2, hb2, -⟩
        have HD2 := Lib.hid hd2
        have HB2 := Lib.hid hb2
        clear hd2 hb2
        go_wp2_with fail
        case roundEnd =>
          refine ⟨⟨k + 1, by omega, rfl, Lib.hid (by rw [HST.out]; exact HD2.out), HB2, Lib.hid fun h => absurd h (by omega)⟩, ?_⟩
          simp only [intOf]; omega
      · have hlt' : ¬ (k : Int) < (n : Int) := by omega
        obtain rfl : k = n := by omega
        have hd := HD.out
        rw [List.take_of_length_le (by rw [HN.out]; exact Nat.le_refl _)] at hd
        have HD2 := Lib.hid hd
        have hlen : (outL l).length ≤ 1000000 := by
          have h1 := outL_len l HA.out
          rw [HN.out] at h1
          omega
        obtain ⟨T, hT⟩ : ∃ T : ByteArray, ⟨(outL l).toArray⟩ = T := ⟨_, rfl⟩
        have HTl : Hid (T.data.toList = outL l) := Lib.hid (by rw [← hT])
        have hTs : T.size ≤ maxLen := by rw [← hT]; show (outL l).length ≤ _; unfold maxLen; omega
        have HLX := Lib.hid (lex_val T hTs)
        rw [HTl.out] at HLX
        have HSTR : Hid (∀ W, Bld w.heap.size w1.heap.size (Lib.byteCells (outL l)) W → (l = [] → W.heap[w1.heap.size]? = some (.cells #[.pointer none, .slice none 0 0] TT (0, 0))) →
            Calls Tryd.prog 25 #[.pointer (some ⟨w1.heap.size, 0, none⟩)] W fun e w' => e = .returned (.string T) ∧ Bld w.heap.size w1.heap.size (Lib.byteCells (outL l)) w' ∧ (l = [] → w'.heap[w1.heap.size]? = some (.cells #[.pointer none, .slice none 0 0] TT (0, 0))) ∧ Below w.heap.size W w') := Lib.hid (by
          intro W h1 h2
          by_cases hl : l = []
          · have hA : BldAt w.heap.size w1.heap.size (.pointer none) [] W := by
              have hB0 : w.heap.size ≤ w1.heap.size := h1.elim (fun x => x.1) (fun x => x.1)
              exact ⟨hB0, .slice none 0 0, h2 hl, ⟨rfl, .inl ⟨rfl, rfl⟩⟩, by simp [Value.ownBlock]⟩
            refine (bld_String_nil w.heap.size w1.heap.size _ W (h2 hl) hA).mono ?_
            rintro e w' ⟨rfl, h3, h4, h5, -⟩
            refine ⟨by rw [← hT, hl]; rfl, ?_, fun _ => h3, h5⟩
            rw [hl]
            exact .inl h4
          · refine (bld_String w.heap.size w1.heap.size (outL l) W h1 ?_).mono ?_
            · intro e
              cases l with
              | nil => exact hl rfl
              | cons x r => unfold outL at e; rw [List.flatMap_cons] at e; simp at e
            · rintro e w' ⟨rfl, h3, h4, -⟩
              exact ⟨by rw [hT], h3, fun h => absurd h hl, h4⟩)
        have HZ2 : Hid (l = [] → wr.heap[w1.heap.size]? = some (.cells #[.pointer none, .slice none 0 0] TT (0, 0))) := Lib.hid fun h => HZ.out (by rw [← HN.out, h]; rfl)
        obtain ⟨ts, er, ps, hres⟩ : ∃ ts er ps, LEX (outL l) = ⟨ts, er, ps⟩ := ⟨_, _, _, rfl⟩
        rw [hres] at HLX HR
        dsimp only at HR
        clear hd hlen hT hTs hlt hk hres
        go_wp2_with fail
        refine (HSTR.out _ HD2.out HZ2.out).mono ?_
        rintro e w2 ⟨rfl, hd2, hz2, hb2⟩
        have HD3 := Lib.hid hd2
        have HZ3 := Lib.hid hz2
        have HB2 := Lib.hid (HB.out.trans hb2)
        clear hd2 hz2 hb2
        go_wp2_with fail
        refine (HLX.out _ (HVP.out.err.up HB2.out)).mono ?_
        rintro e w3 ⟨A3, n3, c3, rfl, hT3, hb3⟩
        have HD4 := Lib.hid (bld_up HD3.out hb3)
        have HZ4 : Hid (l = [] → w3.heap[w1.heap.size]? = some (.cells #[.pointer none, .slice none 0 0] TT (0, 0))) := Lib.hid fun h => by
          have h5 := HZ3.out h
          exact (hb3.block _ (Array.getElem?_eq_some_iff.1 h5).1).trans h5
        have HB3 := Lib.hid (HB2.out.trans (hb3.mono HB2.out.size))
        clear hT3 hb3
        by_cases he : er = 0
        · subst he
          have HR2 : Hid (printL l = (outL l, 0)) := Lib.hid (by rw [HR.out, if_neg (by decide)])
          go_wp2_with fail
          refine (HSTR.out _ HD4.out HZ4.out).mono ?_
          rintro e w5 ⟨rfl, -, -, hb5⟩
          have HB5 := Lib.hid (HB3.out.trans hb5)
          clear hb5
          go_wp2_with fail
          go_ret2
          rw [HR2.out, ← HTl.out, str_eta]
          exact ⟨rfl, HB5.out⟩
        · have f1 : ((er : Int) != 0) = true := by rw [bne_iff_ne]; omega
          have HR2 : Hid (printL l = ([], 2)) := Lib.hid (by rw [HR.out, if_pos he])
          go_wp2_with fail
          go_ret2
          rw [HR2.out]
          exact ⟨rfl, HB3.out⟩
end Go.Proofs.YtbgekgakamincaaDoor.Pr
