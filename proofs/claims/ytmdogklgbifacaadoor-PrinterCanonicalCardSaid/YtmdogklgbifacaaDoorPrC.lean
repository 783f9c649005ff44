/- strings.Builder's methods at a builder that is the one field of printer.text. printer's command: a line is written. printer.Print. The printer in plain Lean: the lines' tokens. The head of the printer's statements. -/
import Derived.Test.YtmdogklgbifacaaDoorShelf
import Derived.Shelf.Strings.BuilderK
import Derived.Shelf.Strings.BuilderRune
import Derived.Test.YtmdogklgbifacaaDoorBas
import Derived.StillTailTactics
import Derived.Lib.OthersKept
import Derived.Lib.AppendIntMem
import Derived.Test.YtmdogklgbifacaaDoorPrB
import Derived.Test.YtmdogklgbifacaaDoorLxC

/- strings.Builder's methods at a builder that is the one field of printer.text. -/
namespace Go.Proofs.YtmdogklgbifacaaDoor.Pr
open Go.RowKit Go.Shelf
set_option linter.unusedVariables false

abbrev TT : TypeId := 51
abbrev BldAt (B b : Nat) (p : Value) (bs : List Value) (w : World) : Prop := Lib.BuilderAtF TT 5 B b p bs w
abbrev Bld (B b : Nat) (bs : List Value) (w : World) : Prop := Lib.IsBuilderF TT 5 B b bs w
abbrev Oth (b : Nat) (w w' : World) : Prop := Lib.OthersKept 5 (some b) w w'

theorem szB : (Tryd.prog.info? 49).map (·.size) = some 2 := by kernel_rfl
theorem lyB : liesAt Tryd.prog Tryd.prog.depth TT (2 / Tryd.prog.cellsOf TT) 0 49 1 = true := by kernel_rfl
theorem infoU8 : (Tryd.prog.info? 5).map (fun i => (i.zero, i.size, i.bytes)) = some (some (.int .u8 0), 1, 1) := by kernel_rfl
theorem neTT : TT ≠ 5 := by decide
theorem eAbi : ∀ x w, (Extern.AbiNoEscape.same #[x]).run Tryd.prog w = .ok x w := fun x w => rfl

set_option maxHeartbeats 1000000 in
set_option maxRecDepth 100000 in
theorem copy_used (b : Nat) (w : World) (h0 : w.cell? ⟨b, 0, none⟩ = some (.pointer (some ⟨b, 0, none⟩))) :
    Calls Tryd.prog 62 #[.pointer (some ⟨b, 0, none⟩)] w fun e w' => e = .returned (.tuple #[]) ∧ w' = w := by
  obtain ⟨j, hj, _⟩ := Option.map_eq_some_iff.1 szB
  go_enter Tryd.func62, Tryd.ntmps62
  go_wp2
  rw [Lib.run_neq_ptr_same w _ Tryd.underlying47 hj]
  go_wp2
  go_end0
  exact ⟨rfl, rfl⟩

set_option maxHeartbeats 1000000 in
set_option maxRecDepth 100000 in
theorem copy_fresh (b : Nat) (w : World) (h0 : w.cell? ⟨b, 0, none⟩ = some (.pointer none)) (hsh : w.shape? b = some (TT, 2)) (hfz : w.frozen? ⟨b, 0, none⟩ = false) :
    Calls Tryd.prog 62 #[.pointer (some ⟨b, 0, none⟩)] w fun e w' => e = .returned (.tuple #[]) ∧ w' = w.setCell ⟨b, 0, none⟩ (.pointer (some ⟨b, 0, none⟩)) := by
  obtain ⟨j, hj, hjs⟩ := Option.map_eq_some_iff.1 szB
  go_enter Tryd.func62, Tryd.ntmps62
  go_wp2
  rw [Lib.run_to_unsafe w ⟨b, 0, none⟩ Tryd.underlying47 Tryd.underlying112 hj (by rw [hjs]; decide) hsh (Nat.zero_lt_succ 1)]
  simp only [Result.andThen]
  rw [Oper.upon_value]
  go_wp2
  rw [run_callFunc_extern Tryd.func87 (by kernel_rfl) (by kernel_rfl) (by kernel_rfl) (e := Extern.AbiNoEscape.same) (by kernel_rfl)]
  rw [Lib.run_noEscape]
  simp only [Result.andThen]
  rw [Oper.upon_value]
  go_wp2
  rw [Lib.run_from_unsafe w ⟨b, 0, none⟩ Tryd.underlying112 Tryd.underlying47 hj hsh lyB]
  simp only [Result.andThen]
  rw [Oper.upon_value]
  go_wp2
  go_end0
  exact ⟨rfl, rfl⟩
theorem bld_copy (B b : Nat) (bs : List Value) (w : World) (h : Bld B b bs w) :
    Calls Tryd.prog 62 #[.pointer (some ⟨b, 0, none⟩)] w fun e w' => e = .returned (.tuple #[]) ∧ (BldAt B b (.pointer (some ⟨b, 0, none⟩)) bs w' ∧ Below B w w' ∧ Oth b w w') := by
  rcases h with h | h
  · refine (copy_fresh b w h.cell0 h.shape h.frozen0).mono ?_
    rintro e w' ⟨rfl, rfl⟩
    exact ⟨rfl, h.used _, (Below.refl B w).setCell (p := ⟨b, 0, none⟩) h.1 _, (Lib.OthersKept.refl _ _ w).setCell ⟨b, 0, none⟩ rfl _⟩
  · refine (copy_used b w h.cell0).mono ?_
    rintro e w' ⟨rfl, rfl⟩
    exact ⟨rfl, h, Below.refl B _, Lib.OthersKept.refl _ _ _⟩

set_option maxHeartbeats 2000000 in
set_option maxRecDepth 100000 in
theorem bld_str (B b : Nat) (bs : List Value) (s : ByteArray) (w : World) (h : Bld B b bs w) (hlen : bs.length + s.size ≤ 140737488355328) (hBw : B ≤ w.heap.size) :
    Calls Tryd.prog 39 #[.pointer (some ⟨b, 0, none⟩), .string s] w fun e w' => e = .returned (.tuple #[.int .i64 s.size, .nilIface]) ∧ (BldAt B b (.pointer (some ⟨b, 0, none⟩)) (bs ++ Lib.strCells s) w' ∧ Below B w w' ∧ Oth b w w') := by
  obtain ⟨i0, hi, hz0, hz1, hz2⟩ := info_parts infoU8
  go_enter Tryd.func39, Tryd.ntmps39
  go_wp2_with fail
  refine (bld_copy B b bs _ h).mono ?_
  rintro e w1 ⟨rfl, h1, hb1, hk1⟩
  obtain ⟨hB, v, hbk, hown, hne⟩ := h1
  have c0 : w1.cell? ⟨b, 0, none⟩ = some (.pointer (some ⟨b, 0, none⟩)) := by rw [Lib.cell_of_heap hbk]; rfl
  have c1 : w1.cell? ⟨b, 1, none⟩ = some v := by rw [Lib.cell_of_heap hbk]; rfl
  go_wp2_with (at_builtin; refine Lib.wpList_append_own_stringF _ rfl _ _ 35 9 rfl B 5 i0 Tryd.underlying35 Tryd.underlying9 hi hz0 hz1 hz2 _ _ _ rfl hown s rfl ?c3 ?c4 ?c5 ?_)
  case c3 => unfold maxLen; omega
  case c4 => omega
  case c5 => have := hb1.size; omega
  intro v' w2 hown' hgrow _
  have hlt : b < w1.heap.size := by
    rcases Nat.lt_or_ge b w1.heap.size with h' | h'
    · exact h'
    · simp [Array.getElem?_eq_none h'] at hbk
  have hb2 : w2.heap[b]? = some (.cells #[.pointer (some ⟨b, 0, none⟩), v] TT (0, 0)) := by
    rw [hgrow.block b hlt (fun e => hne e.symm)]
    exact hbk
  have d0 : w2.cell? ⟨b, 0, none⟩ = some (.pointer (some ⟨b, 0, none⟩)) := by rw [Lib.cell_of_heap hb2]; rfl
  have d1 : w2.cell? ⟨b, 1, none⟩ = some v := by rw [Lib.cell_of_heap hb2]; rfl
  have f1 : w2.frozen? ⟨b, 1, none⟩ = false := Lib.frozen_of_heap hb2 1
  obtain ⟨ao, n', cap, rfl⟩ : ∃ ao n' cap, v' = .slice ao n' cap := by
    rcases hown'.2 with ⟨hv, _⟩ | ⟨g, cap, cur, fz, hv, _⟩
    · exact ⟨_, _, _, hv⟩
    · exact ⟨_, _, _, hv⟩
  go_wp2
  go_ret2
  refine ⟨rfl, ?_, ?_, (hk1.grown hgrow (Lib.ownsRowF_kind hown)).setCell ⟨b, 1, none⟩ rfl _⟩
  · exact Lib.BuilderAtF.put (T := TT) (e := 5) hB hb2 (bs' := bs ++ Lib.strCells s) (by simpa [Lib.strCells_length] using hown') neTT
  · exact (hb1.grown hgrow (by have := hb1.size; omega) (fun k hk => (hown.lt k hk).1)).setCell (p := ⟨b, 1, none⟩) hB _

set_option maxHeartbeats 2000000 in
set_option maxRecDepth 100000 in
theorem bld_rune (B b : Nat) (bs : List Value) (r : Int) (hr0 : -2147483648 ≤ r) (hr1 : r ≤ 2147483647) (w : World) (h : Bld B b bs w) (hlen : bs.length + 4 ≤ 140737488355328) (hBw : B ≤ w.heap.size) :
    Calls Tryd.prog 40 #[.pointer (some ⟨b, 0, none⟩), .int .i32 r] w fun e w' => e = .returned (.tuple #[.int .i64 (Lib.runeCells r).length, .nilIface]) ∧ (BldAt B b (.pointer (some ⟨b, 0, none⟩)) (bs ++ Lib.runeCells r) w' ∧ Below B w w' ∧ Oth b w w') := by
  have hk4 := Lib.runeCells_le r
  go_enter Tryd.func40, Tryd.ntmps40
  go_wp2_with fail
  refine (bld_copy B b bs _ h).mono ?_
  rintro e w1 ⟨rfl, h1, hb1, hk1⟩
  obtain ⟨hB, v, hbk, hown, hne⟩ := h1
  obtain ⟨ao, cap, rfl⟩ : ∃ ao cap, v = .slice ao bs.length cap := by
    rcases hown.2 with ⟨hv, h0⟩ | ⟨g, cap, cur, fz, hv, _⟩
    · exact ⟨none, 0, by rw [hv, h0]⟩
    · exact ⟨_, _, hv⟩
  have c0 : w1.cell? ⟨b, 0, none⟩ = some (.pointer (some ⟨b, 0, none⟩)) := by rw [Lib.cell_of_heap hbk]; rfl
  have c1 : w1.cell? ⟨b, 1, none⟩ = some (.slice ao bs.length cap) := by rw [Lib.cell_of_heap hbk]; rfl
  go_wp2_with fail
  refine (Tryd.utf8_AppendRune_row B _ bs.length bs r hr0 hr1 _ hown hlen (by have := hb1.size; omega)).mono ?_
  rintro e w2 ⟨v', rfl, hown', o, hgrow⟩
  have hlt : b < w1.heap.size := by
    rcases Nat.lt_or_ge b w1.heap.size with h' | h'
    · exact h'
    · simp [Array.getElem?_eq_none h'] at hbk
  have hb2 : w2.heap[b]? = some (.cells #[.pointer (some ⟨b, 0, none⟩), .slice ao bs.length cap] TT (0, 0)) := by
    rw [hgrow.block b (by simp; omega) (fun e => hne e.symm), Lib.alloc_old w1 _ b hlt]
    exact hbk
  have d0 : w2.cell? ⟨b, 0, none⟩ = some (.pointer (some ⟨b, 0, none⟩)) := by rw [Lib.cell_of_heap hb2]; rfl
  have d1 : w2.cell? ⟨b, 1, none⟩ = some (.slice ao bs.length cap) := by rw [Lib.cell_of_heap hb2]; rfl
  have f1 : w2.frozen? ⟨b, 1, none⟩ = false := Lib.frozen_of_heap hb2 1
  obtain ⟨g, cap', rfl⟩ : ∃ g cap', v' = .slice (some ⟨g, 0, none⟩) (bs.length + (Lib.runeCells r).length) cap' := by
    rcases hown'.2 with ⟨_, h0⟩ | ⟨g, cap', cur, fz, hv, _⟩
    · omega
    · exact ⟨g, cap', hv⟩
  go_wp2
  go_ret2
  refine ⟨?_, ?_, ?_, ((hk1.alloc _).grown hgrow (Lib.ownsRowF_kind (hown.alloc _))).setCell ⟨b, 1, none⟩ rfl _⟩
  · have e : ((bs.length : Int) + ((Lib.runeCells r).length : Int) - (bs.length : Int)) = ((Lib.runeCells r).length : Int) := by omega
    simp [e]
  · exact Lib.BuilderAtF.put (T := TT) (e := 5) hB hb2 (bs' := bs ++ Lib.runeCells r) (by simpa using hown') neTT
  · exact ((hb1.alloc (by have := hb1.size; omega) _).grown hgrow (by have := hb1.size; simp; omega) (fun k hk => (hown.lt k hk).1)).setCell (p := ⟨b, 1, none⟩) hB _

set_option maxHeartbeats 1000000 in
set_option maxRecDepth 100000 in
theorem bld_String (B b : Nat) (l : List UInt8) (w : World) (h : Bld B b (Lib.byteCells l) w) (h0 : l ≠ []) :
    Calls Tryd.prog 23 #[.pointer (some ⟨b, 0, none⟩)] w fun e w' => e = .returned (.string ⟨l.toArray⟩) ∧ (Bld B b (Lib.byteCells l) w' ∧ Below B w w' ∧ Oth b w w') := by
  obtain ⟨p, hp, hAt⟩ : ∃ p, (p = .pointer none ∨ p = .pointer (some ⟨b, 0, none⟩)) ∧ BldAt B b p (Lib.byteCells l) w := by
    rcases h with h | h
    · exact ⟨_, .inl rfl, h⟩
    · exact ⟨_, .inr rfl, h⟩
  obtain ⟨hB, v, hbk, hown, hne⟩ := hAt
  have hl0 : l.length ≠ 0 := by simpa using h0
  rw [Lib.byteCells_length] at hown
  obtain ⟨g, cap, cur, fz, rfl, hbg, hg, hfz, hnc, hcm, hcs, htake⟩ : ∃ g cap cur fz, v = .slice (some ⟨g, 0, none⟩) l.length cap ∧ B ≤ g ∧ w.heap[g]? = some (.cells cur 5 fz) ∧ fz.2 ≤ l.length * 1 ∧ l.length ≤ cap ∧ cap ≤ maxLen ∧ cur.size = cap * 1 ∧ cur.toList.take (l.length * 1) = Lib.byteCells l := by
    rcases hown.2 with ⟨_, hz⟩ | ⟨g, cap, cur, fz, hv, r⟩
    · exact absurd hz hl0
    · exact ⟨g, cap, cur, fz, hv, r⟩
  have c1 : w.drew.cell? ⟨b, 1, none⟩ = some (.slice (some ⟨g, 0, none⟩) l.length cap) := by
    have : w.drew.heap[b]? = some (.cells #[p, .slice (some ⟨g, 0, none⟩) l.length cap] TT (0, 0)) := hbk
    rw [Lib.cell_of_heap this]; rfl
  have hSD : (Builtin.unsafeSliceData_ #[35] 86 #[.slice (some ⟨g, 0, none⟩) l.length cap]).run Tryd.prog w.drew = .ok (.pointer (some ⟨g, 0, none⟩)) w.drew :=
    Lib.run_unsafeSliceData_row _ _ _ _ _ _ (by omega)
  have hUS : (Builtin.unsafeString_ #[86, 3] 9 #[.pointer (some ⟨g, 0, none⟩), .int .i64 l.length]).run Tryd.prog w.drew = .ok (.string ⟨l.toArray⟩) (w.drew.freeze ⟨g, 0, none⟩ l.length) := by
    refine Lib.run_unsafeString_row w.drew 86 3 9 5 Tryd.underlying86 (by kernel_rfl) g cur.size (by have hg' : w.drew.heap[g]? = some (.cells cur 5 fz) := hg; simp [World.shape?, hg']) l h0 (by omega) (by unfold maxLen at hcm; omega) ?_
    intro j x hx
    have := hown.cells (g := g) rfl j (.int .u8 x.toNat) (by simp [Lib.byteCells, hx])
    exact this
  have hkeep : Bld B b (Lib.byteCells l) (w.drew.freeze ⟨g, 0, none⟩ l.length) := by
    have hA : BldAt B b p (Lib.byteCells l) w.drew := ⟨hB, _, hbk, by rw [Lib.byteCells_length]; exact hown, hne⟩
    have hF := hA.froze (g := g) (cap := cap) (by rw [Lib.byteCells_length]; exact c1)
    rw [Lib.byteCells_length] at hF
    rcases hp with rfl | rfl
    · exact .inl hF
    · exact .inr hF
  have mixed : Tryd.prog.follows .mixedOrders = true := by kernel_rfl
  go_enter Tryd.func23, Tryd.ntmps23
  go_wp2
  go_region_o
  all_goals (go_wp2; go_ret; exact ⟨rfl, hkeep, Lib.below_freeze (Below.drew (Below.refl B w)) (p := ⟨g, 0, none⟩) hbg _, ((Lib.OthersKept.refl _ _ w).drew).freeze ⟨g, 0, none⟩ _ ⟨cur, fz, hg⟩⟩)

set_option maxHeartbeats 2000000 in
set_option maxRecDepth 100000 in
theorem bld_String_nil (B b : Nat) (p : Value) (w : World) (hbk : w.heap[b]? = some (.cells #[p, .slice none 0 0] TT (0, 0))) (hA : BldAt B b p [] w) :
    Calls Tryd.prog 23 #[.pointer (some ⟨b, 0, none⟩)] w fun e w' => e = .returned (.string ⟨#[]⟩) ∧ (w'.heap[b]? = some (.cells #[p, .slice none 0 0] TT (0, 0)) ∧ BldAt B b p [] w' ∧ Below B w w' ∧ Oth b w w') := by
  have hUS : ∀ (W : World) (q : Option Addr), (Builtin.unsafeString_ #[86, 3] 9 #[.pointer q, .int .i64 0]).run Tryd.prog W = .ok (.string .empty) W := fun W q => Lib.run_unsafeString_none W _ _ _ q
  have c1 : w.drew.cell? ⟨b, 1, none⟩ = some (.slice none 0 0) := by
    have : w.drew.heap[b]? = some (.cells #[p, .slice none 0 0] TT (0, 0)) := hbk
    rw [Lib.cell_of_heap this]; rfl
  have hSD : (Builtin.unsafeSliceData_ #[35] 86 #[.slice none 0 0]).run Tryd.prog w.drew = .ok (.pointer none) w.drew := rfl
  have mixed : Tryd.prog.follows .mixedOrders = true := by kernel_rfl
  go_enter Tryd.func23, Tryd.ntmps23
  go_wp2
  go_region_o
  all_goals (go_wp2; go_ret; exact ⟨rfl, hbk, hA.drew, Below.drew (Below.refl B w), (Lib.OthersKept.refl _ _ w).drew⟩)
end Go.Proofs.YtmdogklgbifacaaDoor.Pr

/- printer's command: a line is written. -/
namespace Go.Proofs.YtmdogklgbifacaaDoor.Pr
open Go.RowKit Go.Proofs.YtmdogklgbifacaaDoor.Lx
set_option linter.unusedVariables false

theorem bldAt_up {B b : Nat} {p : Value} {bs : List Value} {W W' : World} (h : BldAt B b p bs W) (hb : Below W.heap.size W W') : BldAt B b p bs W' := by
  have hlt := h.lt
  obtain ⟨hB, v, hv, hown, hne⟩ := h
  exact ⟨hB, v, (hb.block b hlt).trans hv, hown.kept (row := none) ⟨hb.os, hb.tape, hb.output, hb.size, fun k hk _ => hb.block k hk⟩ (Classical.em _), hne⟩
theorem bld_up {B b : Nat} {bs : List Value} {W W' : World} (h : Bld B b bs W) (hb : Below W.heap.size W W') : Bld B b bs W' := h.elim (fun x => .inl (bldAt_up x hb)) (fun x => .inr (bldAt_up x hb))
theorem oth_up {b : Nat} {W W' : World} (hb : Below W.heap.size W W') : Oth b W W' := fun k o hk _ _ => (hb.block k (Array.getElem?_eq_some_iff.1 hk).1).trans hk
theorem blk_oth {b g : Nat} {t : TypeId} {cs : Array Value} {w w' : World} (h : Blk w g t cs) (ho : Oth b w w') (hg : g ≠ b) (ht : t ≠ 5) : Blk w' g t cs :=
  ho g _ h (fun e => hg (Option.some.inj e)) (fun c fz e => by injection e with _ e2; exact ht e2)
theorem lt_bld {B b : Nat} {bs : List Value} {W : World} (h : Bld B b bs W) : b < W.heap.size := h.elim (fun x => x.lt) (fun x => x.lt)
/-- How many numbers a form wants. -/
def numF : List UInt8 → Nat
  | [] => 0
  | c :: r => (if c = 35 ∨ c = 37 then 1 else 0) + numF r
theorem numF_form {k : Int} (h : kind11 k) : ((numF (formP k.toNat) : Nat) : Int) = (shapeOf k).2 := by
  rcases h with rfl | rfl | rfl | rfl | rfl | rfl | rfl | rfl | rfl | rfl | rfl <;> decide
theorem formP_ascii (k : Nat) : ∀ c ∈ formP k, c.toNat < 128 := by
  have h : (formP k).all (fun c => decide (c.toNat < 128)) = true := by
    unfold formP
    have hi : ∀ {p : Prop} [Decidable p] {a b : List UInt8}, a.all (fun c => decide (c.toNat < 128)) = true → b.all (fun c => decide (c.toNat < 128)) = true → (if p then a else b).all (fun c => decide (c.toNat < 128)) = true := by
      intro p _ a b ha hb; split <;> assumption
    repeat (refine hi (by decide) ?_)
    decide
  intro c hc
  have := List.all_eq_true.1 h c hc
  simpa using this
theorem size_int (w : World) : (sizeOf (Tryd.prog.elem 44)).run Tryd.prog w = .ok 1 w := by kernel_rfl
theorem elem_int : Tryd.prog.underlying 44 = some (.slice (Tryd.prog.elem 44)) := by kernel_rfl
def restA (A : Option Addr) (c : Nat) : Option Addr := if c = 1 then A else A.map (·.add (1 * 1))
theorem slice_one (A : Option Addr) (n c : Nat) (h1 : 1 ≤ n) (w : World) : (Instr.slice 44 (.slice A n c) (some (.int .i64 1)) none none).run Tryd.prog w = .ok (.slice (restA A c) (n - 1) (c - 1)) w := by
  rw [run_slice_l w 44 A n c elem_int .i64 _ (by omega) (by omega), size_int]
  rfl
theorem runeB (c : UInt8) (h : c.toNat < 128) : Lib.runeCells (c.toNat : Int) = Lib.byteCells [c] := by
  unfold Lib.runeCells
  rw [Lib.encodeRuneZ_one (by omega) (by omega)]
  rfl
theorem strB (s : ByteArray) : Lib.strCells s = Lib.byteCells s.data.toList := rfl
theorem byteCells_app (a b : List UInt8) : Lib.byteCells a ++ Lib.byteCells b = Lib.byteCells (a ++ b) := by unfold Lib.byteCells; rw [List.map_append]
/-- Numbers that are still to be written. -/
structure RestIs (w0 : World) (A : Option Addr) (n c : Nat) (r : List Int) : Prop where
  rd : Rd w0 w0.heap.size 1 A n (r.map iv)
  len : r.length = n
  nc : n ≤ c
  cm : c ≤ maxLen
  rng : ∀ v ∈ r, -1000000000 ≤ v ∧ v ≤ 1000000000
theorem RestIs.tail {w0 : World} {A : Option Addr} {n c : Nat} {v : Int} {r : List Int} (h : RestIs w0 A n c (v :: r)) : RestIs w0 (restA A c) (n - 1) (c - 1) r := by
  have hl := h.len
  have h1 : 1 ≤ n := by rw [← hl]; simp
  have := h.rd.cut (k := 1) h1 h.nc
  refine ⟨this, by simp at hl; omega, by have := h.nc; omega, by have := h.cm; omega, fun x hx => h.rng x (List.mem_cons_of_mem _ hx)⟩
theorem RestIs.cell {w0 : World} {A : Option Addr} {n c : Nat} {v : Int} {r : List Int} (h : RestIs w0 A n c (v :: r)) : ∃ b off, A = some ⟨b, off, none⟩ ∧ b < w0.heap.size ∧ w0.cell? ⟨b, off, none⟩ = some (.int .i64 v) := by
  obtain ⟨b, off, e, hb, hc⟩ := h.rd.2 (by rw [← h.len]; simp)
  exact ⟨b, off, e, hb, hc 0 _ rfl⟩

/-- Where a command's writing stands. -/
structure St (w0 w : World) (b : Nat) (FB : ByteArray) (cs : Array Value) (i : Nat) (txt : List UInt8) (W : World) : Prop where
  it : W.heap[w.heap.size + 1]? = some (.stringIter FB i)
  bld : Bld w0.heap.size b (Lib.byteCells txt) W
  bel : Below w0.heap.size w0 W
  oth : Oth b w W
  box : Blk W w.heap.size 46 cs
  lt : b < w.heap.size
  hw : w0.heap.size ≤ w.heap.size
theorem St.next {w0 w : World} {b : Nat} {FB : ByteArray} {cs : Array Value} {i : Nat} {txt : List UInt8} {W : World} (h : St w0 w b FB cs i txt W) (j : Nat) : St w0 w b FB cs j txt (W.iterAt (w.heap.size + 1) FB j) := by
  refine ⟨Lib.iterAt_heap W _ FB i j h.it, h.bld.iterAt h.it j, Lib.below_iterAt h.bel (by have := h.hw; omega) FB j, fun k o hk hb ho => ?_, ?_, h.lt, h.hw⟩
  · have hlt : k < w.heap.size := (Array.getElem?_eq_some_iff.1 hk).1
    rw [Lib.iterAt_other W (w.heap.size + 1) k FB j (by omega)]
    exact h.oth k o hk hb ho
  · exact (Lib.iterAt_other W (w.heap.size + 1) w.heap.size FB j (by omega)).trans h.box
theorem St.write {w0 w : World} {b : Nat} {FB : ByteArray} {cs : Array Value} {i : Nat} {txt s : List UInt8} {p : Value} {W W' : World} (h : St w0 w b FB cs i txt W) (hp : p = .pointer (some ⟨b, 0, none⟩))
    (h1 : BldAt w0.heap.size b p (Lib.byteCells txt ++ Lib.byteCells s) W') (h2 : Below w0.heap.size W W') (h3 : Oth b W W') : St w0 w b FB cs i (txt ++ s) W' := by
  rw [byteCells_app] at h1
  subst hp
  exact ⟨h3.iter h.it (by have := h.lt; omega), .inr h1, h.bel.trans h2, h.oth.trans h3, blk_oth h.box h3 (by have := h.lt; omega) (by decide), h.lt, h.hw⟩
theorem St.up {w0 w : World} {b : Nat} {FB : ByteArray} {cs : Array Value} {i : Nat} {txt : List UInt8} {W W' : World} (h : St w0 w b FB cs i txt W) (hb : Below W.heap.size W W') : St w0 w b FB cs i txt W' :=
  ⟨(hb.block _ (Array.getElem?_eq_some_iff.1 h.it).1).trans h.it, bld_up h.bld hb, h.bel.trans (hb.mono h.bel.size), h.oth.trans (oth_up hb), h.box.up' hb, h.lt, h.hw⟩
theorem St.size {w0 w : World} {b : Nat} {FB : ByteArray} {cs : Array Value} {i : Nat} {txt : List UInt8} {W : World} (h : St w0 w b FB cs i txt W) : w0.heap.size ≤ W.heap.size := h.bel.size
theorem St.pos {w0 w : World} {b : Nat} {FB : ByteArray} {cs : Array Value} {i : Nat} {txt : List UInt8} {W : World} (h : St w0 w b FB cs i txt W) : W.iterPos (w.heap.size + 1) = i := by simp [World.iterPos, h.it]

theorem itoa_val (m : Nat) (hm : m ≤ 1000000000) {w0 w : World} (hv : VarP w0) (h0 : Below w0.heap.size w0 w) :
    Calls Tryd.prog 41 #[.int .i64 (m : Nat)] w fun e w' => e = .returned (.string ⟨(Lib.decDigits m).toArray⟩) ∧ Below w.heap.size w w' := by
  refine (Tryd.strconv_Itoa (m : Int) (by omega) (by omega) w (tabIs_up gPow hv.pow h0)).mono ?_
  rintro e w' ⟨rfl, k, os, rfl⟩
  exact ⟨by rw [Lib.itoa_nonneg], Lib.below_grow _ w (Nat.le_refl _) k os⟩

set_option maxRecDepth 100000 in
set_option maxHeartbeats 4000000 in
theorem wr_val (w0 : World) (b : Nat) (bs : List UInt8) (x : Cm) (w : World) (h0 : Below w0.heap.size w0 w) (hx : Cm.In w0 x) (ho : OkC x.kind x.name x.ns) (hv : VarP w0) (hbd : Bld w0.heap.size b (Lib.byteCells bs) w) (hlen : bs.length ≤ 1000000) :
    Calls Tryd.prog 21 #[.pointer (some ⟨b, 0, none⟩), .agg #[.int .i64 x.kind, .string x.name, .slice x.A x.n x.c, .int .i64 x.pos]] w fun e w' => e = .returned (.tuple #[]) ∧ Bld w0.heap.size b (Lib.byteCells (bs ++ (lnC x ++ [10]))) w' ∧ Below w0.heap.size w0 w' ∧ Oth b w w' := by
  obtain ⟨k, nm, A, n, c, ns, p⟩ := x
  have hbw := lt_bld hbd
  have hsz0 := h0.size
  dsimp only at ho
  have hkd := ho.kind
  obtain ⟨K, rfl⟩ : ∃ K : Nat, k = (K : Int) := ⟨k.toNat, by rcases hkd with h | h | h | h | h | h | h | h | h | h | h <;> omega⟩
  have hK12 : K < 12 := by rcases hkd with h | h | h | h | h | h | h | h | h | h | h <;> omega
  have hnm12 : nm.size ≤ 12 := ho.name12
  have hnl := hx.len
  dsimp only at hnl
  have hnf : numF (formP K) = n := by have h1 := numF_form hkd; have h2 := ho.len; rw [Int.toNat_natCast] at h1; omega
  have HRE : Hid (RestIs w0 A n c ns) := Lib.hid ⟨hx.rd, hnl, hx.nc, hx.cm, ho.range⟩
  have hK0 : (0 : Int) ≤ (K : Int) := by omega
  have hK1 : (K : Int) < 12 := by omega
  have hfc := hv.forms K hK12
  have hasc := formP_ascii K
  have hfl := formP_len K
  have hwl := wrF_len nm.data.toList (by rw [show nm.data.toList.length = nm.size from Array.length_toList]; exact hnm12) (formP K) ns ho.range
  have HLN : Hid (lnC ⟨(K : Int), nm, A, n, c, ns, p⟩ = wrF nm.data.toList (formP K) ns ++ [59]) := Lib.hid (by unfold lnC lineL; rw [Int.toNat_natCast])
  obtain ⟨F, hF⟩ : ∃ F, formP K = F := ⟨_, rfl⟩
  rw [hF] at hfc hnf hasc hfl hwl HLN
  have HASC := Lib.hid hasc
  obtain ⟨FB, hFB⟩ : ∃ FB : ByteArray, ⟨F.toArray⟩ = FB := ⟨_, rfl⟩
  have HFB : Hid (FB.data.toList = F) := Lib.hid (by rw [← hFB])
  have hFs : FB.size = F.length := by rw [← hFB]; rfl
  rw [hFB] at hfc
  have HFL := Lib.hid hfl
  have HFS := Lib.hid hFs
  have HWL := Lib.hid hwl
  have HNF := Lib.hid hnf
  have HV := Lib.hid hv
  have HB0 := Lib.hid h0
  have BX0 : Hid (Blk (w.alloc (.cells #[.int .i64 (K : Int), .string nm, .slice A n c, .int .i64 p] 46)) w.heap.size 46 #[.int .i64 (K : Int), .string nm, .slice A n c, .int .i64 p]) := Lib.hid (Blk.new w _ _)
  have hcF0 : w.cell? ⟨0, K, none⟩ = some (.string FB) := (h0.cell (Lx.cell_lt hfc)).trans hfc
  have hcF : (w.alloc (.cells #[.int .i64 (K : Int), .string nm, .slice A n c, .int .i64 p] 46)).cell? ⟨0, K, none⟩ = some (.string FB) := by rw [World.cell?_alloc_lt _ _ _ (Lx.cell_lt hcF0)]; exact hcF0
  clear hx ho hv hkd hasc hF hFB hfl hwl hnf hfc hcF0
  go_enter Tryd.func21, Tryd.ntmps21
  go_wp2_with fail
  have hs0 : St w0 w b FB #[.int .i64 (K : Int), .string nm, .slice A n c, .int .i64 p] 0 bs ((w.alloc (.cells #[.int .i64 (K : Int), .string nm, .slice A n c, .int .i64 p] 46)).iter FB 0) := by
    have hw1 : Below w0.heap.size w0 (w.alloc (.cells #[.int .i64 (K : Int), .string nm, .slice A n c, .int .i64 p] 46)) := h0.alloc hsz0 _
    have e1 : ((w.alloc (.cells #[.int .i64 (K : Int), .string nm, .slice A n c, .int .i64 p] 46)).iter FB 0).heap[w.heap.size + 1]? = some (.stringIter FB 0) := by
      have h5 := World.iter_heap (w.alloc (.cells #[.int .i64 (K : Int), .string nm, .slice A n c, .int .i64 p] 46)) FB 0
      simpa using h5
    exact ⟨e1, (hbd.alloc _).alloc _, hw1.alloc hw1.size _, ((Lib.OthersKept.refl _ _ w).alloc _).alloc _, BX0.out.alloc _, hbw, hsz0⟩
  obtain ⟨W0, hW0⟩ : ∃ W0, (w.alloc (.cells #[.int .i64 (K : Int), .string nm, .slice A n c, .int .i64 p] 46)).iter FB 0 = W0 := ⟨_, rfl⟩
  rw [hW0] at hs0 ⊢
  have HS0 := Lib.hid hs0
  clear hW0 hs0 BX0 hbd h0 hcF
  go_loopw [4, 6, 7] (fun r x wd wr => ∃ (i nr cr : Nat) (Ar : Option Addr) (rest : List Int) (D : List UInt8) (zx zw : Value), i ≤ FB.size ∧ r = .slice Ar nr cr ∧ x = zx ∧ wd = zw ∧ Hid (RestIs w0 Ar nr cr rest) ∧ Hid (wrF nm.data.toList F ns = D ++ wrF nm.data.toList (F.drop i) rest) ∧ Hid (numF (F.drop i) = nr) ∧ Hid (St w0 w b FB #[.int .i64 (K : Int), .string nm, .slice A n c, .int .i64 p] i (bs ++ D) wr)) (fun _ _ _ wr => FB.size - wr.iterPos (w.heap.size + 1))
  case atStart => exact ⟨0, n, c, A, ns, [], _, _, Nat.zero_le _, rfl, rfl, rfl, HRE, Lib.hid rfl, Lib.hid HNF.out, Lib.hid (by rw [List.append_nil]; exact HS0.out)⟩
  case round =>
    obtain ⟨i, nr, cr, Ar, rest, D, zx, zw, hi, rfl, rfl, rfl, HR, HG, HNR, HS⟩ := hrel
    have hmu := HS.out.pos
    have HDL : Hid (D.length ≤ 1040) := Lib.hid (by have h1 := HWL.out; rw [HG.out, List.length_append] at h1; have := HFL.out; omega)
    by_cases hlt : i < FB.size
    · have hiF : i < F.length := by rw [← HFS.out]; exact hlt
      have hg := HG.out
      have hnr := HNR.out
      rw [List.drop_eq_getElem_cons hiF] at hg hnr
      have h128 : (FB[i]'hlt).toNat < 128 := HASC.out _ (by rw [← HFB.out]; exact Array.getElem_mem_toList _)
      have hcc : F[i] = FB[i]'hlt := by simp only [← HFB.out]; rfl
      rw [hcc] at hg hnr
      have hnext : ∀ ty, (Instr.next (.pointer (some ⟨w.heap.size + 1, 0, none⟩)) true ty).run Tryd.prog wr = _ := fun ty => Lib.run_next_ascii_at wr (w.heap.size + 1) FB i ty HS.out.it hlt h128
      obtain ⟨ch, hch⟩ : ∃ ch, FB[i]'hlt = ch := ⟨_, rfl⟩
      rw [hch] at hg hnr h128 hnext
      have hs1 := HS.out.next (i + 1)
      obtain ⟨W1, hW1⟩ : ∃ W1, wr.iterAt (w.heap.size + 1) FB (i + 1) = W1 := ⟨_, rfl⟩
      rw [hW1] at hs1 hnext
      have HS1 := Lib.hid hs1
      simp only [wrF, numF] at hg hnr
      clear hs1 hW1 hch hcc hiF
      by_cases h78 : ch = 78
      · rw [if_pos h78] at hg
        rw [if_neg (by rw [h78]; decide)] at hnr
        have f1 : ((ch.toNat : Int) == 78) = true := by rw [h78]; rfl
        have hdr := (Below.refl W1.heap.size W1).drew
        have c1 : W1.cell? ⟨w.heap.size, 1, none⟩ = some (.string nm) := HS1.out.box.cell 1
        have HC := Lib.hid (bld_str w0.heap.size b (Lib.byteCells (bs ++ D)) nm W1.drew (HS1.out.up hdr).bld (by rw [Lib.byteCells_length, List.length_append]; have := HDL.out; omega) (HS1.out.up hdr).size)
        have HSd := Lib.hid (HS1.out.up hdr)
        have HG2 := Lib.hid hg
        have HN2 : Hid (numF (F.drop (i + 1)) = nr) := Lib.hid (by omega)
        clear hg hnr h78 hdr
        go_wp2_with fail
        go_still_tail 5, (by kernel_rfl)
        go_wp2_with fail
        refine HC.out.mono ?_
        rintro e w2 ⟨rfl, ha, hb2, ho2⟩
        have HS2 := Lib.hid (HSd.out.write rfl ha hb2 ho2)
        have hmu2 := HS2.out.pos
        clear ha hb2 ho2
        go_wp2_with fail
        case roundEnd =>
          refine ⟨⟨i + 1, nr, cr, Ar, rest, D ++ nm.data.toList, _, _, by omega, rfl, rfl, rfl, HR, Lib.hid ?_, HN2, Lib.hid ?_⟩, ?_⟩
          · rw [HG2.out, List.append_assoc]
          · have := HS2.out; rwa [List.append_assoc] at this
          · rw [hmu, hmu2]; omega
      rw [if_neg h78] at hg
      have f1 : ((ch.toNat : Int) == 78) = false := by rw [beq_eq_false_iff_ne]; intro e; exact h78 (UInt8.toNat_inj.1 (show ch.toNat = 78 from by omega))
      by_cases h37 : ch = 37
      · rw [if_pos h37] at hg
        obtain ⟨v, r2, rfl⟩ : ∃ v r2, rest = v :: r2 := by
          match rest, HR.out.len with
          | [], hl => simp [h37] at hl hnr; omega
          | v :: r2, _ => exact ⟨v, r2, rfl⟩
        obtain ⟨nb, no, rfl, hnb, hnc⟩ := HR.out.cell
        have hnr1 : 1 ≤ nr := by have := HR.out.len; simp at this; omega
        have hv9 := HR.out.rng v (List.mem_cons_self ..)
        have HRT := Lib.hid HR.out.tail
        simp only [List.headD_cons, List.tail_cons] at hg
        rw [if_pos (by rw [h37]; decide)] at hnr
        have HN2 : Hid (numF (F.drop (i + 1)) = nr - 1) := Lib.hid (by omega)
        have f3 : ((ch.toNat : Int) == 37) = true := by rw [h37]; rfl
        have c1 : W1.cell? ⟨nb, no, none⟩ = some (.int .i64 v) := (HS1.out.bel.cell hnb).trans hnc
        by_cases q1 : v < 0
        · have f4 : v < 0 := q1
          have HG2 : Hid (wrF nm.data.toList F ns = D ++ ([115, 108, 111, 119, 32] ++ (dg v ++ wrF nm.data.toList (F.drop (i + 1)) r2))) := Lib.hid (by rw [hg]; unfold driftL dg; rw [if_pos q1, List.append_assoc])
          have HC := Lib.hid (bld_str w0.heap.size b (Lib.byteCells (bs ++ D)) ⟨#[115, 108, 111, 119, 32]⟩ W1 HS1.out.bld (by rw [Lib.byteCells_length, List.length_append]; have := HDL.out; show _ + 5 ≤ _; omega) HS1.out.size)
          clear hg hnr h78 h37
          go_wp2_with fail
          refine HC.out.mono ?_
          rintro e w2 ⟨rfl, ha, hb2, ho2⟩
          have HS2 : Hid (St w0 w b FB #[.int .i64 (K : Int), .string nm, .slice A n c, .int .i64 p] (i + 1) (bs ++ (D ++ [115, 108, 111, 119, 32])) w2) := Lib.hid (by have := HS1.out.write (s := [115, 108, 111, 119, 32]) rfl ha hb2 ho2; rwa [List.append_assoc] at this)
          clear ha hb2 ho2 c1
          go_wp2_with fail
          have HC15 := Lib.hid (fun (W : World) (hb : Below w2.heap.size w2 W) => itoa_val v.natAbs (by omega) (w := W) HV.out (HS2.out.bel.trans (hb.mono HS2.out.size)))
          obtain ⟨NB, hNB⟩ : ∃ NB : ByteArray, ⟨(Lib.decDigits v.natAbs).toArray⟩ = NB := ⟨_, rfl⟩
          have HNBl : Hid (NB.data.toList = dg v) := Lib.hid (by rw [← hNB]; rfl)
          have HNBs : Hid (NB.size ≤ 21) := Lib.hid (by rw [← hNB]; exact dec_len (by omega))
          rw [hNB] at HC15
          have g1 : ∀ q : WOf (Below w2.heap.size w2), q.w.cell? ⟨nb, no, none⟩ = some (.int .i64 v) := fun q => (q.ok.cell (Nat.lt_of_lt_of_le hnb HS2.out.size)).trans ((HS2.out.bel.cell hnb).trans hnc)
          have hup : ∀ a b, Below w2.heap.size w2 a → Below a.heap.size a b → Below w2.heap.size w2 b := fun a b h k => below_trans' h k
          have hsl := slice_one (some ⟨nb, no, none⟩) nr cr hnr1
          have HIT : Hid (∀ q : WOf (Below w2.heap.size w2), Calls Tryd.prog 41 #[.int .i64 (max v (-v))] q.w fun e w' => e = .returned (.string NB) ∧ Below q.w.heap.size q.w w') := Lib.hid (fun q => by have := HC15.out q.w q.ok; rwa [show ((v.natAbs : Nat) : Int) = max v (-v) by omega] at this)
          clear hNB
          refine wp_region_qt (Below w2.heap.size w2) 12 (Below.refl _ _) hup (by kernel_rfl) (by kernel_rfl) (fun hne => ?_)
          simp only [List.take_succ_cons, List.take_zero, List.drop_succ_cons, List.drop_zero]
          repeat (go_big_quiet_step (with_reducible exact calls_ext hup (HIT.out _)))
          refine wpQuiet_nil ?_
          clear hne
          intro q
          obtain ⟨wx, hxx⟩ := q
          have HSx := Lib.hid (HS2.out.up hxx)
          have HCx := Lib.hid (bld_str w0.heap.size b (Lib.byteCells (bs ++ (D ++ [115, 108, 111, 119, 32]))) NB wx HSx.out.bld (by rw [Lib.byteCells_length, List.length_append, List.length_append]; have := HDL.out; simp only [List.length_cons, List.length_nil]; have := HNBs.out; omega) HSx.out.size)
          clear g1 HIT HC15 hup
          go_wp2_with fail
          refine HCx.out.mono ?_
          rintro e w5 ⟨rfl, ha, hb2, ho2⟩
          have HS5 := Lib.hid (HSx.out.write rfl ha hb2 ho2)
          have hmu2 := HS5.out.pos
          clear ha hb2 ho2
          go_wp2_with fail
          case roundEnd =>
            refine ⟨⟨i + 1, nr - 1, cr - 1, _, r2, (D ++ [115, 108, 111, 119, 32]) ++ NB.data.toList, _, _, by omega, rfl, rfl, rfl, HRT, Lib.hid ?_, HN2, Lib.hid ?_⟩, ?_⟩
            · rw [HG2.out, HNBl.out]; simp
            · have := HS5.out; rwa [List.append_assoc] at this
            · rw [hmu, hmu2]; omega
        · have f4 : ¬ v < 0 := q1
          have HG2 : Hid (wrF nm.data.toList F ns = D ++ ([102, 97, 115, 116, 32] ++ (dg v ++ wrF nm.data.toList (F.drop (i + 1)) r2))) := Lib.hid (by rw [hg]; unfold driftL dg; rw [if_neg q1, List.append_assoc])
          have HC := Lib.hid (bld_str w0.heap.size b (Lib.byteCells (bs ++ D)) ⟨#[102, 97, 115, 116, 32]⟩ W1 HS1.out.bld (by rw [Lib.byteCells_length, List.length_append]; have := HDL.out; show _ + 5 ≤ _; omega) HS1.out.size)
          clear hg hnr h78 h37
          go_wp2_with fail
          refine HC.out.mono ?_
          rintro e w2 ⟨rfl, ha, hb2, ho2⟩
          have HS2 : Hid (St w0 w b FB #[.int .i64 (K : Int), .string nm, .slice A n c, .int .i64 p] (i + 1) (bs ++ (D ++ [102, 97, 115, 116, 32])) w2) := Lib.hid (by have := HS1.out.write (s := [102, 97, 115, 116, 32]) rfl ha hb2 ho2; rwa [List.append_assoc] at this)
          clear ha hb2 ho2 c1
          go_wp2_with fail
          have HC15 := Lib.hid (fun (W : World) (hb : Below w2.heap.size w2 W) => itoa_val v.natAbs (by omega) (w := W) HV.out (HS2.out.bel.trans (hb.mono HS2.out.size)))
          obtain ⟨NB, hNB⟩ : ∃ NB : ByteArray, ⟨(Lib.decDigits v.natAbs).toArray⟩ = NB := ⟨_, rfl⟩
          have HNBl : Hid (NB.data.toList = dg v) := Lib.hid (by rw [← hNB]; rfl)
          have HNBs : Hid (NB.size ≤ 21) := Lib.hid (by rw [← hNB]; exact dec_len (by omega))
          rw [hNB] at HC15
          have g1 : ∀ q : WOf (Below w2.heap.size w2), q.w.cell? ⟨nb, no, none⟩ = some (.int .i64 v) := fun q => (q.ok.cell (Nat.lt_of_lt_of_le hnb HS2.out.size)).trans ((HS2.out.bel.cell hnb).trans hnc)
          have hup : ∀ a b, Below w2.heap.size w2 a → Below a.heap.size a b → Below w2.heap.size w2 b := fun a b h k => below_trans' h k
          have hsl := slice_one (some ⟨nb, no, none⟩) nr cr hnr1
          have HIT : Hid (∀ q : WOf (Below w2.heap.size w2), Calls Tryd.prog 41 #[.int .i64 (max v (-v))] q.w fun e w' => e = .returned (.string NB) ∧ Below q.w.heap.size q.w w') := Lib.hid (fun q => by have := HC15.out q.w q.ok; rwa [show ((v.natAbs : Nat) : Int) = max v (-v) by omega] at this)
          clear hNB
          refine wp_region_qt (Below w2.heap.size w2) 12 (Below.refl _ _) hup (by kernel_rfl) (by kernel_rfl) (fun hne => ?_)
          simp only [List.take_succ_cons, List.take_zero, List.drop_succ_cons, List.drop_zero]
          repeat (go_big_quiet_step (with_reducible exact calls_ext hup (HIT.out _)))
          refine wpQuiet_nil ?_
          clear hne
          intro q
          obtain ⟨wx, hxx⟩ := q
          have HSx := Lib.hid (HS2.out.up hxx)
          have HCx := Lib.hid (bld_str w0.heap.size b (Lib.byteCells (bs ++ (D ++ [102, 97, 115, 116, 32]))) NB wx HSx.out.bld (by rw [Lib.byteCells_length, List.length_append, List.length_append]; have := HDL.out; simp only [List.length_cons, List.length_nil]; have := HNBs.out; omega) HSx.out.size)
          clear g1 HIT HC15 hup
          go_wp2_with fail
          refine HCx.out.mono ?_
          rintro e w5 ⟨rfl, ha, hb2, ho2⟩
          have HS5 := Lib.hid (HSx.out.write rfl ha hb2 ho2)
          have hmu2 := HS5.out.pos
          clear ha hb2 ho2
          go_wp2_with fail
          case roundEnd =>
            refine ⟨⟨i + 1, nr - 1, cr - 1, _, r2, (D ++ [102, 97, 115, 116, 32]) ++ NB.data.toList, _, _, by omega, rfl, rfl, rfl, HRT, Lib.hid ?_, HN2, Lib.hid ?_⟩, ?_⟩
            · rw [HG2.out, HNBl.out]; simp
            · have := HS5.out; rwa [List.append_assoc] at this
            · rw [hmu, hmu2]; omega
      rw [if_neg h37] at hg
      have f2 : ((ch.toNat : Int) == 37) = false := by rw [beq_eq_false_iff_ne]; intro e; exact h37 (UInt8.toNat_inj.1 (show ch.toNat = 37 from by omega))
      by_cases h35 : ch = 35
      · rw [if_pos h35] at hg
        obtain ⟨v, r2, rfl⟩ : ∃ v r2, rest = v :: r2 := by
          match rest, HR.out.len with
          | [], hl => simp [h35] at hl hnr; omega
          | v :: r2, _ => exact ⟨v, r2, rfl⟩
        obtain ⟨nb, no, rfl, hnb, hnc⟩ := HR.out.cell
        have hnr1 : 1 ≤ nr := by have := HR.out.len; simp at this; omega
        have hv9 := HR.out.rng v (List.mem_cons_self ..)
        have HRT := Lib.hid HR.out.tail
        simp only [List.headD_cons, List.tail_cons] at hg
        rw [if_pos (by rw [h35]; decide)] at hnr
        have HG2 := Lib.hid hg
        have HN2 : Hid (numF (F.drop (i + 1)) = nr - 1) := Lib.hid (by omega)
        have f3 : ((ch.toNat : Int) == 35) = true := by rw [h35]; rfl
        clear hg hnr h78 h37 h35
        go_wp2_with fail
        have HC15 := Lib.hid (fun (W : World) (hb : Below W1.heap.size W1 W) => itoa_val v.natAbs (by omega) (w := W) HV.out (HS1.out.bel.trans (hb.mono HS1.out.size)))
        obtain ⟨NB, hNB⟩ : ∃ NB : ByteArray, ⟨(Lib.decDigits v.natAbs).toArray⟩ = NB := ⟨_, rfl⟩
        have HNBl : Hid (NB.data.toList = dg v) := Lib.hid (by rw [← hNB]; rfl)
        have HNBs : Hid (NB.size ≤ 21) := Lib.hid (by rw [← hNB]; exact dec_len (by omega))
        rw [hNB] at HC15
        have g1 : ∀ q : WOf (Below W1.heap.size W1), q.w.cell? ⟨nb, no, none⟩ = some (.int .i64 v) := fun q => (q.ok.cell (Nat.lt_of_lt_of_le hnb HS1.out.size)).trans ((HS1.out.bel.cell hnb).trans hnc)
        have hup : ∀ a b, Below W1.heap.size W1 a → Below a.heap.size a b → Below W1.heap.size W1 b := fun a b h k => below_trans' h k
        have hsl := slice_one (some ⟨nb, no, none⟩) nr cr hnr1
        have HIT : Hid (∀ q : WOf (Below W1.heap.size W1), Calls Tryd.prog 41 #[.int .i64 (max v (-v))] q.w fun e w' => e = .returned (.string NB) ∧ Below q.w.heap.size q.w w') := Lib.hid (fun q => by have := HC15.out q.w q.ok; rwa [show ((v.natAbs : Nat) : Int) = max v (-v) by omega] at this)
        clear hNB
        refine wp_region_qt (Below W1.heap.size W1) 12 (Below.refl _ _) hup (by kernel_rfl) (by kernel_rfl) (fun hne => ?_)
        simp only [List.take_succ_cons, List.take_zero, List.drop_succ_cons, List.drop_zero]
        repeat (go_big_quiet_step (with_reducible exact calls_ext hup (HIT.out _)))
        refine wpQuiet_nil ?_
        clear hne
        intro q
        obtain ⟨wx, hxx⟩ := q
        have HSx := Lib.hid (HS1.out.up hxx)
        have HCx := Lib.hid (bld_str w0.heap.size b (Lib.byteCells (bs ++ D)) NB wx HSx.out.bld (by rw [Lib.byteCells_length, List.length_append]; have := HDL.out; have := HNBs.out; omega) HSx.out.size)
        clear g1 HIT HC15 hup
        go_wp2_with fail
        refine HCx.out.mono ?_
        rintro e w5 ⟨rfl, ha, hb2, ho2⟩
        have HS5 := Lib.hid (HSx.out.write rfl ha hb2 ho2)
        have hmu2 := HS5.out.pos
        clear ha hb2 ho2
        go_wp2_with fail
        case roundEnd =>
          refine ⟨⟨i + 1, nr - 1, cr - 1, _, r2, D ++ NB.data.toList, _, _, by omega, rfl, rfl, rfl, HRT, Lib.hid ?_, HN2, Lib.hid ?_⟩, ?_⟩
          · rw [HG2.out, HNBl.out]; simp
          · have := HS5.out; rwa [List.append_assoc] at this
          · rw [hmu, hmu2]; omega
      rw [if_neg h35] at hg
      rw [if_neg (by simp [h35, h37])] at hnr
      have f3 : ((ch.toNat : Int) == 35) = false := by rw [beq_eq_false_iff_ne]; intro e; exact h35 (UInt8.toNat_inj.1 (show ch.toNat = 35 from by omega))
      have HG2 := Lib.hid hg
      have HN2 : Hid (numF (F.drop (i + 1)) = nr) := Lib.hid (by omega)
      have HC := Lib.hid (bld_rune w0.heap.size b (Lib.byteCells (bs ++ D)) (ch.toNat : Int) (by omega) (by omega) W1 HS1.out.bld (by rw [Lib.byteCells_length, List.length_append]; have := HDL.out; omega) HS1.out.size)
      have HRB := Lib.hid (runeB ch h128)
      clear hg hnr h78 h37 h35
      go_wp2_with fail
      refine HC.out.mono ?_
      rintro e w2 ⟨rfl, ha, hb2, ho2⟩
      rw [HRB.out] at ha
      have HS2 := Lib.hid (HS1.out.write rfl ha hb2 ho2)
      have hmu2 := HS2.out.pos
      clear ha hb2 ho2
      go_wp2_with fail
      case roundEnd =>
        refine ⟨⟨i + 1, nr, cr, Ar, rest, D ++ [ch], _, _, by omega, rfl, rfl, rfl, HR, Lib.hid ?_, HN2, Lib.hid ?_⟩, ?_⟩
        · rw [HG2.out]; simp
        · have := HS2.out; rwa [List.append_assoc] at this
        · rw [hmu, hmu2]; omega
    · have hnext : ∀ ty, (Instr.next (.pointer (some ⟨w.heap.size + 1, 0, none⟩)) true ty).run Tryd.prog wr = _ := fun ty => Lib.run_next_end_at wr (w.heap.size + 1) FB i ty HS.out.it hlt
      have hg := HG.out
      rw [List.drop_of_length_le (by rw [← HFS.out]; omega)] at hg
      simp only [wrF, List.append_nil] at hg
      have HC := Lib.hid (bld_str w0.heap.size b (Lib.byteCells (bs ++ D)) ⟨#[59, 10]⟩ wr HS.out.bld (by rw [Lib.byteCells_length, List.length_append]; have := HDL.out; show _ + 2 ≤ _; omega) HS.out.size)
      have HG2 := Lib.hid hg
      clear hg hlt
      go_wp2_with fail
      refine HC.out.mono ?_
      rintro e w2 ⟨rfl, ha, hb2, ho2⟩
      have HS2 := Lib.hid (HS.out.write rfl ha hb2 ho2)
      clear ha hb2 ho2
      go_wp2_with fail
      go_end0
      refine ⟨rfl, ?_, HS2.out.bel, HS2.out.oth⟩
      have := HS2.out.bld
      rw [HLN.out, HG2.out]
      simpa using this
end Go.Proofs.YtmdogklgbifacaaDoor.Pr

/- printer.Print. -/
namespace Go.Proofs.YtmdogklgbifacaaDoor.Pr
open Go.RowKit Go.Proofs.YtmdogklgbifacaaDoor.Lx
set_option linter.unusedVariables false

/-- What the program prints. -/
def printL (l : List Cm) : List UInt8 × Nat :=
  if validB l = false then ([], 1) else if (LEX (outL l)).err ≠ 0 then ([], 2) else (outL l, 0)
theorem bld_fresh {w0 w : World} (h : w0.heap.size ≤ w.heap.size) : Bld w0.heap.size w.heap.size (Lib.byteCells []) (w.alloc (.cells #[.pointer none, .slice none 0 0] TT)) :=
  .inl ⟨h, .slice none 0 0, heap_alloc_new w _, ⟨rfl, .inl ⟨rfl, rfl⟩⟩, by simp [Value.ownBlock]⟩
theorem outL_len : ∀ (l : List Cm), (∀ x ∈ l, cmB x = true) → (outL l).length ≤ l.length * 1042
  | [], _ => Nat.le_refl _
  | x :: l, h => by
    have h1 := outL_len l (fun y hy => h y (List.mem_cons_of_mem _ hy))
    have h2 := lnC_len (h x (List.mem_cons_self ..))
    have e : outL (x :: l) = (lnC x ++ [10]) ++ outL l := by unfold outL; rw [List.flatMap_cons]
    rw [e, List.length_append, List.length_append]
    simp only [List.length_cons, List.length_nil]
    omega
set_option maxRecDepth 100000 in
set_option maxHeartbeats 4000000 in
theorem print_val (A : Option Addr) (n c : Nat) (l : List Cm) (w : World) (h : IsCms w A n c l) (hv : VarP w) :
    Calls Tryd.prog 12 #[.slice A n c] w fun e w' => e = .returned (.tuple #[.string ⟨(printL l).1.toArray⟩, i64 ((printL l).2 : Nat)]) ∧ Below w.heap.size w w' := by
  have hnm : n ≤ 9223372036854775807 := Nat.le_trans h.2.2.1 (Nat.le_trans h.2.2.2.1 (by decide))
  have HI := Lib.hid h
  have HN := Lib.hid h.1
  have HVP := Lib.hid hv
  have HV := Lib.hid (valid_val A n c l w h)
  obtain ⟨v, hv⟩ : ∃ v, validB l = v := ⟨_, rfl⟩
  rw [hv] at HV
  clear h
  cases v with
  | false =>
    have HR : Hid (printL l = ([], 1)) := Lib.hid (by unfold printL; rw [if_pos hv])
    clear hv
    go_enter Tryd.func12, Tryd.ntmps12
    go_wp2_with fail
    refine HV.out.mono ?_
    rintro e w1 ⟨rfl, hb1⟩
    have HB1 := Lib.hid hb1
    clear hb1
    go_wp2_with fail
    go_ret2
    rw [HR.out]
    exact ⟨rfl, HB1.out⟩
  | true =>
    have hv2 := hv
    unfold validB at hv2
    simp only [Bool.and_eq_true, decide_eq_true_eq] at hv2
    have HA := Lib.hid (List.all_eq_true.1 hv2.2)
    have hn3 : n ≤ 300 := by rw [← HN.out]; exact hv2.1
    have HR : Hid (printL l = if (LEX (outL l)).err ≠ 0 then ([], 2) else (outL l, 0)) := Lib.hid (by unfold printL; rw [if_neg (by rw [hv]; decide)])
    clear hv hv2 hnm
    go_enter Tryd.func12, Tryd.ntmps12
    go_wp2_with fail
    refine HV.out.mono ?_
    rintro e w1 ⟨rfl, hb1⟩
    have HB1 := Lib.hid hb1
    have hs1 := hb1.size
    clear hb1
    go_wp2_with fail
    have hbl : Below w.heap.size w (w1.alloc (.cells #[.pointer none, .slice none 0 0] TT)) := HB1.out.alloc hs1 _
    have hbd := bld_fresh (w0 := w) (w := w1) hs1
    have hcell : (w1.alloc (.cells #[.pointer none, .slice none 0 0] TT)).heap[w1.heap.size]? = some (.cells #[.pointer none, .slice none 0 0] TT (0, 0)) := heap_alloc_new w1 _
    obtain ⟨W0, hW0⟩ : ∃ W0, w1.alloc (.cells #[.pointer none, .slice none 0 0] TT) = W0 := ⟨_, rfl⟩
    rw [hW0] at hbl hbd hcell ⊢
    have HBL := Lib.hid hbl
    have HBD := Lib.hid hbd
    have HCE := Lib.hid hcell
    clear hW0 hbl hbd hcell hs1
    go_loopw [15] (fun i wr => ∃ (k : Nat), k ≤ n ∧ i = i64 (k : Nat) ∧ Hid (Bld w.heap.size w1.heap.size (Lib.byteCells (outL (l.take k))) wr) ∧ Hid (Below w.heap.size w wr) ∧ Hid (k = 0 → wr.heap[w1.heap.size]? = some (.cells #[.pointer none, .slice none 0 0] TT (0, 0)))) (fun i _ => n - (intOf i).toNat)
    case atStart => exact ⟨0, Nat.zero_le _, rfl, HBD, HBL, Lib.hid fun _ => HCE.out⟩
    case round =>
      obtain ⟨k, hk, rfl, HD, HB, HZ⟩ := hrel
      by_cases hlt : k < n
      · have hlt' : (k : Int) < (n : Int) := by omega
        have hkl : k < l.length := by rw [HN.out]; exact hlt
        obtain ⟨b, off, rfl, hb, hc⟩ := rd_el (dec := decC) (s := 4) (fun _ => rfl) (HI.out.up HB.out).2.1 HN.out hkl
        have hok := HA.out l[k] (List.getElem_mem hkl)
        have HCI := Lib.hid (HI.out.2.2.2.2 _ (List.getElem_mem hkl))
        have HOK := Lib.hid (okC_of hok)
        have hlen : (outL (l.take k)).length ≤ 1000000 := by
          have h1 := outL_len (l.take k) (fun x hx => HA.out x (List.mem_of_mem_take hx))
          rw [List.length_take] at h1
          omega
        have HLE := Lib.hid hlen
        have HST : Hid (outL (l.take (k + 1)) = outL (l.take k) ++ (lnC l[k] ++ [10])) := Lib.hid (by rw [List.take_succ_eq_append_getElem hkl, outL_snoc])
        obtain ⟨⟨xk, xm, xA, xn, xc, xs, xp⟩, hx⟩ : ∃ x, l[k] = x := ⟨_, rfl⟩
        rw [hx] at hc HCI HOK HST
        have c0 := hc 0 _ rfl
        have c1 := hc 1 _ rfl
        have c2 := hc 2 _ rfl
        have c3 := hc 3 _ rfl
        rw [Nat.add_zero] at c0
        dsimp only at c0 c1 c2 c3 HOK
        have hbw : Below w.heap.size w (wr.alloc (.cells #[.int .i64 xk, .string xm, .slice xA xn xc, .int .i64 xp] 46)) := HB.out.alloc HB.out.size _
        have HCX := Lib.hid (wr_val w w1.heap.size (outL (l.take k)) ⟨xk, xm, xA, xn, xc, xs, xp⟩ _ hbw HCI.out HOK.out HVP.out (HD.out.alloc (.cells #[.int .i64 xk, .string xm, .slice xA xn xc, .int .i64 xp] 46)) HLE.out)
        dsimp only at HCX
        clear hb hc hx hkl hok hlen hbw
        go_wp2_with fail
        refine HCX.out.mono ?_
        rintro e w2 ⟨rfl, hd2, hb2, -⟩
        have HD2 := Lib.hid hd2
        have HB2 := Lib.hid hb2
        clear hd2 hb2
        go_wp2_with fail
        case roundEnd =>
          refine ⟨⟨k + 1, by omega, rfl, Lib.hid (by rw [HST.out]; exact HD2.out), HB2, Lib.hid fun h => absurd h (by omega)⟩, ?_⟩
          simp only [intOf]; omega
      · have hlt' : ¬ (k : Int) < (n : Int) := by omega
        obtain rfl : k = n := by omega
        have hd := HD.out
        rw [List.take_of_length_le (by rw [HN.out]; exact Nat.le_refl _)] at hd
        have HD2 := Lib.hid hd
        have hlen : (outL l).length ≤ 1000000 := by
          have h1 := outL_len l HA.out
          rw [HN.out] at h1
          omega
        obtain ⟨T, hT⟩ : ∃ T : ByteArray, ⟨(outL l).toArray⟩ = T := ⟨_, rfl⟩
        have HTl : Hid (T.data.toList = outL l) := Lib.hid (by rw [← hT])
        have hTs : T.size ≤ maxLen := by rw [← hT]; show (outL l).length ≤ _; unfold maxLen; omega
        have HLX := Lib.hid (lex_val T hTs)
        rw [HTl.out] at HLX
        have HSTR : Hid (∀ W, Bld w.heap.size w1.heap.size (Lib.byteCells (outL l)) W → (l = [] → W.heap[w1.heap.size]? = some (.cells #[.pointer none, .slice none 0 0] TT (0, 0))) →
            Calls Tryd.prog 23 #[.pointer (some ⟨w1.heap.size, 0, none⟩)] W fun e w' => e = .returned (.string T) ∧ Bld w.heap.size w1.heap.size (Lib.byteCells (outL l)) w' ∧ (l = [] → w'.heap[w1.heap.size]? = some (.cells #[.pointer none, .slice none 0 0] TT (0, 0))) ∧ Below w.heap.size W w') := Lib.hid (by
          intro W h1 h2
          by_cases hl : l = []
          · have hA : BldAt w.heap.size w1.heap.size (.pointer none) [] W := by
              have hB0 : w.heap.size ≤ w1.heap.size := h1.elim (fun x => x.1) (fun x => x.1)
              exact ⟨hB0, .slice none 0 0, h2 hl, ⟨rfl, .inl ⟨rfl, rfl⟩⟩, by simp [Value.ownBlock]⟩
            refine (bld_String_nil w.heap.size w1.heap.size _ W (h2 hl) hA).mono ?_
            rintro e w' ⟨rfl, h3, h4, h5, -⟩
            refine ⟨by rw [← hT, hl]; rfl, ?_, fun _ => h3, h5⟩
            rw [hl]
            exact .inl h4
          · refine (bld_String w.heap.size w1.heap.size (outL l) W h1 ?_).mono ?_
            · intro e
              cases l with
              | nil => exact hl rfl
              | cons x r => unfold outL at e; rw [List.flatMap_cons] at e; simp at e
            · rintro e w' ⟨rfl, h3, h4, -⟩
              exact ⟨by rw [hT], h3, fun h => absurd h hl, h4⟩)
        have HZ2 : Hid (l = [] → wr.heap[w1.heap.size]? = some (.cells #[.pointer none, .slice none 0 0] TT (0, 0))) := Lib.hid fun h => HZ.out (by rw [← HN.out, h]; rfl)
        obtain ⟨ts, er, ps, hres⟩ : ∃ ts er ps, LEX (outL l) = ⟨ts, er, ps⟩ := ⟨_, _, _, rfl⟩
        rw [hres] at HLX HR
        dsimp only at HR
        clear hd hlen hT hTs hlt hk hres
        go_wp2_with fail
        refine (HSTR.out _ HD2.out HZ2.out).mono ?_
        rintro e w2 ⟨rfl, hd2, hz2, hb2⟩
        have HD3 := Lib.hid hd2
        have HZ3 := Lib.hid hz2
        have HB2 := Lib.hid (HB.out.trans hb2)
        clear hd2 hz2 hb2
        go_wp2_with fail
        refine (HLX.out _ (HVP.out.err.up HB2.out)).mono ?_
        rintro e w3 ⟨A3, n3, c3, rfl, hT3, hb3⟩
        have HD4 := Lib.hid (bld_up HD3.out hb3)
        have HZ4 : Hid (l = [] → w3.heap[w1.heap.size]? = some (.cells #[.pointer none, .slice none 0 0] TT (0, 0))) := Lib.hid fun h => by
          have h5 := HZ3.out h
          exact (hb3.block _ (Array.getElem?_eq_some_iff.1 h5).1).trans h5
        have HB3 := Lib.hid (HB2.out.trans (hb3.mono HB2.out.size))
        clear hT3 hb3
        by_cases he : er = 0
        · subst he
          have HR2 : Hid (printL l = (outL l, 0)) := Lib.hid (by rw [HR.out, if_neg (by decide)])
          go_wp2_with fail
          refine (HSTR.out _ HD4.out HZ4.out).mono ?_
          rintro e w5 ⟨rfl, -, -, hb5⟩
          have HB5 := Lib.hid (HB3.out.trans hb5)
          clear hb5
          go_wp2_with fail
          go_ret2
          rw [HR2.out, ← HTl.out, str_eta]
          exact ⟨rfl, HB5.out⟩
        · have f1 : ((er : Int) != 0) = true := by rw [bne_iff_ne]; omega
          have HR2 : Hid (printL l = ([], 2)) := Lib.hid (by rw [HR.out, if_pos he])
          go_wp2_with fail
          go_ret2
          rw [HR2.out]
          exact ⟨rfl, HB3.out⟩
end Go.Proofs.YtmdogklgbifacaaDoor.Pr

/- The printer in plain Lean: the lines' tokens. -/
namespace Go.Proofs.YtmdogklgbifacaaDoor.Pr
open Go.RowKit Go.Proofs.YtmdogklgbifacaaDoor.Lx
set_option linter.unusedVariables false

/-- The words of a form. -/
def wordsP (k : Nat) : List (List UInt8) :=
  if k = 1 then [[109, 101, 115, 104], [100, 97, 116, 97], [35], [114, 97, 110, 103, 101], [35]]
  else if k = 2 then [[114, 111, 111, 116], [78], [97, 116], [35], [35]]
  else if k = 3 then [[110, 111, 100, 101], [78], [97, 116], [35], [35], [37], [98, 97, 116, 116, 101, 114, 121], [35]]
  else if k = 4 then [[97, 116], [35], [109, 111, 118, 101], [78], [35], [35]]
  else if k = 5 then [[97, 116], [35], [102, 97, 105, 108], [78]]
  else if k = 6 then [[97, 116], [35], [115, 116, 97, 114, 116], [78]]
  else if k = 7 then [[97, 116], [35], [114, 101, 97, 100], [78], [35]]
  else if k = 8 then [[97, 116], [35], [106, 97, 109], [35], [35], [114, 97, 100, 105, 117, 115], [35], [99, 104, 97, 110, 110, 101, 108], [35], [102, 111, 114], [35]]
  else if k = 9 then [[97, 116], [35], [114, 101, 112, 108, 97, 121], [35], [97, 116], [35], [35]]
  else if k = 10 then [[97, 116], [35], [112, 114, 111, 103, 114, 97, 109], [35], [115, 105, 122, 101], [35]]
  else if k = 11 then [[114, 117, 110], [35]]
  else []
/-- The tokens of a command's words. -/
def wds (nm : List UInt8) : List (List UInt8) → List Int → List Tok
  | [], _ => []
  | p :: r, ns => if p = [78] then nameT nm :: wds nm r ns else if p = [37] then nameT (if ns.headD 0 < 0 then [115, 108, 111, 119] else [102, 97, 115, 116]) :: numT (ns.headD 0).natAbs :: wds nm r ns.tail
    else if p = [35] then numT (ns.headD 0).natAbs :: wds nm r ns.tail else nameT p :: wds nm r ns
/-- The words of a line, with what follows each. -/
def itemsOf : List Tok → List (Tok × List UInt8)
  | [] => [(semiT, [10])]
  | [t] => [(t, []), (semiT, [10])]
  | t :: u :: r => (t, [32]) :: itemsOf (u :: r)
def lineI (k : Int) (nm : List UInt8) (ns : List Int) : List (Tok × List UInt8) := itemsOf (wds nm (wordsP k.toNat) ns)
def okTok (t : Tok) : Prop := (GoodT t 3 ∨ GoodT t 4) ∧ blanks (textL t) = 0
theorem blanks_append : ∀ a b, blanks (a ++ b) = blanks a + blanks b
  | [], b => by simp [blanks]
  | c :: a, b => by simp only [List.cons_append, blanks, blanks_append a b]; omega
theorem blanks_none : ∀ (l : List UInt8), (∀ c ∈ l, c.toNat ≠ 32) → blanks l = 0
  | [], _ => rfl
  | c :: r, h => by
    simp only [blanks]
    rw [if_neg (h c (List.mem_cons_self ..)), blanks_none r fun d hd => h d (List.mem_cons_of_mem _ hd)]
theorem nam_ne {c : UInt8} (h : inNam c = true) : c.toNat ≠ 32 := by
  intro e
  have hc : cls c = 1 := by unfold cls; rw [if_pos (.inl e)]
  unfold inNam at h
  rw [hc] at h
  simp at h
  omega
theorem okTok_name {w : List UInt8} (h0 : w ≠ []) (hh : ∀ c, w.head? = some c → cls c = 3) (ha : ∀ c ∈ w, inNam c = true) (hl : w.length ≤ 12) : okTok (nameT w) :=
  ⟨.inl (good_name h0 hh ha hl), by rw [textL_name]; exact blanks_none _ fun c hc => nam_ne (ha c hc)⟩
theorem okTok_num {m : Nat} (h : m ≤ 1000000000) : okTok (numT m) :=
  ⟨.inr (good_num h), by rw [textL_num]; exact blanks_none _ fun c hc => nam_ne (by unfold inNam; rw [dec_cls m c hc]; simp)⟩
theorem kw_ok : ∀ w ∈ kw, okTok (nameT w) := by
  have h : ∀ w ∈ kw, w ≠ [] ∧ (w.head?.all fun c => decide (cls c = 3)) = true ∧ w.all inNam = true ∧ w.length ≤ 12 := by decide
  intro w hw
  obtain ⟨h1, h2, h3, h4⟩ := h w hw
  exact okTok_name h1 (fun c hc => by rw [hc] at h2; simpa using h2) (List.all_eq_true.1 h3) h4
theorem chsB_nam : ∀ (l : List UInt8) (i : Nat), chsB i l = true → ∀ c ∈ l, inNam c = true
  | [], i, _, c, hc => absurd hc (by simp)
  | d :: r, i, h, c, hc => by
    simp only [chsB, Bool.and_eq_true] at h
    rcases List.mem_cons.1 hc with rfl | hc
    · have := h.1
      unfold chB at this
      unfold inNam
      simp only [Bool.or_eq_true, Bool.and_eq_true, decide_eq_true_eq] at this ⊢
      rcases this with h | ⟨_, h | h⟩
      · exact .inl h
      · exact .inr (.inr h)
      · exact .inr (.inl h)
    · exact chsB_nam r (i + 1) h.2 c hc
theorem name_ok {s : ByteArray} (h : nameB s = true) : okTok (nameT s.data.toList) := by
  have h12 := name_size h
  have h0 := name_ne h
  have hl : s.data.toList.length = s.size := Array.length_toList
  unfold nameB at h
  simp only [Bool.and_eq_true] at h
  refine okTok_name (fun e => h0 (by rw [← hl, e]; rfl)) (fun c hc => ?_) (chsB_nam _ 0 h.2) (by omega)
  cases hd : s.data.toList with
  | nil => rw [hd] at hc; cases hc
  | cons d r =>
    rw [hd] at hc
    injection hc with hc
    subst hc
    have := h.2
    rw [hd] at this
    simp only [chsB, Bool.and_eq_true] at this
    have := this.1
    unfold chB at this
    simpa using this
theorem wds_ok (nm : List UInt8) : ∀ (ps : List (List UInt8)) (ns : List Int), (∀ p ∈ ps, p = [78] ∨ p = [37] ∨ p = [35] ∨ p ∈ kw) → ([78] ∈ ps → okTok (nameT nm)) → (∀ v ∈ ns, -1000000000 ≤ v ∧ v ≤ 1000000000) → ∀ t ∈ wds nm ps ns, okTok t
  | [], ns, _, _, _, t, ht => absurd ht (by simp [wds])
  | p :: r, ns, hp, hn, hv, t, ht => by
    have hh : -1000000000 ≤ ns.headD 0 ∧ ns.headD 0 ≤ 1000000000 := by
      cases ns with
      | nil => exact ⟨by decide, by decide⟩
      | cons v t => exact hv v (List.mem_cons_self ..)
    have htl : ∀ v ∈ ns.tail, -1000000000 ≤ v ∧ v ≤ 1000000000 := fun v h => hv v (List.mem_of_mem_tail h)
    have i1 := wds_ok nm r ns (fun q hq => hp q (List.mem_cons_of_mem _ hq)) (fun h => hn (List.mem_cons_of_mem _ h)) hv t
    have i2 := wds_ok nm r ns.tail (fun q hq => hp q (List.mem_cons_of_mem _ hq)) (fun h => hn (List.mem_cons_of_mem _ h)) htl t
    have hnum : okTok (numT (ns.headD 0).natAbs) := okTok_num (by omega)
    simp only [wds] at ht
    split at ht
    · rename_i h78
      rcases List.mem_cons.1 ht with rfl | ht
      · exact hn (by rw [h78]; exact List.mem_cons_self ..)
      · exact i1 ht
    · split at ht
      · rcases List.mem_cons.1 ht with rfl | ht
        · split <;> exact kw_ok _ (by decide)
        · rcases List.mem_cons.1 ht with rfl | ht
          · exact hnum
          · exact i2 ht
      · split at ht
        · rcases List.mem_cons.1 ht with rfl | ht
          · exact hnum
          · exact i2 ht
        · rename_i h1 h2 h3
          rcases List.mem_cons.1 ht with rfl | ht
          · rcases hp p (List.mem_cons_self ..) with h | h | h | h
            · exact absurd h h1
            · exact absurd h h2
            · exact absurd h h3
            · exact kw_ok p h
          · exact i1 ht
theorem wordsP_ok {k : Int} (h : kind11 k) : (∀ p ∈ wordsP k.toNat, p = [78] ∨ p = [37] ∨ p = [35] ∨ p ∈ kw) ∧ ([78] ∈ wordsP k.toNat → (shapeOf k).1 = true) ∧ wordsP k.toNat ≠ [] := by
  rcases h with rfl | rfl | rfl | rfl | rfl | rfl | rfl | rfl | rfl | rfl | rfl <;> decide
theorem ext_semi {k : Nat} (h : k = 3 ∨ k = 4) : ext k 59 = false := by rcases h with rfl | rfl <;> decide
theorem goodS_items : ∀ (ts : List Tok) (R : List (Tok × List UInt8)), (∀ t ∈ ts, okTok t) → GoodS R → GoodS (itemsOf ts ++ R)
  | [], R, _, hR => ⟨⟨5, good_semi, fun d u e => by injection e with e _; rw [← e]; decide⟩, .inr good_line, hR⟩
  | [t], R, h, hR => by
    refine ⟨?_, .inl rfl, ⟨5, good_semi, fun d u e => by injection e with e _; rw [← e]; decide⟩, .inr good_line, hR⟩
    rcases (h t (List.mem_cons_self ..)).1 with hk | hk
    · exact ⟨3, hk, fun d u e => by injection e with e _; rw [← e]; decide⟩
    · exact ⟨4, hk, fun d u e => by injection e with e _; rw [← e]; decide⟩
  | t :: u :: r, R, h, hR => by
    refine ⟨?_, .inr good_blank, goodS_items (u :: r) R (fun x hx => h x (List.mem_cons_of_mem _ hx)) hR⟩
    rcases (h t (List.mem_cons_self ..)).1 with hk | hk
    · exact ⟨3, hk, fun d u e => by injection e with e _; rw [← e]; decide⟩
    · exact ⟨4, hk, fun d u e => by injection e with e _; rw [← e]; decide⟩
theorem items_len : ∀ (ts : List Tok), ts ≠ [] → (itemsOf ts).length = ts.length + 1
  | [], h => absurd rfl h
  | [t], _ => rfl
  | t :: u :: r, _ => by simp only [itemsOf, List.length_cons]; rw [items_len (u :: r) (by simp)]; rfl
theorem items_blanks : ∀ (ts : List Tok), ts ≠ [] → (∀ t ∈ ts, okTok t) → blanks (gtx (itemsOf ts)) + 1 = ts.length
  | [], h, _ => absurd rfl h
  | [t], _, h => by
    show blanks (textL t ++ ([] ++ ([59] ++ ([10] ++ [])))) + 1 = 1
    rw [blanks_append, (h t (List.mem_cons_self ..)).2]; rfl
  | t :: u :: r, _, h => by
    have := items_blanks (u :: r) (by simp) (fun x hx => h x (List.mem_cons_of_mem _ hx))
    show blanks (textL t ++ ([32] ++ gtx (itemsOf (u :: r)))) + 1 = _
    rw [blanks_append, blanks_append, (h t (List.mem_cons_self ..)).2]
    show 0 + (1 + _) + 1 = _
    rw [List.length_cons]
    omega
theorem line_items {k : Int} {nm : List UInt8} {ns : List Int} (hk : kind11 k) (hl : (ns.length : Int) = (shapeOf k).2) : gtx (lineI k nm ns) = lineL k nm ns ++ [10] := by
  rcases hk with rfl | rfl | rfl | rfl | rfl | rfl | rfl | rfl | rfl | rfl | rfl
  · have h : ns.length = 2 := by simp [shapeOf] at hl; omega
    match ns, h with
    | [v0, v1], _ => simp [lineI, wordsP, wds, itemsOf, gtx, lineL, formP, wrF, textL_name, textL_num, textL_semi, dg]
  · have h : ns.length = 2 := by simp [shapeOf] at hl; omega
    match ns, h with
    | [v0, v1], _ => simp [lineI, wordsP, wds, itemsOf, gtx, lineL, formP, wrF, textL_name, textL_num, textL_semi, dg]
  · have h : ns.length = 4 := by simp [shapeOf] at hl; omega
    match ns, h with
    | [v0, v1, v2, v3], _ => simp [lineI, wordsP, wds, itemsOf, gtx, lineL, formP, wrF, textL_name, textL_num, textL_semi, dg, driftL]; split <;> simp
  · have h : ns.length = 3 := by simp [shapeOf] at hl; omega
    match ns, h with
    | [v0, v1, v2], _ => simp [lineI, wordsP, wds, itemsOf, gtx, lineL, formP, wrF, textL_name, textL_num, textL_semi, dg]
  · have h : ns.length = 1 := by simp [shapeOf] at hl; omega
    match ns, h with
    | [v0], _ => simp [lineI, wordsP, wds, itemsOf, gtx, lineL, formP, wrF, textL_name, textL_num, textL_semi, dg]
  · have h : ns.length = 1 := by simp [shapeOf] at hl; omega
    match ns, h with
    | [v0], _ => simp [lineI, wordsP, wds, itemsOf, gtx, lineL, formP, wrF, textL_name, textL_num, textL_semi, dg]
  · have h : ns.length = 2 := by simp [shapeOf] at hl; omega
    match ns, h with
    | [v0, v1], _ => simp [lineI, wordsP, wds, itemsOf, gtx, lineL, formP, wrF, textL_name, textL_num, textL_semi, dg]
  · have h : ns.length = 6 := by simp [shapeOf] at hl; omega
    match ns, h with
    | [v0, v1, v2, v3, v4, v5], _ => simp [lineI, wordsP, wds, itemsOf, gtx, lineL, formP, wrF, textL_name, textL_num, textL_semi, dg]
  · have h : ns.length = 4 := by simp [shapeOf] at hl; omega
    match ns, h with
    | [v0, v1, v2, v3], _ => simp [lineI, wordsP, wds, itemsOf, gtx, lineL, formP, wrF, textL_name, textL_num, textL_semi, dg]
  · have h : ns.length = 3 := by simp [shapeOf] at hl; omega
    match ns, h with
    | [v0, v1, v2], _ => simp [lineI, wordsP, wds, itemsOf, gtx, lineL, formP, wrF, textL_name, textL_num, textL_semi, dg]
  · have h : ns.length = 1 := by simp [shapeOf] at hl; omega
    match ns, h with
    | [v0], _ => simp [lineI, wordsP, wds, itemsOf, gtx, lineL, formP, wrF, textL_name, textL_num, textL_semi, dg]

/-- The tokens of commands' lines. -/
def itemsL (l : List Cm) : List (Tok × List UInt8) := l.flatMap fun x => lineI x.kind x.name.data.toList x.ns
theorem itemsL_cons (x : Cm) (l : List Cm) : itemsL (x :: l) = lineI x.kind x.name.data.toList x.ns ++ itemsL l := by unfold itemsL; rw [List.flatMap_cons]
theorem outL_cons (x : Cm) (l : List Cm) : outL (x :: l) = (lnC x ++ [10]) ++ outL l := by unfold outL; rw [List.flatMap_cons]
theorem wds_ne (nm : List UInt8) {ps : List (List UInt8)} (h : ps ≠ []) (ns : List Int) : wds nm ps ns ≠ [] := by
  cases ps with
  | nil => exact absurd rfl h
  | cons p r => simp only [wds]; split <;> (try split) <;> (try split) <;> simp
theorem wds_of {x : Cm} (h : cmB x = true) : ∀ t ∈ wds x.name.data.toList (wordsP x.kind.toNat) x.ns, okTok t := by
  have ho := okC_of h
  obtain ⟨h1, h2, _⟩ := wordsP_ok ho.kind
  exact wds_ok _ _ _ h1 (fun h => name_ok (ho.named (h2 h))) ho.range
theorem gtx_items : ∀ (l : List Cm), (∀ x ∈ l, cmB x = true) → gtx (itemsL l) = outL l
  | [], _ => rfl
  | x :: l, h => by
    have ho := okC_of (h x (List.mem_cons_self ..))
    rw [itemsL_cons, outL_cons, gtx_append, gtx_items l fun y hy => h y (List.mem_cons_of_mem _ hy), line_items ho.kind ho.len]
    rfl
theorem good_items : ∀ (l : List Cm), (∀ x ∈ l, cmB x = true) → GoodS (itemsL l)
  | [], _ => trivial
  | x :: l, h => by
    rw [itemsL_cons]
    exact goodS_items _ _ (wds_of (h x (List.mem_cons_self ..))) (good_items l fun y hy => h y (List.mem_cons_of_mem _ hy))
theorem line_tokens {x : Cm} (h : cmB x = true) : (lineI x.kind x.name.data.toList x.ns).length = 2 + blanks (lnC x) := by
  have ho := okC_of h
  have hne := wds_ne x.name.data.toList (wordsP_ok ho.kind).2.2 x.ns
  have h1 := items_len _ hne
  have h2 := items_blanks _ hne (wds_of h)
  have h3 : gtx (itemsOf (wds x.name.data.toList (wordsP x.kind.toNat) x.ns)) = lnC x ++ [10] := line_items ho.kind ho.len
  rw [h3, blanks_append] at h2
  have h4 : blanks [10] = 0 := rfl
  unfold lineI
  omega
theorem items_tok : ∀ (l : List Cm), (∀ x ∈ l, cmB x = true) → (itemsL l).length = tokL l
  | [], _ => rfl
  | x :: l, h => by
    rw [itemsL_cons, List.length_append, items_tok l fun y hy => h y (List.mem_cons_of_mem _ hy), line_tokens (h x (List.mem_cons_self ..))]
    rfl
/-- What the lexer makes of printed commands. -/
theorem lex_out {l : List Cm} (h : ∀ x ∈ l, cmB x = true) : ((outL l).length ≤ 8000 → tokL l ≤ 2000 → LEX (outL l) = ⟨tksAt 0 (itemsL l), 0, 0⟩) ∧ (8000 < (outL l).length ∨ 2000 < tokL l → (LEX (outL l)).err = 2) := by
  have := gtx_LEX (good_items l h)
  rw [gtx_items l h, items_tok l h] at this
  exact this
theorem valid_all {l : List Cm} (h : validB l = true) : l.length ≤ 300 ∧ ∀ x ∈ l, cmB x = true := by
  unfold validB at h
  simp only [Bool.and_eq_true, decide_eq_true_eq] at h
  exact ⟨h.1, List.all_eq_true.1 h.2⟩
/-- The program prints what the reference prints. -/
theorem print_law (l : List Cm) : printL l = rprintL l := by
  unfold printL rprintL
  cases hv : validB l with
  | false => rfl
  | true =>
    rw [if_neg (show ¬ (true = false) by decide), if_neg (show ¬ (true = false) by decide)]
    obtain ⟨h1, h2⟩ := lex_out (valid_all hv).2
    by_cases hx : 8000 < (outL l).length ∨ 2000 < tokL l
    · rw [if_pos hx, if_pos (by rw [h2 hx]; decide)]
    · rw [if_neg hx, h1 (by omega) (by omega), if_neg (by simp)]
end Go.Proofs.YtmdogklgbifacaaDoor.Pr

/- The head of the printer's statements. -/
namespace Go.Proofs.YtmdogklgbifacaaDoor.Pr
open Go.RowKit Go.Proofs.YtmdogklgbifacaaDoor.Lx
set_option linter.unusedVariables false

theorem cms_blk {W : World} {g : Nat} {cs : Array Value} {l : List Cm} {n : Nat} (h : Blk W g 46 cs) (hx : cs.toList = l.flatMap decC) (hn : l.length = n) (hm : n ≤ maxLen) (hg : ∀ x ∈ l, Cm.In W x) : IsCms W (some ⟨g, 0, none⟩) n n l :=
  ⟨hn, rd_blk h 4 n _ hx (by rw [← Array.length_toList, hx, flat_len (k := 4) (fun _ => rfl), hn]), Nat.le_refl _, hm, hg⟩
def k1 (A : Option Addr) : Cm := ⟨3, ⟨#[97]⟩, A, 4, 4, [1, 2, -30, 9], 0⟩
def k2 (A : Option Addr) : Cm := ⟨5, ⟨#[97]⟩, A, 1, 1, [7], 0⟩
def k3 (A : Option Addr) : Cm := ⟨8, ⟨#[]⟩, A, 6, 6, [5, 1, 2, 300, 4, 50], 0⟩
def k4 (A : Option Addr) : Cm := ⟨5, ⟨#[114, 117, 110]⟩, A, 1, 1, [7], 0⟩
def txt1 : List UInt8 := [110, 111, 100, 101, 32, 97, 32, 97, 116, 32, 49, 32, 50, 32, 115, 108, 111, 119, 32, 51, 48, 32, 98, 97, 116, 116, 101, 114, 121, 32, 57, 59, 10, 97, 116, 32, 55, 32, 102, 97, 105, 108, 32, 97, 59, 10, 97, 116, 32, 53, 32, 106, 97, 109, 32, 49, 32, 50, 32, 114, 97, 100, 105, 117, 115, 32, 51, 48, 48, 32, 99, 104, 97, 110, 110, 101, 108, 32, 52, 32, 102, 111, 114, 32, 53, 48, 59, 10]
theorem h_valid (A B C : Option Addr) : validB [k1 A, k2 B, k3 C] = true := by kernel_rfl
theorem h_out (A B C : Option Addr) : outL [k1 A, k2 B, k3 C] = txt1 := by kernel_rfl
theorem h_tok (A B C : Option Addr) : tokL [k1 A, k2 B, k3 C] = 27 := by kernel_rfl
theorem h_bad (A : Option Addr) : validB [k4 A] = false := by kernel_rfl
theorem h_one (A B C : Option Addr) : printL [k1 A, k2 B, k3 C] = (txt1, 0) := by
  rw [print_law]
  unfold rprintL
  rw [h_valid, if_neg (by decide), h_out, h_tok, if_neg (by decide)]
theorem h_none : printL [] = ([], 0) := by
  rw [print_law]
  unfold rprintL
  rw [show validB [] = true from rfl, if_neg (by decide)]
  rfl
theorem h_four (A : Option Addr) : printL [k4 A] = ([], 1) := by unfold printL; rw [if_pos (h_bad A)]

theorem in_int {W : World} {g n : Nat} {cs : Array Value} {ns : List Int} (h : Blk W g 3 cs) (hx : cs.toList = ns.map iv) (hn : ns.length = n) : Rd W W.heap.size 1 (some ⟨g, 0, none⟩) n (ns.map iv) :=
  rd_blk h 1 n _ hx (by rw [← Array.length_toList, hx, List.length_map, hn, Nat.mul_one])
theorem k1_in {W : World} {A : Option Addr} (h : Rd W W.heap.size 1 A 4 (([1, 2, -30, 9] : List Int).map iv)) : Cm.In W (k1 A) :=
  ⟨show w64 3 by decide, show (⟨#[97]⟩ : ByteArray).size ≤ maxLen by decide, h, rfl, Nat.le_refl _, show 4 ≤ maxLen by decide, show ∀ v ∈ ([1, 2, -30, 9] : List Int), w64 v by decide, show w64 0 by decide⟩
theorem k2_in {W : World} {A : Option Addr} (h : Rd W W.heap.size 1 A 1 (([7] : List Int).map iv)) : Cm.In W (k2 A) :=
  ⟨show w64 5 by decide, show (⟨#[97]⟩ : ByteArray).size ≤ maxLen by decide, h, rfl, Nat.le_refl _, show 1 ≤ maxLen by decide, show ∀ v ∈ ([7] : List Int), w64 v by decide, show w64 0 by decide⟩
theorem k3_in {W : World} {A : Option Addr} (h : Rd W W.heap.size 1 A 6 (([5, 1, 2, 300, 4, 50] : List Int).map iv)) : Cm.In W (k3 A) :=
  ⟨show w64 8 by decide, show (⟨#[]⟩ : ByteArray).size ≤ maxLen by decide, h, rfl, Nat.le_refl _, show 6 ≤ maxLen by decide, show ∀ v ∈ ([5, 1, 2, 300, 4, 50] : List Int), w64 v by decide, show w64 0 by decide⟩
theorem k4_in {W : World} {A : Option Addr} (h : Rd W W.heap.size 1 A 1 (([7] : List Int).map iv)) : Cm.In W (k4 A) :=
  ⟨show w64 5 by decide, show (⟨#[114, 117, 110]⟩ : ByteArray).size ≤ maxLen by decide, h, rfl, Nat.le_refl _, show 1 ≤ maxLen by decide, show ∀ v ∈ ([7] : List Int), w64 v by decide, show w64 0 by decide⟩
def hw1 (w : World) : World := ((w.alloc (.cells #[.int .i64 1, .int .i64 2, .int .i64 (-30), .int .i64 9] 3)).alloc (.cells #[.int .i64 7] 3)).alloc (.cells #[.int .i64 5, .int .i64 1, .int .i64 2, .int .i64 300, .int .i64 4, .int .i64 50] 3)
def hcs (g : Nat) : Array Value := #[.int .i64 3, .string ⟨#[97]⟩, .slice (some ⟨g, 0, none⟩) 4 4, .int .i64 0, .int .i64 5, .string ⟨#[97]⟩, .slice (some ⟨g + 1, 0, none⟩) 1 1, .int .i64 0, .int .i64 8, .string ⟨#[]⟩, .slice (some ⟨g + 1 + 1, 0, none⟩) 6 6, .int .i64 0]
theorem h_cms (w : World) : IsCms ((hw1 w).alloc (.cells (hcs w.heap.size) 46)) (some ⟨w.heap.size + 1 + 1 + 1, 0, none⟩) 3 3 [k1 (some ⟨w.heap.size, 0, none⟩), k2 (some ⟨w.heap.size + 1, 0, none⟩), k3 (some ⟨w.heap.size + 1 + 1, 0, none⟩)] ∧ Below w.heap.size w ((hw1 w).alloc (.cells (hcs w.heap.size) 46)) := by
  have s1 : (hw1 w).heap.size = w.heap.size + 1 + 1 + 1 := by unfold hw1; simp
  have b1 : Blk (hw1 w) w.heap.size 3 #[.int .i64 1, .int .i64 2, .int .i64 (-30), .int .i64 9] := ((Blk.new w _ _).alloc _).alloc _
  have b2 : Blk (hw1 w) (w.heap.size + 1) 3 #[.int .i64 7] := by
    have := (Blk.new (w.alloc (.cells #[.int .i64 1, .int .i64 2, .int .i64 (-30), .int .i64 9] 3)) 3 #[.int .i64 7]).alloc (.cells #[.int .i64 5, .int .i64 1, .int .i64 2, .int .i64 300, .int .i64 4, .int .i64 50] 3)
    rw [World.size_alloc] at this
    exact this
  have b3 : Blk (hw1 w) (w.heap.size + 1 + 1) 3 #[.int .i64 5, .int .i64 1, .int .i64 2, .int .i64 300, .int .i64 4, .int .i64 50] := by
    have := Blk.new ((w.alloc (.cells #[.int .i64 1, .int .i64 2, .int .i64 (-30), .int .i64 9] 3)).alloc (.cells #[.int .i64 7] 3)) 3 #[.int .i64 5, .int .i64 1, .int .i64 2, .int .i64 300, .int .i64 4, .int .i64 50]
    rw [World.size_alloc, World.size_alloc] at this
    exact this
  have b4 : Blk ((hw1 w).alloc (.cells (hcs w.heap.size) 46)) (w.heap.size + 1 + 1 + 1) 46 (hcs w.heap.size) := by
    have := Blk.new (hw1 w) 46 (hcs w.heap.size)
    rw [s1] at this
    exact this
  refine ⟨cms_blk b4 rfl rfl (by decide) (fun x hx => ?_), ?_⟩
  · simp only [List.mem_cons, List.not_mem_nil, or_false] at hx
    rcases hx with rfl | rfl | rfl
    · exact k1_in (in_int (b1.alloc _) rfl rfl)
    · exact k2_in (in_int (b2.alloc _) rfl rfl)
    · exact k3_in (in_int (b3.alloc _) rfl rfl)
  · unfold hw1
    refine ((((Below.refl _ w).alloc (Nat.le_refl _) _).alloc ?_ _).alloc ?_ _).alloc ?_ _ <;> simp <;> omega
theorem h_cms4 (w : World) : IsCms ((w.alloc (.cells #[.int .i64 7] 3)).alloc (.cells #[.int .i64 5, .string ⟨#[114, 117, 110]⟩, .slice (some ⟨w.heap.size, 0, none⟩) 1 1, .int .i64 0] 46)) (some ⟨w.heap.size + 1, 0, none⟩) 1 1 [k4 (some ⟨w.heap.size, 0, none⟩)] ∧ Below w.heap.size w ((w.alloc (.cells #[.int .i64 7] 3)).alloc (.cells #[.int .i64 5, .string ⟨#[114, 117, 110]⟩, .slice (some ⟨w.heap.size, 0, none⟩) 1 1, .int .i64 0] 46)) := by
  have b1 := (Blk.new w 3 #[.int .i64 7]).alloc (.cells #[.int .i64 5, .string ⟨#[114, 117, 110]⟩, .slice (some ⟨w.heap.size, 0, none⟩) 1 1, .int .i64 0] 46)
  have b4 := Blk.new (w.alloc (.cells #[.int .i64 7] 3)) 46 #[.int .i64 5, .string ⟨#[114, 117, 110]⟩, .slice (some ⟨w.heap.size, 0, none⟩) 1 1, .int .i64 0]
  rw [World.size_alloc] at b4
  refine ⟨cms_blk b4 rfl rfl (by decide) (fun x hx => ?_), ?_⟩
  · simp only [List.mem_cons, List.not_mem_nil, or_false] at hx
    subst hx
    exact k4_in (in_int b1 rfl rfl)
  · refine ((Below.refl _ w).alloc (Nat.le_refl _) _).alloc ?_ _
    simp
theorem cms_nil (w : World) : IsCms w none 0 0 [] := ⟨rfl, Rd.nil_, Nat.le_refl _, by decide, fun x hx => by cases hx⟩
set_option maxRecDepth 100000 in
set_option maxHeartbeats 2000000 in
theorem head_val (w : World) (hv : VarP w) :
    Calls Tryd.prog 10 #[] w fun e w' => e = .returned (.bool true) ∧ Below w.heap.size w w' := by
  have HV := Lib.hid hv
  clear hv
  obtain ⟨hc1, hb1⟩ := h_cms w
  have HP1 := Lib.hid (print_val _ _ _ _ _ hc1 (HV.out.up hb1))
  rw [h_one] at HP1
  have HB1 := Lib.hid hb1
  clear hc1 hb1
  unfold hw1 hcs at HP1 HB1
  go_enter Tryd.func10, Tryd.ntmps10
  go_wp2_with fail
  refine HP1.out.mono ?_
  rintro e w1 ⟨rfl, hb1⟩
  have HB2 := Lib.hid (below_trans' HB1.out hb1)
  clear hb1
  have HP2 := Lib.hid (print_val _ _ _ _ _ (cms_nil w1) (HV.out.up HB2.out))
  rw [h_none] at HP2
  go_wp2_with fail
  refine HP2.out.mono ?_
  rintro e w2 ⟨rfl, hb2⟩
  have HB3 := Lib.hid (below_trans' HB2.out hb2)
  clear hb2
  obtain ⟨hc4, hb4⟩ := h_cms4 w2
  have HP3 := Lib.hid (print_val _ _ _ _ _ hc4 ((HV.out.up HB3.out).up hb4))
  rw [h_four] at HP3
  have HB4 := Lib.hid (below_trans' HB3.out hb4)
  clear hc4 hb4
  go_wp2_with fail
  refine HP3.out.mono ?_
  rintro e w3 ⟨rfl, hb3⟩
  have HB5 := Lib.hid (below_trans' HB4.out hb3)
  clear hb3
  go_wp2_with fail
  go_ret
  exact ⟨rfl, HB5.out⟩
end Go.Proofs.YtmdogklgbifacaaDoor.Pr
