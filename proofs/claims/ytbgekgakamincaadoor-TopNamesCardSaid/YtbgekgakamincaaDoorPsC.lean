/- commands, events: the tables of forms. What ends a command: the deferred closure; the moves' closure. What a command's reading comes to. The tables' entries, the forms that they lead to. Printed by wip/mk_pssel.py. The door of the reader's command: what the deferred closure leaves. The reader's command walked. Printed by wip/mk_pscmd.py. The next semicolon. -/
import Derived.ChangeMaps4
import Derived.Carry
import Derived.Test.YtbgekgakamincaaDoorPsB
import Derived.Recover
import Derived.Test.YtbgekgakamincaaDoorPsA
import Derived.Test.YtbgekgakamincaaDoorPrA

/- commands, events: the tables of forms. -/
namespace Go.Proofs.YtbgekgakamincaaDoor.Ps
open Go.RowKit Go.Proofs.YtbgekgakamincaaDoor.Lx Go.Proofs.YtbgekgakamincaaDoor.Pr Go.ChangeMaps
set_option linter.unusedVariables false
theorem hmf (fn : Fn) (first cap : Array Value) (w : World) : (Instr.makeFunc fn first cap).run Tryd.prog w = .ok (.func fn first cap) w := rfl
/-- A table's entries, from the i-th on. -/
def ents : Nat → List (ByteArray × Value) → List MapEntry
  | _, [] => []
  | i, (k, v) :: r => { key := .string k, val := v, born := i } :: ents (i + 1) r
theorem ents_append : ∀ (T : List (ByteArray × Value)) (i : Nat) (x : ByteArray × Value), ents i (T ++ [x]) = ents i T ++ [{ key := .string x.1, val := x.2, born := i + T.length }]
  | [], i, x => rfl
  | y :: T, i, x => by
    simp only [List.cons_append, ents, List.length_cons]
    rw [ents_append T (i + 1) x, show i + (T.length + 1) = i + 1 + T.length by omega]
theorem find_ents (s : ByteArray) : ∀ (T : List (ByteArray × Value)) (i j : Nat), match T.find? (fun x => s == x.1) with
    | some x => ∃ j', Instr.findNow .string (.string s) (ents i T) j = some (some (j', x.2))
    | none => Instr.findNow .string (.string s) (ents i T) j = some none
  | [], i, j => rfl
  | (k, v) :: T, i, j => by
    rw [List.find?_cons]
    by_cases h : s == k
    · rw [h]
      exact ⟨j, by simp only [ents, Instr.findNow, Instr.sameNow]; rw [h]⟩
    · have h' : (s == k) = false := by simpa using h
      rw [h']
      have := find_ents s T (i + 1) (j + 1)
      simp only [ents, Instr.findNow, Instr.sameNow]
      rw [h']
      exact this
/-- A new entry. -/
theorem tab_insert {w : World} {m : Nat} (T : List (ByteArray × Value)) (k : ByteArray) (v : Value) (hb : w.heap[m]? = some (.map (ents 0 T).toArray T.length)) (hk : T.find? (fun x => k == x.1) = none) :
    (Instr.mapUpdate 77 (.map (some m)) (.string k) v).run Tryd.prog w = .ok () (setBlock w m (.map (ents 0 (T ++ [(k, v)])).toArray (T ++ [(k, v)]).length)) := by
  have h1 := find_ents k T 0 0
  rw [hk] at h1
  have he : (ents 0 (T ++ [(k, v)])).toArray = (ents 0 T).toArray.push { key := .string k, val := v, born := T.length } := by
    rw [ents_append]
    simp
  rw [he, List.length_append]
  simp [Instr.mapUpdate, run_underlying Tryd.underlying77, MapKept.run_getObj_map hb, MapKept.run_checkKey Tryd.underlying9 (show MapKept.IsKey .string (.string k) from trivial), MapKept.run_findKey Tryd.underlying9 h1, MapKept.run_setObj_map _ hb, Result.andThen, setBlock]
/-- A look-up. -/
theorem tab_look {w : World} {m c : Nat} (T : List (ByteArray × Value)) (k : ByteArray) (hb : w.heap[m]? = some (.map (ents 0 T).toArray c)) :
    (Instr.lookup 77 (.map (some m)) (.string k) true).run Tryd.prog w = .ok (match T.find? (fun x => k == x.1) with | some x => .tuple #[x.2, .bool true] | none => .tuple #[.agg #[.int .i64 0, .nilFunc], .bool false]) w := by
  have h1 := find_ents k T 0 0
  cases hf : T.find? (fun x => k == x.1) with
  | none =>
    rw [hf] at h1
    simp [Instr.lookup, run_underlying Tryd.underlying77, MapKept.run_getObj_map hb, MapKept.run_checkKey Tryd.underlying9 (show MapKept.IsKey .string (.string k) from trivial), MapKept.run_findKey Tryd.underlying9 h1, Result.andThen]
  | some x =>
    rw [hf] at h1
    obtain ⟨j', h1⟩ := h1
    simp [Instr.lookup, run_underlying Tryd.underlying77, MapKept.run_getObj_map hb, MapKept.run_checkKey Tryd.underlying9 (show MapKept.IsKey .string (.string k) from trivial), MapKept.run_findKey Tryd.underlying9 h1, Result.andThen]
/-- The table of commands. -/
def cmdT : List (ByteArray × Value) := [(⟨#[109, 101, 115, 104]⟩, .agg #[.int .i64 1, .func (.func 50) #[] #[]]), (⟨#[114, 111, 111, 116]⟩, .agg #[.int .i64 2, .func (.func 52) #[] #[]]), (⟨#[110, 111, 100, 101]⟩, .agg #[.int .i64 3, .func (.func 54) #[] #[]]), (⟨#[114, 117, 110]⟩, .agg #[.int .i64 11, .func (.func 56) #[] #[]])]
theorem heap_set_new {w : World} {m : Nat} {o o' : Obj} (h : w.heap[m]? = some o) : (setBlock w m o').heap[m]? = some o' := (MapKept.heap_set (o' := o') h).1
theorem set_new (W : World) (o o' : Obj) : setBlock (W.alloc o) W.heap.size o' = W.alloc o' := by
  unfold setBlock World.alloc
  congr 1
  apply Array.ext'
  simp [Array.toList_setIfInBounds, List.set_append_right]
theorem tab_put (W : World) (T : List (ByteArray × Value)) (k : ByteArray) (v : Value) (hk : T.find? (fun x => k == x.1) = none) (T' : List (ByteArray × Value)) (hT : T ++ [(k, v)] = T') :
    (Instr.mapUpdate 77 (.map (some W.heap.size)) (.string k) v).run Tryd.prog (W.alloc (.map (ents 0 T).toArray T.length)) = .ok () (W.alloc (.map (ents 0 T').toArray T'.length)) := by
  have := tab_insert T k v (heap_alloc_new W _) hk
  rw [set_new, hT] at this
  exact this
set_option maxRecDepth 100000 in
set_option maxHeartbeats 2000000 in
theorem commands_val (W : World) :
    Calls Tryd.prog 29 #[] W (fun e w' => e = .returned (.map (some W.heap.size)) ∧ w' = W.alloc (.map (ents 0 cmdT).toArray 4)) := by
  have hmm := @run_makeMap Tryd.prog
  obtain ⟨E1, hE1⟩ : ∃ E, (ents 0 (cmdT.take 1)).toArray = E := ⟨_, rfl⟩
  have i0 : (Instr.mapUpdate 77 (.map (some W.heap.size)) (.string ⟨#[109, 101, 115, 104]⟩) (.agg #[.int .i64 1, .func (.func 50) #[] #[]])).run Tryd.prog (W.alloc (.map #[] 0)) = .ok () (W.alloc (.map E1 1)) := by rw [← hE1]; exact tab_put W (cmdT.take 0) _ _ (by kernel_rfl) (cmdT.take 1) rfl
  obtain ⟨E2, hE2⟩ : ∃ E, (ents 0 (cmdT.take 2)).toArray = E := ⟨_, rfl⟩
  have i1 : (Instr.mapUpdate 77 (.map (some W.heap.size)) (.string ⟨#[114, 111, 111, 116]⟩) (.agg #[.int .i64 2, .func (.func 52) #[] #[]])).run Tryd.prog (W.alloc (.map E1 1)) = .ok () (W.alloc (.map E2 2)) := by rw [← hE2, ← hE1]; exact tab_put W (cmdT.take 1) _ _ (by kernel_rfl) (cmdT.take 2) rfl
  obtain ⟨E3, hE3⟩ : ∃ E, (ents 0 (cmdT.take 3)).toArray = E := ⟨_, rfl⟩
  have i2 : (Instr.mapUpdate 77 (.map (some W.heap.size)) (.string ⟨#[110, 111, 100, 101]⟩) (.agg #[.int .i64 3, .func (.func 54) #[] #[]])).run Tryd.prog (W.alloc (.map E2 2)) = .ok () (W.alloc (.map E3 3)) := by rw [← hE3, ← hE2]; exact tab_put W (cmdT.take 2) _ _ (by kernel_rfl) (cmdT.take 3) rfl
  obtain ⟨E4, hE4⟩ : ∃ E, (ents 0 (cmdT.take 4)).toArray = E := ⟨_, rfl⟩
  have i3 : (Instr.mapUpdate 77 (.map (some W.heap.size)) (.string ⟨#[114, 117, 110]⟩) (.agg #[.int .i64 11, .func (.func 56) #[] #[]])).run Tryd.prog (W.alloc (.map E3 3)) = .ok () (W.alloc (.map E4 4)) := by rw [← hE4, ← hE3]; exact tab_put W (cmdT.take 3) _ _ (by kernel_rfl) (cmdT.take 4) rfl
  have hz : (ents 0 cmdT).toArray = E4 := hE4
  rw [hz]
  clear hE1 hE2 hE3 hE4 hz
  go_enter Tryd.func29, Tryd.ntmps29
  go_wp2_with fail
  refine bodyPost_ret (v := .map (some W.heap.size)) ?_ rfl ⟨rfl, rfl⟩
  simp [results, Tryd.f29]
/-- The table of events; the boxes of the counts lie behind the table. -/
def evT (m : Nat) : List (ByteArray × Value) := [(⟨#[109, 111, 118, 101]⟩, (.agg #[.int .i64 4, .func (.func 58) #[] #[.pointer (some ⟨m + 1, 0, none⟩)]])), (⟨#[102, 97, 105, 108]⟩, (.agg #[.int .i64 5, .func (.func 58) #[] #[.pointer (some ⟨m + 2, 0, none⟩)]])), (⟨#[115, 116, 97, 114, 116]⟩, (.agg #[.int .i64 6, .func (.func 58) #[] #[.pointer (some ⟨m + 3, 0, none⟩)]])), (⟨#[114, 101, 97, 100]⟩, (.agg #[.int .i64 7, .func (.func 58) #[] #[.pointer (some ⟨m + 4, 0, none⟩)]])), (⟨#[106, 97, 109]⟩, (.agg #[.int .i64 8, .func (.func 59) #[] #[]])), (⟨#[114, 101, 112, 108, 97, 121]⟩, (.agg #[.int .i64 9, .func (.func 60) #[] #[]])), (⟨#[112, 114, 111, 103, 114, 97, 109]⟩, (.agg #[.int .i64 10, .func (.func 61) #[] #[]]))]
set_option maxRecDepth 100000 in
theorem ev1_val (W : World) (many : Int) :
    Calls Tryd.prog 57 #[.int .i64 many] W (fun e w' => e = .returned (.func (.func 58) #[] #[.pointer (some ⟨W.heap.size, 0, none⟩)]) ∧ w' = W.alloc (.cells #[.int .i64 many] 3)) := by
  have hmf := hmf
  go_enter Tryd.func57, Tryd.ntmps57
  go_wp2_with fail
  refine bodyPost_ret (v := .func (.func 58) #[] #[.pointer (some ⟨W.heap.size, 0, none⟩)]) ?_ rfl ⟨rfl, rfl⟩
  simp [results, Tryd.f57]
theorem tab_put2 {w : World} {m : Nat} (T : List (ByteArray × Value)) (k : ByteArray) (v : Value) (hb : w.heap[m]? = some (.map (ents 0 T).toArray T.length)) (hk : T.find? (fun x => k == x.1) = none) (T' : List (ByteArray × Value)) (hT : T ++ [(k, v)] = T') :
    (Instr.mapUpdate 77 (.map (some m)) (.string k) v).run Tryd.prog w = .ok () (setBlock w m (.map (ents 0 T').toArray T'.length)) := by
  have := tab_insert T k v hb hk
  rwa [hT] at this
theorem size_setBlock (w : World) (m : Nat) (o : Obj) : (setBlock w m o).heap.size = w.heap.size := by simp [setBlock]
theorem below_setBlock {B : Nat} {W w : World} {m : Nat} (h : Below B W w) (hm : B ≤ m) (o : Obj) : Below B W (setBlock w m o) :=
  ⟨h.os, h.tape, h.output, by rw [size_setBlock]; exact h.size, fun k hk => by
    have : (setBlock w m o).heap[k]? = w.heap[k]? := by
      unfold setBlock
      exact Array.getElem?_setIfInBounds_ne (by omega)
    rw [this]; exact h.block k hk⟩
theorem blk_setBlock {w : World} {m g : Nat} {t : TypeId} {cs : Array Value} (h : Blk w g t cs) (hm : g ≠ m) (o : Obj) : Blk (setBlock w m o) g t cs := by
  have : (setBlock w m o).heap[g]? = w.heap[g]? := by
    unfold setBlock
    exact Array.getElem?_setIfInBounds_ne (Ne.symm hm)
  exact this.trans h
/-- The table of events in memory. -/
structure EvTab (m : Nat) (w : World) : Prop where
  tab : w.heap[m]? = some (.map (ents 0 (evT m)).toArray 7)
  b1 : Blk w (m + 1) 3 #[.int .i64 2]
  b2 : Blk w (m + 2) 3 #[.int .i64 0]
  b3 : Blk w (m + 3) 3 #[.int .i64 0]
  b4 : Blk w (m + 4) 3 #[.int .i64 1]
set_option maxRecDepth 100000 in
set_option maxHeartbeats 2000000 in
theorem events_val (W : World) :
    Calls Tryd.prog 32 #[] W (fun e w' => e = .returned (.map (some W.heap.size)) ∧ EvTab W.heap.size w' ∧ Below W.heap.size W w') := by
  have hmm := @run_makeMap Tryd.prog
  have HV := Lib.hid ev1_val
  have HB : Hid (Below W.heap.size W (W.alloc (.map #[] 0))) := Lib.hid ((Below.refl _ _).alloc (Nat.le_refl _) _)
  have HS : Hid ((W.alloc (.map #[] 0)).heap.size = W.heap.size + 1) := Lib.hid (by rw [World.size_alloc])
  have HM : Hid ((W.alloc (.map #[] 0)).heap[W.heap.size]? = some (.map #[] 0)) := Lib.hid (heap_alloc_new W _)
  go_enter Tryd.func32, Tryd.ntmps32
  go_wp2_with fail
  refine (HV.out _ _).mono ?_
  rintro e1 w1 ⟨rfl, hw⟩
  have HB1 : Hid (Below W.heap.size W w1) := Lib.hid (by rw [hw]; exact HB.out.alloc HB.out.size _)
  have HS1 : Hid (w1.heap.size = W.heap.size + 2) := Lib.hid (by rw [hw, World.size_alloc, HS.out])
  have HN1 : Hid (Blk w1 (W.heap.size + 1) 3 #[.int .i64 2]) := Lib.hid (by rw [hw, show W.heap.size + 1 = _ from HS.out.symm]; exact Blk.new _ _ _)
  have hm1 : w1.heap[W.heap.size]? = some (.map (ents 0 ((evT W.heap.size).take 0)).toArray ((evT W.heap.size).take 0).length) := by
    rw [hw]; exact (Below.heap_alloc _ _ _ (by rw [HS.out]; omega)).trans HM.out
  rw [show (W.alloc (.map #[] 0)).heap.size = W.heap.size + 1 from HS.out]
  have i1 := tab_put2 ((evT W.heap.size).take 0) ⟨#[109, 111, 118, 101]⟩ (.agg #[.int .i64 4, .func (.func 58) #[] #[.pointer (some ⟨W.heap.size + 1, 0, none⟩)]]) hm1 (by kernel_rfl) ((evT W.heap.size).take 1) rfl
  clear hw
  obtain ⟨x1, hx1⟩ : ∃ x, setBlock w1 W.heap.size (.map (ents 0 ((evT W.heap.size).take 1)).toArray ((evT W.heap.size).take 1).length) = x := ⟨_, rfl⟩
  have HB1' : Hid (Below W.heap.size W x1) := Lib.hid (by rw [← hx1]; exact below_setBlock HB1.out (Nat.le_refl _) _)
  have HS1' : Hid (x1.heap.size = W.heap.size + 2) := Lib.hid (by rw [← hx1, size_setBlock]; exact HS1.out)
  have HM1' : Hid (x1.heap[W.heap.size]? = some (.map (ents 0 ((evT W.heap.size).take 1)).toArray ((evT W.heap.size).take 1).length)) := Lib.hid (by rw [← hx1]; exact heap_set_new hm1)
  have HN1_1' : Hid (Blk x1 (W.heap.size + 1) 3 #[.int .i64 2]) := Lib.hid (by rw [← hx1]; exact blk_setBlock HN1.out (by omega) _)
  rw [hx1] at i1
  clear hx1 hm1
  go_wp2_with fail
  refine (HV.out _ _).mono ?_
  rintro e2 w2 ⟨rfl, hw⟩
  have HB2 : Hid (Below W.heap.size W w2) := Lib.hid (by rw [hw]; exact HB1'.out.alloc HB1'.out.size _)
  have HS2 : Hid (w2.heap.size = W.heap.size + 3) := Lib.hid (by rw [hw, World.size_alloc, HS1'.out])
  have HN2 : Hid (Blk w2 (W.heap.size + 2) 3 #[.int .i64 0]) := Lib.hid (by rw [hw, show W.heap.size + 2 = _ from HS1'.out.symm]; exact Blk.new _ _ _)
  have hm2 : w2.heap[W.heap.size]? = some (.map (ents 0 ((evT W.heap.size).take 1)).toArray ((evT W.heap.size).take 1).length) := by
    rw [hw]; exact (Below.heap_alloc _ _ _ (by rw [HS1'.out]; omega)).trans HM1'.out
  have HN1_2 : Hid (Blk w2 (W.heap.size + 1) 3 #[.int .i64 2]) := Lib.hid (by rw [hw]; exact HN1_1'.out.alloc _)
  rw [show (x1).heap.size = W.heap.size + 2 from HS1'.out]
  have i2 := tab_put2 ((evT W.heap.size).take 1) ⟨#[102, 97, 105, 108]⟩ (.agg #[.int .i64 5, .func (.func 58) #[] #[.pointer (some ⟨W.heap.size + 2, 0, none⟩)]]) hm2 (by kernel_rfl) ((evT W.heap.size).take 2) rfl
  clear hw
  obtain ⟨x2, hx2⟩ : ∃ x, setBlock w2 W.heap.size (.map (ents 0 ((evT W.heap.size).take 2)).toArray ((evT W.heap.size).take 2).length) = x := ⟨_, rfl⟩
  have HB2' : Hid (Below W.heap.size W x2) := Lib.hid (by rw [← hx2]; exact below_setBlock HB2.out (Nat.le_refl _) _)
  have HS2' : Hid (x2.heap.size = W.heap.size + 3) := Lib.hid (by rw [← hx2, size_setBlock]; exact HS2.out)
  have HM2' : Hid (x2.heap[W.heap.size]? = some (.map (ents 0 ((evT W.heap.size).take 2)).toArray ((evT W.heap.size).take 2).length)) := Lib.hid (by rw [← hx2]; exact heap_set_new hm2)
  have HN1_2' : Hid (Blk x2 (W.heap.size + 1) 3 #[.int .i64 2]) := Lib.hid (by rw [← hx2]; exact blk_setBlock HN1_2.out (by omega) _)
  have HN2_2' : Hid (Blk x2 (W.heap.size + 2) 3 #[.int .i64 0]) := Lib.hid (by rw [← hx2]; exact blk_setBlock HN2.out (by omega) _)
  rw [hx2] at i2
  clear hx2 hm2
  go_wp2_with fail
  refine (HV.out _ _).mono ?_
  rintro e3 w3 ⟨rfl, hw⟩
  have HB3 : Hid (Below W.heap.size W w3) := Lib.hid (by rw [hw]; exact HB2'.out.alloc HB2'.out.size _)
  have HS3 : Hid (w3.heap.size = W.heap.size + 4) := Lib.hid (by rw [hw, World.size_alloc, HS2'.out])
  have HN3 : Hid (Blk w3 (W.heap.size + 3) 3 #[.int .i64 0]) := Lib.hid (by rw [hw, show W.heap.size + 3 = _ from HS2'.out.symm]; exact Blk.new _ _ _)
  have hm3 : w3.heap[W.heap.size]? = some (.map (ents 0 ((evT W.heap.size).take 2)).toArray ((evT W.heap.size).take 2).length) := by
    rw [hw]; exact (Below.heap_alloc _ _ _ (by rw [HS2'.out]; omega)).trans HM2'.out
  have HN1_3 : Hid (Blk w3 (W.heap.size + 1) 3 #[.int .i64 2]) := Lib.hid (by rw [hw]; exact HN1_2'.out.alloc _)
  have HN2_3 : Hid (Blk w3 (W.heap.size + 2) 3 #[.int .i64 0]) := Lib.hid (by rw [hw]; exact HN2_2'.out.alloc _)
  rw [show (x2).heap.size = W.heap.size + 3 from HS2'.out]
  have i3 := tab_put2 ((evT W.heap.size).take 2) ⟨#[115, 116, 97, 114, 116]⟩ (.agg #[.int .i64 6, .func (.func 58) #[] #[.pointer (some ⟨W.heap.size + 3, 0, none⟩)]]) hm3 (by kernel_rfl) ((evT W.heap.size).take 3) rfl
  clear hw
  obtain ⟨x3, hx3⟩ : ∃ x, setBlock w3 W.heap.size (.map (ents 0 ((evT W.heap.size).take 3)).toArray ((evT W.heap.size).take 3).length) = x := ⟨_, rfl⟩
  have HB3' : Hid (Below W.heap.size W x3) := Lib.hid (by rw [← hx3]; exact below_setBlock HB3.out (Nat.le_refl _) _)
  have HS3' : Hid (x3.heap.size = W.heap.size + 4) := Lib.hid (by rw [← hx3, size_setBlock]; exact HS3.out)
  have HM3' : Hid (x3.heap[W.heap.size]? = some (.map (ents 0 ((evT W.heap.size).take 3)).toArray ((evT W.heap.size).take 3).length)) := Lib.hid (by rw [← hx3]; exact heap_set_new hm3)
  have HN1_3' : Hid (Blk x3 (W.heap.size + 1) 3 #[.int .i64 2]) := Lib.hid (by rw [← hx3]; exact blk_setBlock HN1_3.out (by omega) _)
  have HN2_3' : Hid (Blk x3 (W.heap.size + 2) 3 #[.int .i64 0]) := Lib.hid (by rw [← hx3]; exact blk_setBlock HN2_3.out (by omega) _)
  have HN3_3' : Hid (Blk x3 (W.heap.size + 3) 3 #[.int .i64 0]) := Lib.hid (by rw [← hx3]; exact blk_setBlock HN3.out (by omega) _)
  rw [hx3] at i3
  clear hx3 hm3
  go_wp2_with fail
  refine (HV.out _ _).mono ?_
  rintro e4 w4 ⟨rfl, hw⟩
  have HB4 : Hid (Below W.heap.size W w4) := Lib.hid (by rw [hw]; exact HB3'.out.alloc HB3'.out.size _)
  have HS4 : Hid (w4.heap.size = W.heap.size + 5) := Lib.hid (by rw [hw, World.size_alloc, HS3'.out])
  have HN4 : Hid (Blk w4 (W.heap.size + 4) 3 #[.int .i64 1]) := Lib.hid (by rw [hw, show W.heap.size + 4 = _ from HS3'.out.symm]; exact Blk.new _ _ _)
  have hm4 : w4.heap[W.heap.size]? = some (.map (ents 0 ((evT W.heap.size).take 3)).toArray ((evT W.heap.size).take 3).length) := by
    rw [hw]; exact (Below.heap_alloc _ _ _ (by rw [HS3'.out]; omega)).trans HM3'.out
  have HN1_4 : Hid (Blk w4 (W.heap.size + 1) 3 #[.int .i64 2]) := Lib.hid (by rw [hw]; exact HN1_3'.out.alloc _)
  have HN2_4 : Hid (Blk w4 (W.heap.size + 2) 3 #[.int .i64 0]) := Lib.hid (by rw [hw]; exact HN2_3'.out.alloc _)
  have HN3_4 : Hid (Blk w4 (W.heap.size + 3) 3 #[.int .i64 0]) := Lib.hid (by rw [hw]; exact HN3_3'.out.alloc _)
  rw [show (x3).heap.size = W.heap.size + 4 from HS3'.out]
  have i4 := tab_put2 ((evT W.heap.size).take 3) ⟨#[114, 101, 97, 100]⟩ (.agg #[.int .i64 7, .func (.func 58) #[] #[.pointer (some ⟨W.heap.size + 4, 0, none⟩)]]) hm4 (by kernel_rfl) ((evT W.heap.size).take 4) rfl
  clear hw
  obtain ⟨x4, hx4⟩ : ∃ x, setBlock w4 W.heap.size (.map (ents 0 ((evT W.heap.size).take 4)).toArray ((evT W.heap.size).take 4).length) = x := ⟨_, rfl⟩
  have HB4' : Hid (Below W.heap.size W x4) := Lib.hid (by rw [← hx4]; exact below_setBlock HB4.out (Nat.le_refl _) _)
  have HS4' : Hid (x4.heap.size = W.heap.size + 5) := Lib.hid (by rw [← hx4, size_setBlock]; exact HS4.out)
  have HM4' : Hid (x4.heap[W.heap.size]? = some (.map (ents 0 ((evT W.heap.size).take 4)).toArray ((evT W.heap.size).take 4).length)) := Lib.hid (by rw [← hx4]; exact heap_set_new hm4)
  have HN1_4' : Hid (Blk x4 (W.heap.size + 1) 3 #[.int .i64 2]) := Lib.hid (by rw [← hx4]; exact blk_setBlock HN1_4.out (by omega) _)
  have HN2_4' : Hid (Blk x4 (W.heap.size + 2) 3 #[.int .i64 0]) := Lib.hid (by rw [← hx4]; exact blk_setBlock HN2_4.out (by omega) _)
  have HN3_4' : Hid (Blk x4 (W.heap.size + 3) 3 #[.int .i64 0]) := Lib.hid (by rw [← hx4]; exact blk_setBlock HN3_4.out (by omega) _)
  have HN4_4' : Hid (Blk x4 (W.heap.size + 4) 3 #[.int .i64 1]) := Lib.hid (by rw [← hx4]; exact blk_setBlock HN4.out (by omega) _)
  rw [hx4] at i4
  clear hx4 hm4
  have i5 := tab_put2 ((evT W.heap.size).take 4) ⟨#[106, 97, 109]⟩ (.agg #[.int .i64 8, .func (.func 59) #[] #[]]) HM4'.out (by kernel_rfl) ((evT W.heap.size).take 5) rfl
  obtain ⟨x5, hx5⟩ : ∃ x, setBlock x4 W.heap.size (.map (ents 0 ((evT W.heap.size).take 5)).toArray ((evT W.heap.size).take 5).length) = x := ⟨_, rfl⟩
  have HB5' : Hid (Below W.heap.size W x5) := Lib.hid (by rw [← hx5]; exact below_setBlock HB4'.out (Nat.le_refl _) _)
  have HM5' : Hid (x5.heap[W.heap.size]? = some (.map (ents 0 ((evT W.heap.size).take 5)).toArray ((evT W.heap.size).take 5).length)) := Lib.hid (by rw [← hx5]; exact heap_set_new HM4'.out)
  have HN1_5' : Hid (Blk x5 (W.heap.size + 1) 3 #[.int .i64 2]) := Lib.hid (by rw [← hx5]; exact blk_setBlock HN1_4'.out (by omega) _)
  have HN2_5' : Hid (Blk x5 (W.heap.size + 2) 3 #[.int .i64 0]) := Lib.hid (by rw [← hx5]; exact blk_setBlock HN2_4'.out (by omega) _)
  have HN3_5' : Hid (Blk x5 (W.heap.size + 3) 3 #[.int .i64 0]) := Lib.hid (by rw [← hx5]; exact blk_setBlock HN3_4'.out (by omega) _)
  have HN4_5' : Hid (Blk x5 (W.heap.size + 4) 3 #[.int .i64 1]) := Lib.hid (by rw [← hx5]; exact blk_setBlock HN4_4'.out (by omega) _)
  rw [hx5] at i5
  clear hx5
  have i6 := tab_put2 ((evT W.heap.size).take 5) ⟨#[114, 101, 112, 108, 97, 121]⟩ (.agg #[.int .i64 9, .func (.func 60) #[] #[]]) HM5'.out (by kernel_rfl) ((evT W.heap.size).take 6) rfl
  obtain ⟨x6, hx6⟩ : ∃ x, setBlock x5 W.heap.size (.map (ents 0 ((evT W.heap.size).take 6)).toArray ((evT W.heap.size).take 6).length) = x := ⟨_, rfl⟩
  have HB6' : Hid (Below W.heap.size W x6) := Lib.hid (by rw [← hx6]; exact below_setBlock HB5'.out (Nat.le_refl _) _)
  have HM6' : Hid (x6.heap[W.heap.size]? = some (.map (ents 0 ((evT W.heap.size).take 6)).toArray ((evT W.heap.size).take 6).length)) := Lib.hid (by rw [← hx6]; exact heap_set_new HM5'.out)
  have HN1_6' : Hid (Blk x6 (W.heap.size + 1) 3 #[.int .i64 2]) := Lib.hid (by rw [← hx6]; exact blk_setBlock HN1_5'.out (by omega) _)
  have HN2_6' : Hid (Blk x6 (W.heap.size + 2) 3 #[.int .i64 0]) := Lib.hid (by rw [← hx6]; exact blk_setBlock HN2_5'.out (by omega) _)
  have HN3_6' : Hid (Blk x6 (W.heap.size + 3) 3 #[.int .i64 0]) := Lib.hid (by rw [← hx6]; exact blk_setBlock HN3_5'.out (by omega) _)
  have HN4_6' : Hid (Blk x6 (W.heap.size + 4) 3 #[.int .i64 1]) := Lib.hid (by rw [← hx6]; exact blk_setBlock HN4_5'.out (by omega) _)
  rw [hx6] at i6
  clear hx6
  have i7 := tab_put2 ((evT W.heap.size).take 6) ⟨#[112, 114, 111, 103, 114, 97, 109]⟩ (.agg #[.int .i64 10, .func (.func 61) #[] #[]]) HM6'.out (by kernel_rfl) ((evT W.heap.size).take 7) rfl
  obtain ⟨x7, hx7⟩ : ∃ x, setBlock x6 W.heap.size (.map (ents 0 ((evT W.heap.size).take 7)).toArray ((evT W.heap.size).take 7).length) = x := ⟨_, rfl⟩
  have HB7' : Hid (Below W.heap.size W x7) := Lib.hid (by rw [← hx7]; exact below_setBlock HB6'.out (Nat.le_refl _) _)
  have HM7' : Hid (x7.heap[W.heap.size]? = some (.map (ents 0 ((evT W.heap.size).take 7)).toArray ((evT W.heap.size).take 7).length)) := Lib.hid (by rw [← hx7]; exact heap_set_new HM6'.out)
  have HN1_7' : Hid (Blk x7 (W.heap.size + 1) 3 #[.int .i64 2]) := Lib.hid (by rw [← hx7]; exact blk_setBlock HN1_6'.out (by omega) _)
  have HN2_7' : Hid (Blk x7 (W.heap.size + 2) 3 #[.int .i64 0]) := Lib.hid (by rw [← hx7]; exact blk_setBlock HN2_6'.out (by omega) _)
  have HN3_7' : Hid (Blk x7 (W.heap.size + 3) 3 #[.int .i64 0]) := Lib.hid (by rw [← hx7]; exact blk_setBlock HN3_6'.out (by omega) _)
  have HN4_7' : Hid (Blk x7 (W.heap.size + 4) 3 #[.int .i64 1]) := Lib.hid (by rw [← hx7]; exact blk_setBlock HN4_6'.out (by omega) _)
  rw [hx7] at i7
  clear hx7
  go_wp2_with fail
  refine bodyPost_ret (v := .map (some W.heap.size)) ?_ rfl ⟨rfl, ⟨HM7'.out, HN1_7'.out, HN2_7'.out, HN3_7'.out, HN4_7'.out⟩, HB7'.out⟩
  simp [results, Tryd.f32]
end Go.Proofs.YtbgekgakamincaaDoor.Ps

/- What ends a command: the deferred closure; the moves' closure. -/
namespace Go.Proofs.YtbgekgakamincaaDoor.Ps
open Go.RowKit Go.Proofs.YtbgekgakamincaaDoor.Lx Go.Proofs.YtbgekgakamincaaDoor.Pr
set_option linter.unusedVariables false

theorem end_panic (c0 c1 : Nat) (x : Value) (y : Value) (p : Nat) (older : List PanicEntry) (w : World) (h0 : w.cell? ⟨c0, 0, none⟩ = some x) (z0 : w.frozen? ⟨c0, 0, none⟩ = false) (h1 : w.cell? ⟨c1, 0, none⟩ = some y) (z1 : w.frozen? ⟨c1, 0, none⟩ = false) (hne : c1 ≠ c0) :
    CallsD Tryd.prog 27 #[.pointer (some ⟨c0, 0, none⟩), .pointer (some ⟨c1, 0, none⟩)] (.panicking ({ v := FV p, recovered := false } :: older)) w fun e u' w' =>
      e = .returned (.tuple #[]) ∧ u' = .panicking ({ v := FV p, recovered := true } :: older) ∧ w' = (w.setCell ⟨c0, 0, none⟩ (.int .i64 (p : Nat))).setCell ⟨c1, 0, none⟩ (.bool false) := by
  have h1' : (w.setCell ⟨c0, 0, none⟩ (.int .i64 (p : Nat))).cell? ⟨c1, 0, none⟩ = some y := by
    rw [World.cell?_setCell_far _ _ _ _ (show c0 ≠ c1 from fun q => hne q.symm)]; exact h1
  have hfd : ∀ w : World, (Instr.field 75 (.agg #[.int .i64 (p : Nat)]) 0).run Tryd.prog w = .ok (.int .i64 (p : Nat)) w := fun w => by kernel_rfl
  have hta : ∀ (v : Value) (w : World), (Instr.typeAssert (.iface 75 v) 20 75 false).run Tryd.prog w = .ok v w := fun v w => by kernel_rfl
  unfold FV
  refine callsD_of_wpS Tryd.func27 rfl fun c₀ cs hu => ?_
  apply wpS_seq
  apply wpS_region
  simp [wpOpsS, go_sem, recoverD, hu, Tryd.ntmps27, Exit.thenS]
  apply wpS_seq
  apply wpS_region
  simp [wpOpsS, go_sem, Exit.thenS, Array.replicate, List.replicate]
  refine wpS_cond (t := true) (by simp [Act.eval]) ?_
  simp only [if_true]
  apply wpS_region
  simp [wpOpsS, go_sem, h0, z0, h1', z1, hfd, hta, bodyPostS, results, Tryd.results27]
theorem end_idle (c0 c1 : Nat) (w : World) :
    CallsD Tryd.prog 27 #[.pointer (some ⟨c0, 0, none⟩), .pointer (some ⟨c1, 0, none⟩)] .returning w fun e u' w' => e = .returned (.tuple #[]) ∧ u' = .returning ∧ w' = w := by
  refine callsD_of_wpS Tryd.func27 rfl fun c₀ cs hu => ?_
  apply wpS_seq
  apply wpS_region
  simp [wpOpsS, go_sem, recoverD, hu, Tryd.ntmps27, Exit.thenS]
  apply wpS_seq
  apply wpS_region
  simp [wpOpsS, go_sem, Exit.thenS, Array.replicate, List.replicate]
  refine wpS_cond (t := false) (by simp [Act.eval]) ?_
  simp only [Bool.false_eq_true, if_false]
  refine wpS_of_wp (wp_skip ?_)
  cases c₀
  simp_all [bodyPostS, results, Tryd.results27]
set_option maxRecDepth 100000 in
set_option maxHeartbeats 2000000 in
theorem e1_val {wP W : World} {rb e n c kb : Nat} {A : Option Addr} {ts : List Tok} {K : Int} {nm : ByteArray} {NV : Value} {ns : List Int} {at_ : Int} (many : Nat) (hmany : many ≤ 2) (hnl : ns.length ≤ 2) (hw : Wf ts) (hkb : Blk W kb 3 #[.int .i64 (many : Nat)]) (hkn : NV.ownBlock ≠ some kb) (h : RS wP rb e A n c ts K nm NV ns at_ W) :
    Calls Tryd.prog 58 #[.pointer (some ⟨rb, 0, none⟩), .pointer (some ⟨kb, 0, none⟩)] W (Post wP rb e ([[110]] ++ rep many) ts K nm NV ns at_ W) := by
  have HQ0 := Lib.hid (name_val hw h)
  have HNE := Lib.hid (blk_ne hkb h.blk (by decide))
  have HKB := Lib.hid hkb
  clear h hkb
  go_enter Tryd.func58, Tryd.ntmps58
  go_wp2_with fail
  refine HQ0.out.mono ?_
  intro e1 w1 hp
  rcases hp.cases (by decide) with ⟨rfl, hm1, A1, n1, c1, nm1, NV1, ns1, hr1, hn1, hg1, hc1⟩ | ⟨p, rfl, hf⟩
  · have hnl1 : ns1.length ≤ 3 := by
      rw [hn1, List.length_append]
      have := nsB_len false ts [[110]]
      simp only [List.length_cons, List.length_nil] at this
      omega
    have c1 := (hg1.blk HKB.out HNE.out (fun q => hkn q.symm)).cell 0
    rw [show (#[Value.int .i64 (many : Nat)] : Array Value)[0]? = some (.int .i64 (many : Nat)) from rfl] at c1
    have HQ1 := Lib.hid (nums_val many (by omega) (by omega) (hw.drop 1) hr1)
    have HC1 := Lib.hid hc1
    clear hm1 hr1 hn1 hg1 hc1 hp
    go_wp2_with fail
    refine HQ1.out.mono ?_
    intro e2 w2 hq
    have HZ := Lib.hid (HC1.out _ _ _ hq)
    rcases hq.cases (rep_last many) with ⟨rfl, _, _⟩ | ⟨p, rfl, hf⟩
    · clear hq
      go_wp2_with fail
      go_end0
      exact HZ.out
    · exact ⟨rfl, HZ.out⟩
  · exact ⟨rfl, hf _⟩
end Go.Proofs.YtbgekgakamincaaDoor.Ps

/- What a command's reading comes to. -/
namespace Go.Proofs.YtbgekgakamincaaDoor.Ps
open Go.RowKit Go.Proofs.YtbgekgakamincaaDoor.Lx Go.Proofs.YtbgekgakamincaaDoor.Pr
set_option linter.unusedVariables false

theorem rd_ok {ts : List Tok} {k : Nat} (h : selB ts = .ok k) (hm : matchB ts (expL k) = (expL k).length) : rdB ts = (some (builtB k ts), (expL k).length) := by
  unfold rdB; rw [h]; simp only [hm, if_true]
theorem rd_no {ts : List Tok} {k : Nat} (h : selB ts = .ok k) (hm : matchB ts (expL k) < (expL k).length) : rdB ts = (none, matchB ts (expL k)) := by
  unfold rdB; rw [h]; simp only; rw [if_neg (by omega)]
theorem rd_err {ts : List Tok} {n : Nat} (h : selB ts = .error n) : rdB ts = (none, n) := by unfold rdB; rw [h]
theorem next_pos (ts : List Tok) (e : Nat) : (nextT ts e).pos = posB ts.head? e := by cases ts <;> rfl
section
variable {wP W W1 W2 : World} {rb e n c : Nat} {A : Option Addr} {ps p1 p2 : List (List UInt8)} {ts : List Tok} {K : Int} {nm : ByteArray} {NV : Value} {ns : List Int} {at_ : Int} {e1 : Ending}
theorem RS.far (h : RS wP rb e A n c ts K nm NV ns at_ W) {p : Addr} (hp : p.block ≠ rb) (hn : NV.ownBlock ≠ some p.block) (hg : wP.heap.size ≤ p.block) (u : Value) : RS wP rb e A n c ts K nm NV ns at_ (W.setCell p u) := by
  refine ⟨h.bel.setCell hg _, h.toks, h.blk.far (Ne.symm hp) u, ?_, h.ge⟩
  exact h.own.kept (row := some p.block) ⟨rfl, rfl, rfl, by rw [World.size_setCell]; exact Nat.le_refl _, fun k hk hr => Below.heap_setCell W p u k (fun q => hr (congrArg some q))⟩ (.inr hn)
theorem RS.fresh (h : RS wP rb e A n c ts K nm NV ns at_ W) (p : Int) :
    RS wP rb e A n c ts 0 ⟨#[]⟩ (.slice none 0 0) [] p ((((W.setCell ⟨rb, 2, none⟩ (.int .i64 0)).setCell ⟨rb, 3, none⟩ (.string ⟨#[]⟩)).setCell ⟨rb, 4, none⟩ (.slice none 0 0)).setCell ⟨rb, 5, none⟩ (.int .i64 p)) ∧
    Gr rb none W ((((W.setCell ⟨rb, 2, none⟩ (.int .i64 0)).setCell ⟨rb, 3, none⟩ (.string ⟨#[]⟩)).setCell ⟨rb, 4, none⟩ (.slice none 0 0)).setCell ⟨rb, 5, none⟩ (.int .i64 p)) := by
  refine ⟨⟨(((h.bel.setCell (p := ⟨rb, 2, none⟩) h.ge _).setCell (p := ⟨rb, 3, none⟩) h.ge _).setCell (p := ⟨rb, 4, none⟩) h.ge _).setCell (p := ⟨rb, 5, none⟩) h.ge _, h.toks, (((h.blk.set_ 2 _).set_ 3 _).set_ 4 _).set_ 5 _, World.ownsRow_nil _ _ _ _, h.ge⟩, ?_⟩
  exact ((((Gr.refl rb none W).setCell (p := ⟨rb, 2, none⟩) (.inl rfl) _).setCell (p := ⟨rb, 3, none⟩) (.inl rfl) _).setCell (p := ⟨rb, 4, none⟩) (.inl rfl) _).setCell (p := ⟨rb, 5, none⟩) (.inl rfl) _
/-- What a part that was read leaves, whatever kind is set behind it. -/
theorem Post.sure (h : Post wP rb e p1 ts K nm NV ns at_ W e1 W1) (hm : matchB ts p1 = p1.length) (hl : p1.getLast? ≠ some [100]) :
    e1 = .returned (.tuple #[]) ∧ ∃ A' n' c' nm' NV' ns', RS wP rb e A' n' c' (ts.drop p1.length) K nm' NV' ns' at_ W1 ∧ ns' = ns ++ nsB false ts p1 ∧ Gr rb NV.ownBlock W W1 ∧ (NV'.ownBlock = NV.ownBlock ∨ ∃ k, NV'.ownBlock = some k ∧ W.heap.size ≤ k) ∧
      (∀ K' e1 W2 p2, Post wP rb e p2 (ts.drop p1.length) K' nm' NV' ns' at_ W1 e1 W2 → Post wP rb e (p1 ++ p2) ts K' nm NV ns at_ W e1 W2) := by
  obtain ⟨A', n', c', nm', NV', ns', h1, h2, h3, h4⟩ := h
  rcases h4 with ⟨h5, rfl, h6, h7⟩ | ⟨h5, _⟩
  · refine ⟨rfl, A', n', c', nm', NV', ns', h5 ▸ h1, h7, h2, h3, fun K' e1 W2 p2 hp => ?_⟩
    obtain ⟨A2, n2, c2, nm2, NV2, ns2, g1, g2, g3, g4⟩ := hp
    have hma : matchB ts (p1 ++ p2) = p1.length + matchB (ts.drop p1.length) p2 := by rw [match_append, if_pos h5]
    have hd : ts.drop (matchB ts (p1 ++ p2)) = (ts.drop p1.length).drop (matchB (ts.drop p1.length) p2) := by rw [hma, List.drop_drop]
    refine ⟨A2, n2, c2, nm2, NV2, ns2, by rw [hd]; exact g1, h2.trans g2 ?_, ?_, ?_⟩
    · rcases h3 with h | ⟨k, h, hk⟩
      · exact .inr (.inl h)
      · exact .inr (.inr ⟨k, h, hk⟩)
    · rcases g3 with g | ⟨k, g, hk⟩
      · rcases h3 with h | ⟨k, h, hk⟩
        · exact .inl (g.trans h)
        · exact .inr ⟨k, g.trans h, hk⟩
      · exact .inr ⟨k, g, Nat.le_trans h2.size hk⟩
    · rcases g4 with ⟨q1, q2, q3, q4⟩ | ⟨q1, q2⟩
      · refine .inl ⟨by rw [hma, q1, List.length_append], q2, ?_, ?_⟩
        · rw [q3, h6, nm_append p1 p2 ts nm h5]
        · rw [q4, h7, ns_append p1 p2 ts false h5 hl (.inl rfl), List.append_assoc]
      · exact .inr ⟨by rw [hma, List.length_append]; omega, by rw [hd]; exact q2⟩
  · omega
/-- Either all is read, or all ends at the first that does not fit. -/
theorem Post.two (h : Post wP rb e p1 ts K nm NV ns at_ W e1 W1) : (matchB ts p1 = p1.length ∧ e1 = .returned (.tuple #[])) ∨ (matchB ts p1 < p1.length ∧ e1 = pvE (nextT (ts.drop (matchB ts p1)) e).pos) := by
  obtain ⟨_, _, _, _, _, _, _, _, _, h4⟩ := h
  rcases h4 with ⟨h5, h6, _⟩ | ⟨h5, h6⟩
  · exact .inl ⟨h5, h6⟩
  · exact .inr ⟨h5, h6⟩
end
/-- What a command comes to: the reader behind it (behind what fits of it). -/
def CmdOut (wP : World) (rb e : Nat) (ts : List Tok) (W : World) (e' : Ending) (w' : World) : Prop :=
  ∃ A' n' c' K' nm' NV' ns' at', RS wP rb e A' n' c' (ts.drop (rdB ts).2) K' nm' NV' ns' at' w' ∧ Gr rb none W w' ∧ (∀ k, NV'.ownBlock = some k → W.heap.size ≤ k) ∧
    match (rdB ts).1 with
    | some c => e' = .returned (.tuple #[.int .i64 0, .bool true]) ∧ K' = (c.kind : Nat) ∧ nm' = c.name ∧ ns' = c.ns ∧ at' = (c.pos : Nat)
    | none => e' = .returned (.tuple #[.int .i64 (posB (ts.drop (rdB ts).2).head? e : Nat), .bool false])
/-- .. while the reader holds it: w2, the world in which the fresh command has been laid. -/
def CmdMid (wP : World) (rb e : Nat) (ts : List Tok) (w2 : World) (p : Option Nat) (w' : World) : Prop :=
  ∃ A' n' c' K' nm' NV' ns' at', RS wP rb e A' n' c' (ts.drop (rdB ts).2) K' nm' NV' ns' at' w' ∧ Gr rb none w2 w' ∧ (∀ k, NV'.ownBlock = some k → w2.heap.size ≤ k) ∧
    match (rdB ts).1 with
    | some c => p = none ∧ K' = (c.kind : Nat) ∧ nm' = c.name ∧ ns' = c.ns ∧ at' = (c.pos : Nat)
    | none => p = some (posB (ts.drop (rdB ts).2).head? e)
def posV : Option Nat → Int
  | none => 0
  | some q => (q : Nat)
def okV : Option Nat → Bool
  | none => true
  | some _ => false
section
variable {wP W w2 w' : World} {rb e : Nat} {ts : List Tok}
theorem mid_done {k : Nat} (hs : selB ts = .ok k) (he : expL k ≠ []) (h : Post wP rb e (expL k) ts (k : Nat) ⟨#[]⟩ (.slice none 0 0) [] ((nextT ts e).pos : Nat) w2 (.returned (.tuple #[])) w') : CmdMid wP rb e ts w2 none w' := by
  obtain ⟨A', n', c', nm', NV', ns', h1, h2, h3, h4⟩ := h
  rcases h4 with ⟨h5, _, h6, h7⟩ | ⟨_, q⟩
  · have hr := rd_ok hs h5
    refine ⟨A', n', c', k, nm', NV', ns', _, by rw [hr]; exact h5 ▸ h1, h2, ?_, ?_⟩
    · rcases h3 with h | ⟨j, h, hj⟩
      · intro j hj; rw [h] at hj; cases hj
      · intro j' hj'; rw [h] at hj'; cases hj'; exact hj
    · rw [hr]
      refine ⟨rfl, rfl, h6, by rw [h7]; rfl, ?_⟩
      show ((nextT ts e).pos : Int) = (posB ts.head? 0 : Nat)
      cases ts with
      | nil =>
        exfalso
        have h8 := (matchB_le [] (expL k)).2
        rw [h5] at h8
        exact he (List.eq_nil_of_length_eq_zero (by simpa using h8))
      | cons t r => rfl
  · cases q
theorem mid_fail {k p : Nat} {K nm NV ns at_} (hs : selB ts = .ok k) (hN : NV = .slice none 0 0) (h : Post wP rb e (expL k) ts K nm NV ns at_ w2 (pvE p) w') : CmdMid wP rb e ts w2 (some p) w' := by
  subst hN
  obtain ⟨A', n', c', nm', NV', ns', h1, h2, h3, h4⟩ := h
  rcases h4 with ⟨_, q, _⟩ | ⟨h5, h6⟩
  · cases q
  · have hr := rd_no hs h5
    refine ⟨A', n', c', K, nm', NV', ns', _, by rw [hr]; exact h1, h2, ?_, ?_⟩
    · rcases h3 with h | ⟨j, h, hj⟩
      · intro j hj; rw [h] at hj; cases hj
      · intro j' hj'; rw [h] at hj'; cases hj'; exact hj
    · rw [hr]
      show some p = some (posB (ts.drop (matchB ts (expL k))).head? e)
      rw [← next_pos]
      have : p = (nextT (ts.drop (matchB ts (expL k))) e).pos := by
        have := h6
        unfold pvE FV at this
        have : (p : Int) = ((nextT (ts.drop (matchB ts (expL k))) e).pos : Nat) := by simpa using this
        omega
      rw [this]
theorem mid_err {m p n c : Nat} {A K nm NV ns at_} (hs : selB ts = .error m) (h : RS wP rb e A n c (ts.drop m) K nm NV ns at_ w') (hg : Gr rb none w2 w') (hn : ∀ k, NV.ownBlock = some k → w2.heap.size ≤ k) (hp : p = (nextT (ts.drop m) e).pos) : CmdMid wP rb e ts w2 (some p) w' := by
  have hr := rd_err hs
  refine ⟨A, n, c, K, nm, NV, ns, at_, by rw [hr]; exact h, hg, hn, ?_⟩
  rw [hr, hp, next_pos]
/-- The cells of the results are laid; what was read stays. -/
theorem CmdMid.out {p : Option Nat} {c0 c1 : Nat} (h : CmdMid wP rb e ts w2 p w') (hW : Gr rb none W w2) (hP : wP.heap.size ≤ W.heap.size) (h0 : W.heap.size ≤ c0) (h1 : W.heap.size ≤ c1) (h02 : c0 < w2.heap.size) (h12 : c1 < w2.heap.size) (hr0 : c0 ≠ rb) (hr1 : c1 ≠ rb) :
    CmdOut wP rb e ts W (.returned (.tuple #[.int .i64 (posV p), .bool (okV p)])) ((w'.setCell ⟨c0, 0, none⟩ (.int .i64 (posV p))).setCell ⟨c1, 0, none⟩ (.bool (okV p))) := by
  obtain ⟨A', n', c', K', nm', NV', ns', at', g1, g2, g3, g4⟩ := h
  refine ⟨A', n', c', K', nm', NV', ns', at', ?_, ?_, fun k hk => Nat.le_trans hW.size (g3 k hk), ?_⟩
  · exact (g1.far (p := ⟨c0, 0, none⟩) hr0 (fun q => by have : w2.heap.size ≤ c0 := g3 _ q; omega) (Nat.le_trans hP h0) _).far (p := ⟨c1, 0, none⟩) hr1 (fun q => by have : w2.heap.size ≤ c1 := g3 _ q; omega) (Nat.le_trans hP h1) _
  · exact ((hW.trans g2 (.inl rfl)).setCell (p := ⟨c0, 0, none⟩) (.inr h0) _).setCell (p := ⟨c1, 0, none⟩) (.inr h1) _
  · cases hc : (rdB ts).1 with
    | some c => rw [hc] at g4; obtain ⟨rfl, g5⟩ := g4; exact ⟨rfl, g5⟩
    | none => rw [hc] at g4; subst g4; rfl
end
end Go.Proofs.YtbgekgakamincaaDoor.Ps

/- The tables' entries, the forms that they lead to. Printed by wip/mk_pssel.py. -/
namespace Go.Proofs.YtbgekgakamincaaDoor.Ps
open Go.RowKit Go.Proofs.YtbgekgakamincaaDoor.Lx Go.Proofs.YtbgekgakamincaaDoor.Pr
set_option linter.unusedVariables false
/-- An entry's function reads the form's middle. -/
def FormAt (wP : World) (rb e m : Nat) (w : World) (v : Value) (k : Nat) (mid : List (List UInt8)) : Prop :=
  ∃ f caps, v = .agg #[.int .i64 (k : Nat), .func (.func f) #[] caps] ∧ (∀ args w, (callFunc f args).run Tryd.prog w = .ok (.enter f args) w) ∧ ∀ W' A n c ts K nm NV ns at_, Gr rb none w W' → (∀ j, NV.ownBlock = some j → j < m) → ns.length ≤ 2 → Wf ts → RS wP rb e A n c ts K nm NV ns at_ W' →
    Calls Tryd.prog f (#[.pointer (some ⟨rb, 0, none⟩)] ++ caps) W' (Post wP rb e mid ts K nm NV ns at_ W')
/-- What a word leads to. -/
def SelAt (T : List (ByteArray × Value)) (tab : List (List UInt8 × Nat)) (pre : List (List UInt8)) (wP : World) (rb e m : Nat) (w : World) (tx : ByteArray) : Prop :=
  (T.find? (fun x => tx == x.1) = none ∧ lookB tab tx.data.toList = none) ∨
  (∃ x k mid, T.find? (fun x => tx == x.1) = some x ∧ lookB tab tx.data.toList = some k ∧ expL k = pre ++ ([tx.data.toList] ++ (mid ++ [[59]])) ∧ tx.data.toList ≠ [35] ∧ tx.data.toList ≠ [110] ∧ tx.data.toList ≠ [100] ∧ tx.data.toList ≠ [] ∧ mid.getLast? ≠ some [100] ∧ FormAt wP rb e m w x.2 k mid)
theorem bne_of {x y : ByteArray} (h : x ≠ y) : (x == y) = false := by
  obtain ⟨a⟩ := x
  obtain ⟨b⟩ := y
  show (a == b) = false
  rw [beq_eq_false_iff_ne]
  exact fun q => h (by rw [q])
theorem ne_list {tx : ByteArray} {s : List UInt8} (h : tx ≠ ⟨s.toArray⟩) : (s == tx.data.toList) = false := by
  rw [beq_eq_false_iff_ne]
  intro q
  refine h ?_
  subst q
  rfl
theorem cmd_sel (wP : World) (rb e m : Nat) (w : World) (tx : ByteArray) : SelAt cmdT cmdTab [] wP rb e m w tx := by
  by_cases h0 : tx = ⟨#[109, 101, 115, 104]⟩
  · subst h0
    refine .inr ⟨_, 1, [[100, 97, 116, 97], [35], [114, 97, 110, 103, 101], [35]], rfl, rfl, expL_1, by decide, by decide, by decide, by decide, by decide, ?_⟩
    exact ⟨50, #[], rfl, fun args w => by kernel_rfl, fun W' A n c ts K nm NV ns at_ _ _ hl hw h => c1_val hl hw h⟩
  by_cases h1 : tx = ⟨#[114, 111, 111, 116]⟩
  · subst h1
    refine .inr ⟨_, 2, [[110], [97, 116], [35], [35]], rfl, rfl, expL_2, by decide, by decide, by decide, by decide, by decide, ?_⟩
    exact ⟨52, #[], rfl, fun args w => by kernel_rfl, fun W' A n c ts K nm NV ns at_ _ _ hl hw h => c2_val hl hw h⟩
  by_cases h2 : tx = ⟨#[110, 111, 100, 101]⟩
  · subst h2
    refine .inr ⟨_, 3, [[110], [97, 116], [35], [35], [100], [35], [98, 97, 116, 116, 101, 114, 121], [35]], rfl, rfl, expL_3, by decide, by decide, by decide, by decide, by decide, ?_⟩
    exact ⟨54, #[], rfl, fun args w => by kernel_rfl, fun W' A n c ts K nm NV ns at_ _ _ hl hw h => c3_val hl hw h⟩
  by_cases h3 : tx = ⟨#[114, 117, 110]⟩
  · subst h3
    refine .inr ⟨_, 11, [[35]], rfl, rfl, expL_11, by decide, by decide, by decide, by decide, by decide, ?_⟩
    exact ⟨56, #[], rfl, fun args w => by kernel_rfl, fun W' A n c ts K nm NV ns at_ _ _ hl hw h => c4_val hl hw h⟩
  refine .inl ⟨?_, ?_⟩
  · simp only [cmdT, List.find?_cons, List.find?_nil, bne_of h0, bne_of h1, bne_of h2, bne_of h3]
  · unfold lookB cmdTab
    simp only [List.find?_cons, List.find?_nil, ne_list (s := [109, 101, 115, 104]) h0, ne_list (s := [114, 111, 111, 116]) h1, ne_list (s := [110, 111, 100, 101]) h2, ne_list (s := [114, 117, 110]) h3]
    rfl
theorem ev_sel (wP : World) (rb e m : Nat) (w : World) (hT : EvTab m w) (hrb : rb < m) (tx : ByteArray) : SelAt (evT m) evTab [[97, 116], [35]] wP rb e m w tx := by
  by_cases h0 : tx = ⟨#[109, 111, 118, 101]⟩
  · subst h0
    refine .inr ⟨_, 4, [[110], [35], [35]], rfl, rfl, expL_4, by decide, by decide, by decide, by decide, by decide, ?_⟩
    refine ⟨58, #[.pointer (some ⟨m + 1, 0, none⟩)], rfl, fun args w => by kernel_rfl, fun W' A n c ts K nm NV ns at_ hg hn hl hw h => ?_⟩
    have hk := hg.blk hT.b1 (by omega) (by simp)
    exact e1_val 2 (by omega) hl hw hk (fun q => by have := hn _ q; omega) h
  by_cases h1 : tx = ⟨#[102, 97, 105, 108]⟩
  · subst h1
    refine .inr ⟨_, 5, [[110]], rfl, rfl, expL_5, by decide, by decide, by decide, by decide, by decide, ?_⟩
    refine ⟨58, #[.pointer (some ⟨m + 2, 0, none⟩)], rfl, fun args w => by kernel_rfl, fun W' A n c ts K nm NV ns at_ hg hn hl hw h => ?_⟩
    have hk := hg.blk hT.b2 (by omega) (by simp)
    exact e1_val 0 (by omega) hl hw hk (fun q => by have := hn _ q; omega) h
  by_cases h2 : tx = ⟨#[115, 116, 97, 114, 116]⟩
  · subst h2
    refine .inr ⟨_, 6, [[110]], rfl, rfl, expL_6, by decide, by decide, by decide, by decide, by decide, ?_⟩
    refine ⟨58, #[.pointer (some ⟨m + 3, 0, none⟩)], rfl, fun args w => by kernel_rfl, fun W' A n c ts K nm NV ns at_ hg hn hl hw h => ?_⟩
    have hk := hg.blk hT.b3 (by omega) (by simp)
    exact e1_val 0 (by omega) hl hw hk (fun q => by have := hn _ q; omega) h
  by_cases h3 : tx = ⟨#[114, 101, 97, 100]⟩
  · subst h3
    refine .inr ⟨_, 7, [[110], [35]], rfl, rfl, expL_7, by decide, by decide, by decide, by decide, by decide, ?_⟩
    refine ⟨58, #[.pointer (some ⟨m + 4, 0, none⟩)], rfl, fun args w => by kernel_rfl, fun W' A n c ts K nm NV ns at_ hg hn hl hw h => ?_⟩
    have hk := hg.blk hT.b4 (by omega) (by simp)
    exact e1_val 1 (by omega) hl hw hk (fun q => by have := hn _ q; omega) h
  by_cases h4 : tx = ⟨#[106, 97, 109]⟩
  · subst h4
    refine .inr ⟨_, 8, [[35], [35], [114, 97, 100, 105, 117, 115], [35], [99, 104, 97, 110, 110, 101, 108], [35], [102, 111, 114], [35]], rfl, rfl, expL_8, by decide, by decide, by decide, by decide, by decide, ?_⟩
    exact ⟨59, #[], rfl, fun args w => by kernel_rfl, fun W' A n c ts K nm NV ns at_ _ _ hl hw h => e2_val hl hw h⟩
  by_cases h5 : tx = ⟨#[114, 101, 112, 108, 97, 121]⟩
  · subst h5
    refine .inr ⟨_, 9, [[35], [97, 116], [35], [35]], rfl, rfl, expL_9, by decide, by decide, by decide, by decide, by decide, ?_⟩
    exact ⟨60, #[], rfl, fun args w => by kernel_rfl, fun W' A n c ts K nm NV ns at_ _ _ hl hw h => e3_val hl hw h⟩
  by_cases h6 : tx = ⟨#[112, 114, 111, 103, 114, 97, 109]⟩
  · subst h6
    refine .inr ⟨_, 10, [[35], [115, 105, 122, 101], [35]], rfl, rfl, expL_10, by decide, by decide, by decide, by decide, by decide, ?_⟩
    exact ⟨61, #[], rfl, fun args w => by kernel_rfl, fun W' A n c ts K nm NV ns at_ _ _ hl hw h => e4_val hl hw h⟩
  refine .inl ⟨?_, ?_⟩
  · simp only [evT, List.find?_cons, List.find?_nil, bne_of h0, bne_of h1, bne_of h2, bne_of h3, bne_of h4, bne_of h5, bne_of h6]
  · unfold lookB evTab
    simp only [List.find?_cons, List.find?_nil, ne_list (s := [109, 111, 118, 101]) h0, ne_list (s := [102, 97, 105, 108]) h1, ne_list (s := [115, 116, 97, 114, 116]) h2, ne_list (s := [114, 101, 97, 100]) h3, ne_list (s := [106, 97, 109]) h4, ne_list (s := [114, 101, 112, 108, 97, 121]) h5, ne_list (s := [112, 114, 111, 103, 114, 97, 109]) h6]
    rfl
end Go.Proofs.YtbgekgakamincaaDoor.Ps

/- The door of the reader's command: what the deferred closure leaves. -/
namespace Go.Proofs.YtbgekgakamincaaDoor.Ps
open Go.RowKit Go.Proofs.YtbgekgakamincaaDoor.Lx Go.Proofs.YtbgekgakamincaaDoor.Pr
set_option linter.unusedVariables false

section
variable {wP W w2 w' : World} {rb e : Nat} {ts : List Tok}
theorem res_run (t0 t1 : Value) (l : List Value) (c0 c1 : Nat) (x y : Value) (w : World) (hx : w.cell? ⟨c0, 0, none⟩ = some x) (hy : w.cell? ⟨c1, 0, none⟩ = some y) :
    (results Tryd.f17 (t0 :: t1 :: .pointer (some ⟨c0, 0, none⟩) :: .pointer (some ⟨c1, 0, none⟩) :: l).toArray).run Tryd.prog w = .ok (.tuple #[x, y]) w := by
  simp [results, Tryd.f17, go_sem, hx, hy]
theorem door_panic {p : Nat} (hm : CmdMid wP rb e ts w2 (some p) w') (hG : Gr rb none W w2) (hP : wP.heap.size ≤ W.heap.size) (hrb : rb < W.heap.size) {x y : Value} (h0 : Blk w2 W.heap.size 3 #[x]) (h1 : Blk w2 (W.heap.size + 1) 4 #[y]) (t0 t1 : Value) (l : List Value) :
    Leaves Tryd.prog Tryd.f17 (t0 :: t1 :: .pointer (some ⟨W.heap.size, 0, none⟩) :: .pointer (some ⟨W.heap.size + 1, 0, none⟩) :: l).toArray (CmdOut wP rb e ts W)
      [{ target := .fn (.func 27) #[.pointer (some ⟨W.heap.size, 0, none⟩), .pointer (some ⟨W.heap.size + 1, 0, none⟩)], args := #[] }] (.panicking [{ v := FV p, recovered := false }]) w' := by
  obtain ⟨A', n', c', K', nm', NV', ns', at', g1, g2, g3, g4⟩ := hm
  have b0 := g2.blk h0 (by omega) (by simp)
  have b1 := g2.blk h1 (by omega) (by simp)
  have hz := CmdMid.out ⟨A', n', c', K', nm', NV', ns', at', g1, g2, g3, g4⟩ hG hP (Nat.le_refl _) (Nat.le_succ _) h0.lt h1.lt (by omega) (by omega)
  have b0' := b0.set_ 0 (.int .i64 (posV (some p)))
  have b0'' := b0'.far (p := ⟨W.heap.size + 1, 0, none⟩) (show W.heap.size ≠ W.heap.size + 1 by omega) (.bool (okV (some p)))
  have b1' := (b1.far (p := ⟨W.heap.size, 0, none⟩) (show W.heap.size + 1 ≠ W.heap.size by omega) (.int .i64 (posV (some p)))).set_ 0 (.bool (okV (some p)))
  refine leaves_cons (f := 27) (args := #[.pointer (some ⟨W.heap.size, 0, none⟩), .pointer (some ⟨W.heap.size + 1, 0, none⟩)]) (by simp) (by simp [go_sem]) ?_
  refine (end_panic W.heap.size (W.heap.size + 1) x y p [] w' (b0.cell 0) (b0.frozen 0) (b1.cell 0) (b1.frozen 0) (by omega)).mono ?_
  rintro e' u' w'' ⟨rfl, rfl, rfl⟩
  exact ⟨_, res_run t0 t1 l _ _ _ _ _ (b0''.cell 0) (b1'.cell 0), hz⟩
theorem door_done {wd : World} (hm : CmdMid wP rb e ts w2 none w') (hG : Gr rb none W w2) (hP : wP.heap.size ≤ W.heap.size) (hrb : rb < W.heap.size) {x y : Value} (h0 : Blk w2 W.heap.size 3 #[x]) (h1 : Blk w2 (W.heap.size + 1) 4 #[y]) (t0 t1 : Value) (l : List Value)
    (hw : wd = (w'.setCell ⟨W.heap.size, 0, none⟩ (.int .i64 0)).setCell ⟨W.heap.size + 1, 0, none⟩ (.bool true)) :
    Leaves Tryd.prog Tryd.f17 (t0 :: t1 :: .pointer (some ⟨W.heap.size, 0, none⟩) :: .pointer (some ⟨W.heap.size + 1, 0, none⟩) :: l).toArray (CmdOut wP rb e ts W)
      [{ target := .fn (.func 27) #[.pointer (some ⟨W.heap.size, 0, none⟩), .pointer (some ⟨W.heap.size + 1, 0, none⟩)], args := #[] }] .returning wd := by
  subst hw
  obtain ⟨A', n', c', K', nm', NV', ns', at', g1, g2, g3, g4⟩ := hm
  have b0 := g2.blk h0 (by omega) (by simp)
  have b1 := g2.blk h1 (by omega) (by simp)
  have hz := CmdMid.out ⟨A', n', c', K', nm', NV', ns', at', g1, g2, g3, g4⟩ hG hP (Nat.le_refl _) (Nat.le_succ _) h0.lt h1.lt (by omega) (by omega)
  have b0' := b0.set_ 0 (.int .i64 (posV none))
  have b0'' := b0'.far (p := ⟨W.heap.size + 1, 0, none⟩) (show W.heap.size ≠ W.heap.size + 1 by omega) (.bool (okV none))
  have b1' := (b1.far (p := ⟨W.heap.size, 0, none⟩) (show W.heap.size + 1 ≠ W.heap.size by omega) (.int .i64 (posV none))).set_ 0 (.bool (okV none))
  refine leaves_cons (f := 27) (args := #[.pointer (some ⟨W.heap.size, 0, none⟩), .pointer (some ⟨W.heap.size + 1, 0, none⟩)]) (by simp) (by simp [go_sem]) ?_
  refine (end_idle W.heap.size (W.heap.size + 1) _).mono ?_
  rintro e' u' w'' ⟨rfl, rfl, rfl⟩
  exact ⟨_, res_run t0 t1 l _ _ _ _ _ (b0''.cell 0) (b1'.cell 0), hz⟩
end
end Go.Proofs.YtbgekgakamincaaDoor.Ps

/- The reader's command walked. Printed by wip/mk_pscmd.py. -/
namespace Go.Proofs.YtbgekgakamincaaDoor.Ps
open Go.RowKit Go.Proofs.YtbgekgakamincaaDoor.Lx Go.Proofs.YtbgekgakamincaaDoor.Pr
set_option linter.unusedVariables false

theorem next_word {ts : List Tok} {e : Nat} {t : Tok} (h : nextT ts e = t) (hw : Wf ts) (h0 : t.text.data.toList ≠ []) : ∃ r, ts = t :: r ∧ t.kind ≠ 2 := by
  cases ts with
  | nil => subst h; exact absurd rfl h0
  | cons t' r =>
    obtain rfl : t' = t := h
    exact ⟨r, rfl, fun q => h0 ((hw _ (List.mem_cons_self ..)).w2 q)⟩
theorem fits_self {t : Tok} (hk : t.kind ≠ 2) (h35 : t.text.data.toList ≠ [35]) (h110 : t.text.data.toList ≠ [110]) (h100 : t.text.data.toList ≠ [100]) : fitsB t t.text.data.toList = true := by
  unfold fitsB
  rw [if_neg h35, if_neg h110, if_neg h100, decide_eq_true hk, beq_self_eq_true]
  rfl
theorem EvTab.up {m : Nat} {w w' : World} (h : EvTab m w) (hb : Below w.heap.size w w') : EvTab m w' :=
  ⟨(hb.block _ (Array.getElem?_eq_some_iff.1 h.tab).1).trans h.tab, h.b1.up' hb, h.b2.up' hb, h.b3.up' hb, h.b4.up' hb⟩
theorem post_cons {wP W W1 W2 : World} {rb e : Nat} {p : List UInt8} {p2 : List (List UInt8)} {t : Tok} {r : List Tok} {K : Int} {nm : ByteArray} {NV : Value} {ns : List Int} {at_ : Int} {e1 : Ending} (hf : fitsB t p = true) (h35 : p ≠ [35]) (h110 : p ≠ [110]) (h100 : p ≠ [100]) (hg : Gr rb none W W1) (h : Post wP rb e p2 r K nm NV ns at_ W1 e1 W2) :
    Post wP rb e ([p] ++ p2) (t :: r) K nm NV ns at_ W e1 W2 := by
  obtain ⟨A', n', c', nm', NV', ns', h1, h2, h3, h4⟩ := h
  have hm : matchB (t :: r) ([p] ++ p2) = matchB r p2 + 1 := by simp only [List.singleton_append, matchB]; rw [if_pos hf, Nat.add_comm]
  have hn : nsB false (t :: r) ([p] ++ p2) = nsB false r p2 := by simp only [List.singleton_append, nsB]; rw [if_neg h35, decide_eq_false h100, Bool.false_and]
  have hk : nmB nm (t :: r) ([p] ++ p2) = nmB nm r p2 := by simp only [List.singleton_append, nmB]; rw [if_neg h110]
  refine ⟨A', n', c', nm', NV', ns', by rw [hm, List.drop_succ_cons]; exact h1, hg.more.trans h2 (.inr (.inl rfl)), ?_, ?_⟩
  · rcases h3 with h | ⟨k, h, hk⟩
    · exact .inl h
    · exact .inr ⟨k, h, Nat.le_trans hg.size hk⟩
  · rw [hm, hn, hk, List.drop_succ_cons]
    rcases h4 with ⟨a, b, c, d⟩ | ⟨a, b⟩
    · exact .inl ⟨by rw [a, List.length_append, List.length_singleton, Nat.add_comm], b, c, d⟩
    · exact .inr ⟨by rw [List.length_append, List.length_singleton]; omega, b⟩
theorem sel_none {ts : List Tok} (h : txtB ts.head? ≠ bAt) (hl : lookB cmdTab (txtB ts.head?) = none) : selB ts = .error 0 := by
  unfold selB
  rw [if_neg h, hl]
theorem sel_some {ts : List Tok} {k : Nat} (h : txtB ts.head? ≠ bAt) (hl : lookB cmdTab (txtB ts.head?) = some k) : selB ts = .ok k := by
  unfold selB
  rw [if_neg h, hl]
set_option maxRecDepth 100000 in
set_option maxHeartbeats 4000000 in
theorem command_val {wP W : World} {rb e n c : Nat} {A : Option Addr} {ts : List Tok} {K : Int} {nm : ByteArray} {NV : Value} {ns : List Int} {at_ : Int} (hw : Wf ts) (h : RS wP rb e A n c ts K nm NV ns at_ W) :
    Calls Tryd.prog 17 #[.pointer (some ⟨rb, 0, none⟩)] W (CmdOut wP rb e ts W) := by
  have hmf := hmf
  have HWP : Hid (wP.heap.size ≤ W.heap.size) := Lib.hid h.bel.size
  have HRW : Hid (rb < W.heap.size) := Lib.hid h.blk.lt
  have hb1 : Below W.heap.size W ((W.alloc (.cells #[.int .i64 0] 3)).alloc (.cells #[.bool false] 4)) := ((Below.refl _ _).alloc (Nat.le_refl _) _).alloc (by simp) _
  have hr0 := h.up hb1
  have HN := Lib.hid (next_val hr0)
  obtain ⟨⟨tk, tx, tn, tp⟩, ht⟩ : ∃ t, nextT ts e = t := ⟨_, rfl⟩
  have htx : txtB ts.head? = tx.data.toList := (show txtB ts.head? = (nextT ts e).text.data.toList from by cases ts <;> rfl).trans (by rw [ht])
  rw [ht] at HN
  unfold tokA at HN
  dsimp only at HN
  obtain ⟨v, hv0⟩ : ∃ v, (tx.data.toList == bAt) = v := ⟨_, rfl⟩
  have hv : (tx.toList == [97, 116]) = v := by rw [Lib.toList_data]; exact hv0
  have BC0 : Hid (Blk ((W.alloc (.cells #[.int .i64 0] 3)).alloc (.cells #[.bool false] 4)) W.heap.size 3 #[.int .i64 0]) := Lib.hid ((Blk.new W _ _).alloc _)
  have BC1 : Hid (Blk ((W.alloc (.cells #[.int .i64 0] 3)).alloc (.cells #[.bool false] 4)) (W.heap.size + 1) 4 #[.bool false]) := Lib.hid (by have := Blk.new (W.alloc (.cells #[.int .i64 0] 3)) 4 #[.bool false]; rwa [World.size_alloc] at this)
  have HR0 := Lib.hid hr0
  have HB1 := Lib.hid hb1
  have hfd3 := tok_f3 (.int .i64 (tk : Nat)) (.string tx) (.int .i64 (tn : Nat)) (.int .i64 (tp : Nat))
  have hfd1 := tok_f1 (.int .i64 (tk : Nat)) (.string tx) (.int .i64 (tn : Nat)) (.int .i64 (tp : Nat))
  clear h hb1 hr0
  go_enter_defers Tryd.func17, Tryd.ntmps17
  go_wp2_with fail
  refine HN.out.mono ?_
  rintro e1 w1 ⟨rfl, hw1⟩
  have hb1 : Below ((W.alloc (.cells #[.int .i64 0] 3)).alloc (.cells #[.bool false] 4)).heap.size ((W.alloc (.cells #[.int .i64 0] 3)).alloc (.cells #[.bool false] 4)) w1 := by rw [hw1]; exact (Below.refl _ _).alloc (Nat.le_refl _) _
  have HR1 := Lib.hid (HR0.out.up hb1)
  have HG1 : Hid (Gr rb none W w1) := Lib.hid (Gr.of_below (below_trans' HB1.out hb1))
  have BD0 := Lib.hid (BC0.out.up' hb1)
  have BD1 := Lib.hid (BC1.out.up' hb1)
  clear hw1 hb1 HN BC0 BC1 HR0 HB1
  have y2 : w1.cell? ⟨rb, 2, none⟩ = some (.int .i64 K) := HR1.out.blk.cell 2
  have y3 : w1.cell? ⟨rb, 3, none⟩ = some (.string nm) := HR1.out.blk.cell 3
  have y4 : w1.cell? ⟨rb, 4, none⟩ = some NV := HR1.out.blk.cell 4
  have y5 : w1.cell? ⟨rb, 5, none⟩ = some (.int .i64 at_) := HR1.out.blk.cell 5
  have z2 := HR1.out.blk.frozen 2
  have z3 := HR1.out.blk.frozen 3
  have z4 := HR1.out.blk.frozen 4
  have z5 := HR1.out.blk.frozen 5
  go_wp2_with fail
  have hf2 := HR1.out.fresh (tp : Nat)
  have HR2 := Lib.hid hf2.1
  have HG2 := Lib.hid (HG1.out.trans hf2.2 (.inl rfl))
  have q0 : W.heap.size ≠ rb := by have := HRW.out; omega
  have q1 : W.heap.size + 1 ≠ rb := by have := HRW.out; omega
  have BE0 := Lib.hid ((((BD0.out.far (p := ⟨rb, 2, none⟩) q0 (.int .i64 0)).far (p := ⟨rb, 3, none⟩) q0 (.string ⟨#[]⟩)).far (p := ⟨rb, 4, none⟩) q0 (.slice none 0 0)).far (p := ⟨rb, 5, none⟩) q0 (.int .i64 (tp : Nat)))
  have BE1 := Lib.hid ((((BD1.out.far (p := ⟨rb, 2, none⟩) q1 (.int .i64 0)).far (p := ⟨rb, 3, none⟩) q1 (.string ⟨#[]⟩)).far (p := ⟨rb, 4, none⟩) q1 (.slice none 0 0)).far (p := ⟨rb, 5, none⟩) q1 (.int .i64 (tp : Nat)))
  obtain ⟨w2, hw2⟩ : ∃ w2, (((w1.setCell ⟨rb, 2, none⟩ (.int .i64 0)).setCell ⟨rb, 3, none⟩ (.string ⟨#[]⟩)).setCell ⟨rb, 4, none⟩ (.slice none 0 0)).setCell ⟨rb, 5, none⟩ (.int .i64 (tp : Nat)) = w2 := ⟨_, rfl⟩
  rw [hw2] at HR2 HG2 BE0 BE1 ⊢
  clear hw2 hf2 y2 y3 y4 y5 z2 z3 z4 z5 HR1 HG1 BD0 BD1 q0 q1
  have HFP : Hid (∀ p w', CmdMid wP rb e ts w2 (some p) w' → ∀ t0 t1 l, Leaves Tryd.prog Tryd.f17 (t0 :: t1 :: .pointer (some ⟨W.heap.size, 0, none⟩) :: .pointer (some ⟨W.heap.size + 1, 0, none⟩) :: l).toArray (CmdOut wP rb e ts W)
      [{ target := .fn (.func 27) #[.pointer (some ⟨W.heap.size, 0, none⟩), .pointer (some ⟨W.heap.size + 1, 0, none⟩)], args := #[] }] (.panicking [{ v := FV p, recovered := false }]) w') := Lib.hid (fun p w' hm t0 t1 l => door_panic hm HG2.out HWP.out HRW.out BE0.out BE1.out t0 t1 l)
  have HFD : Hid (∀ wd w', CmdMid wP rb e ts w2 none w' → wd = (w'.setCell ⟨W.heap.size, 0, none⟩ (.int .i64 0)).setCell ⟨W.heap.size + 1, 0, none⟩ (.bool true) → ∀ t0 t1 l, Leaves Tryd.prog Tryd.f17 (t0 :: t1 :: .pointer (some ⟨W.heap.size, 0, none⟩) :: .pointer (some ⟨W.heap.size + 1, 0, none⟩) :: l).toArray (CmdOut wP rb e ts W)
      [{ target := .fn (.func 27) #[.pointer (some ⟨W.heap.size, 0, none⟩), .pointer (some ⟨W.heap.size + 1, 0, none⟩)], args := #[] }] .returning wd) := Lib.hid (fun wd w' hm hwd t0 t1 l => door_done hm HG2.out HWP.out HRW.out BE0.out BE1.out t0 t1 l hwd)
  refine (commands_val w2).mono ?_
  rintro e3 w3 ⟨rfl, hw3⟩
  have hb3 : Below w2.heap.size w2 w3 := by rw [hw3]; exact (Below.refl _ _).alloc (Nat.le_refl _) _
  have hT3 : w3.heap[w2.heap.size]? = some (.map (ents 0 cmdT).toArray 4) := by rw [hw3]; exact heap_alloc_new w2 _
  have HR3 := Lib.hid (HR2.out.up hb3)
  have HB3 := Lib.hid hb3
  have HT3 := Lib.hid hT3
  have HN3 := Lib.hid (next_val (HR2.out.up hb3))
  rw [ht] at HN3
  unfold tokA at HN3
  dsimp only at HN3
  clear hb3 hT3 hw3
  go_wp2_with fail
  refine HN3.out.mono ?_
  rintro e4 w4 ⟨rfl, hw4⟩
  have hb4 : Below w3.heap.size w3 w4 := by rw [hw4]; exact (Below.refl _ _).alloc (Nat.le_refl _) _
  have HR4 := Lib.hid (HR3.out.up hb4)
  have HB4 := Lib.hid (below_trans' HB3.out hb4)
  have HT4 : Hid (w4.heap[w2.heap.size]? = some (.map (ents 0 cmdT).toArray 4)) := Lib.hid ((hb4.block _ (Array.getElem?_eq_some_iff.1 HT3.out).1).trans HT3.out)
  clear hw4 hb4 HR3 HB3 HT3 HN3
  cases v with
  | false =>
    have hat : txtB ts.head? ≠ bAt := by rw [htx]; exact beq_eq_false_iff_ne.1 hv0
    have HN4 := Lib.hid (next_val HR4.out)
    rw [ht] at HN4
    unfold tokA at HN4
    dsimp only at HN4
    go_wp2_with fail
    refine HN4.out.mono ?_
    rintro e5 w5 ⟨rfl, hw5⟩
    have hb5 : Below w4.heap.size w4 w5 := by rw [hw5]; exact (Below.refl _ _).alloc (Nat.le_refl _) _
    have HR5 := Lib.hid (HR4.out.up hb5)
    have HB5 := Lib.hid (below_trans' HB4.out hb5)
    have hT5 : w5.heap[w2.heap.size]? = some (.map (ents 0 cmdT).toArray 4) := (hb5.block _ (Array.getElem?_eq_some_iff.1 HT4.out).1).trans HT4.out
    have hlk := tab_look cmdT tx hT5
    have hsel := cmd_sel wP rb e w2.heap.size w5 tx
    clear hw5 hb5 HR4 HB4 HT4 HN4 hT5
    rcases hsel with ⟨hf, hlook⟩ | ⟨⟨kw, xv⟩, k, mid, hf, hlook, hexp, h35, h110, h100, h0, hml, f, caps, hx, hcf, hcall⟩
    · rw [hf] at hlk
      dsimp only at hlk
      go_wp2_with fail
      have hb6 : Below w5.heap.size w5 (w5.alloc (.cells #[.int .i64 0, .nilFunc] 83)) := (Below.refl _ _).alloc (Nat.le_refl _) _
      refine (need_no (HR5.out.up hb6)).mono ?_
      rintro e6 w6 ⟨rfl, hb7⟩
      have hsl := sel_none hat (by rw [htx]; exact hlook)
      have hb8 := below_trans' HB5.out (below_trans' hb6 hb7)
      exact HFP.out _ _ (mid_err hsl (HR2.out.up hb8) (Gr.of_below hb8) (fun k hk => by cases hk) rfl) _ _ _
    · rw [hf] at hlk
      obtain rfl : xv = _ := hx
      dsimp only at hlk
      obtain ⟨r, hts, hk2⟩ := next_word ht hw h0
      have hwr : Wf r := Wf.tail (by rw [← hts]; exact hw)
      have hsl := sel_some hat (by rw [htx]; exact hlook)
      go_wp2_with fail
      have b6 := Blk.new w5 83 #[.int .i64 (k : Nat), .func (.func f) #[] caps]
      have hb6 : Below w5.heap.size w5 (w5.alloc (.cells #[.int .i64 (k : Nat), .func (.func f) #[] caps] 83)) := (Below.refl _ _).alloc (Nat.le_refl _) _
      have hrs := HR5.out.up hb6
      rw [hts] at hrs
      refine (need_ok hrs).mono ?_
      rintro eA vA ⟨rfl, hr6, hg6⟩
      have hrb5 : rb < w5.heap.size := HR5.out.blk.lt
      have b7 := hg6.blk b6 (by omega) (by simp)
      have x0 : vA.cell? ⟨w5.heap.size, 0, none⟩ = some (.int .i64 (k : Nat)) := b7.cell 0
      have y0 : vA.cell? ⟨rb, 2, none⟩ = some (.int .i64 0) := hr6.blk.cell 2
      have z0 : vA.frozen? ⟨rb, 2, none⟩ = false := hr6.blk.frozen 2
      have x1 : (vA.setCell ⟨rb, 2, none⟩ (.int .i64 (k : Nat))).cell? ⟨w5.heap.size, 1, none⟩ = some (.func (.func f) #[] caps) := (b7.far (p := ⟨rb, 2, none⟩) (show w5.heap.size ≠ rb by omega) (.int .i64 (k : Nat))).cell 1
      have g6 : Gr rb none w5 (vA.setCell ⟨rb, 2, none⟩ (.int .i64 (k : Nat))) := ((Gr.of_below hb6 (r2 := none)).trans hg6 (.inl rfl)).setCell (.inl rfl) _
      have gS : Gr rb none w2 (vA.setCell ⟨rb, 2, none⟩ (.int .i64 (k : Nat))) := (Gr.of_below HB5.out : Gr rb none w2 w5).trans g6 (.inl rfl)
      have HR8 := Lib.hid (hr6.kindS (k : Nat))
      have HCL := Lib.hid (hcall _ _ _ _ _ _ _ _ _ _ g6 (fun j hj => by cases hj) (by simp) hwr HR8.out)
      have HPC : Hid (∀ p2 e1 W2, Post wP rb e p2 r (k : Nat) ⟨#[]⟩ (.slice none 0 0) [] (tp : Nat) (vA.setCell ⟨rb, 2, none⟩ (.int .i64 (k : Nat))) e1 W2 → Post wP rb e ([] ++ ([tx.data.toList] ++ p2)) ts (k : Nat) ⟨#[]⟩ (.slice none 0 0) [] (tp : Nat) w2 e1 W2) := Lib.hid (fun p2 e1 W2 q => (by rw [hts]; exact post_cons (fits_self (t := ⟨tk, tx, tn, tp⟩) hk2 h35 h110 h100) h35 h110 h100 gS q))
      have HX := Lib.hid hexp
      have HSL := Lib.hid hsl
      clear hb6 b6 b7 hrs hr6 hg6 g6 gS hcall hlk hexp hsl hts HR5
      go_wp2_with fail
      clear x0 y0 z0 x1
      refine HCL.out.mono ?_
      intro eB vB hp
      rcases hp.two with ⟨hm, rfl⟩ | ⟨hm, rfl⟩
      · obtain ⟨_, A9, n9, c9, nm9, NV9, ns9, hr9, _, _, _, hc9⟩ := hp.sure hm hml
        have HW := Lib.hid (word_val [59] (by decide) (by decide) (by decide) (by decide) (hwr.drop _) hr9)
        have HC9 := Lib.hid hc9
        clear hr9 hc9 hp
        go_wp2_with fail
        refine HW.out.mono ?_
        intro eC vC hq
        have hz := HPC.out _ _ _ (HC9.out _ _ _ _ hq)
        rw [← HX.out] at hz
        rcases hq.two with ⟨_, rfl⟩ | ⟨_, rfl⟩
        · have hmd := mid_done HSL.out (by rw [HX.out]; simp) (by rw [ht]; exact hz)
          have hgz : Gr rb none w2 vC := by
            obtain ⟨_, _, _, _, _, _, _, _, _, q, _⟩ := hmd
            exact q
          have k0 := hgz.blk BE0.out (by have := HRW.out; omega) (by simp)
          have k1 := hgz.blk BE1.out (by have := HRW.out; omega) (by simp)
          have k1' := (k1.far (p := ⟨W.heap.size, 0, none⟩) (show W.heap.size + 1 ≠ W.heap.size by omega) (.int .i64 0))
          have u0 : vC.cell? ⟨W.heap.size, 0, none⟩ = some (.int .i64 0) := k0.cell 0
          have u1 : vC.frozen? ⟨W.heap.size, 0, none⟩ = false := k0.frozen 0
          have u2 : (vC.setCell ⟨W.heap.size, 0, none⟩ (.int .i64 0)).cell? ⟨W.heap.size + 1, 0, none⟩ = some (.bool false) := k1'.cell 0
          have u3 : vC.frozen? ⟨W.heap.size + 1, 0, none⟩ = false := k1.frozen 0
          have HD := Lib.hid hmd
          clear hq hz hmd hgz k0 k1 k1'
          go_wp2_with fail
          exact HFD.out _ _ HD.out rfl _ _ _
        · exact HFP.out _ _ (mid_fail HSL.out rfl hz) _ _ _
      · have hz := HPC.out _ _ _ (hp.fail (p2 := [[59]]) hm)
        rw [← HX.out] at hz
        exact HFP.out _ _ (mid_fail HSL.out rfl hz) _ _ _
  | true =>
    have hat : txtB ts.head? = bAt := by rw [htx]; exact beq_iff_eq.1 hv0
    obtain ⟨r0, hts, hk2⟩ := next_word ht hw (by rw [beq_iff_eq.1 hv0]; decide)
    have hm1 : matchB ts [[97, 116]] = [[(97 : UInt8), 116]].length := by
      have hfa : fitsB ⟨tk, tx, tn, tp⟩ [97, 116] = true := by
        have := fits_self (t := ⟨tk, tx, tn, tp⟩) hk2 (by rw [beq_iff_eq.1 hv0]; decide) (by rw [beq_iff_eq.1 hv0]; decide) (by rw [beq_iff_eq.1 hv0]; decide)
        rw [show Tok.text ⟨tk, tx, tn, tp⟩ = tx from rfl, beq_iff_eq.1 hv0] at this
        exact this
      rw [hts]
      simp only [matchB]
      rw [if_pos hfa]
      rfl
    have HM1 := Lib.hid hm1
    have HAT := Lib.hid hat
    have HQ4 := Lib.hid (word_val [97, 116] (by decide) (by decide) (by decide) (by decide) hw HR4.out)
    clear hts hk2 hat hm1 HT4
    go_wp2_with fail
    refine HQ4.out.mono ?_
    intro e5 w5 hp5
    obtain ⟨rfl, A5, n5, c5, nm5, NV5, ns5, hr5, hn5, _, _, hc5⟩ := hp5.sure HM1.out (by decide)
    have hnl5 : ns5.length ≤ 1 := by
      rw [hn5, List.length_append]
      have := nsB_len false ts [[97, 116]]
      simp only [List.length_cons, List.length_nil] at this ⊢
      omega
    have HQ5 := Lib.hid (nums_val 1 (by omega) (by omega) (hw.drop _) hr5)
    have HC5 := Lib.hid hc5
    clear hr5 hn5 hc5 hp5 HQ4
    go_wp2_with fail
    refine HQ5.out.mono ?_
    intro e6 w6 hp6
    have hp6' := (HC5.out _ _ _ _ hp6).start (Gr.of_below HB4.out)
    have hmm : matchB ts ([[97, 116]] ++ rep 1) = 1 + matchB (ts.drop 1) [[35]] := by rw [match_append, if_pos HM1.out]; rfl
    rcases hp6.two.symm with ⟨hm6, rfl⟩ | ⟨hm6, rfl⟩
    · obtain ⟨A6, n6, c6, nm6, NV6, ns6, hr6, hg6, hv6, h6⟩ := hp6'
      have hz : matchB (ts.drop 1) [[35]] = 0 := by
        have : matchB (ts.drop 1) [[35]] < 1 := hm6
        omega
      rw [hmm, hz] at hr6
      have hsl : selB ts = .error 1 := by
        unfold selB
        rw [if_pos HAT.out]
        refine if_neg (fun q => ?_)
        have hg1 : ∃ t1 r1, ts.drop 1 = t1 :: r1 ∧ t1.kind = 2 := by
          cases hq : ts.drop 1 with
          | nil => rw [← List.head?_drop, hq] at q; cases q
          | cons t1 r1 => rw [← List.head?_drop, hq] at q; exact ⟨t1, r1, rfl, by simpa using q⟩
        obtain ⟨t1, r1, hq, hk1⟩ := hg1
        rw [hq] at hz
        have hft : fitsB t1 [35] = true := by unfold fitsB; rw [if_pos rfl]; exact decide_eq_true hk1
        simp only [matchB] at hz
        rw [if_pos hft] at hz
        omega
      refine HFP.out _ _ (mid_err hsl hr6 hg6 (fun k hk => ?_) ?_) _ _ _
      · rcases hv6 with h | ⟨j, h, hj⟩
        · rw [h] at hk; cases hk
        · rw [h] at hk; cases hk; exact hj
      · show (nextT ((ts.drop 1).drop (matchB (ts.drop 1) (rep 1))) e).pos = (nextT (ts.drop 1) e).pos
        rw [show matchB (ts.drop 1) (rep 1) = 0 from hz]
        rfl
    · have hm2 : matchB ts ([[97, 116]] ++ rep 1) = ([[97, 116]] ++ rep 1).length := by rw [hmm, show matchB (ts.drop 1) [[35]] = 1 from hm6]; rfl
      have hk1 : (ts[1]?.map (·.kind)) = some 2 := by
        have hm6' : matchB (ts.drop 1) [[35]] = 1 := hm6
        rw [← List.head?_drop]
        cases hq : ts.drop 1 with
        | nil => rw [hq] at hm6'; cases hm6'
        | cons t1 r1 =>
          rw [hq] at hm6'
          simp only [matchB] at hm6'
          by_cases hft : fitsB t1 [35] = true
          · unfold fitsB at hft
            rw [if_pos rfl, decide_eq_true_eq] at hft
            show some t1.kind = some 2
            rw [hft]
          · rw [if_neg hft] at hm6'; omega
      obtain ⟨_, A6, n6, c6, nm6, NV6, ns6, hr6, hn6, hg6, hv6, hc6⟩ := hp6'.sure hm2 (by decide)
      have hnl6 : ns6.length ≤ 2 := by
        rw [hn6, List.length_append]
        have := nsB_len false ts ([[97, 116]] ++ rep 1)
        have h2 : ([[97, 116]] ++ rep 1).length = 2 := rfl
        rw [h2] at this
        simp only [List.length_nil]
        omega
      have hnb : ∀ j, NV6.ownBlock = some j → j < w6.heap.size := fun j hj => (own_block hr6.own j hj).2
      have HNV : Hid (∀ k, NV6.ownBlock = some k → w2.heap.size ≤ k) := Lib.hid (fun k hk => by
        rcases hv6 with h | ⟨j, h, hj⟩
        · rw [h] at hk; cases hk
        · rw [h] at hk; cases hk; exact hj)
      have HNB := Lib.hid hnb
      have HR6 := Lib.hid hr6
      have HG6 := Lib.hid hg6
      have HK1 := Lib.hid hk1
      have HC6 : Hid (∀ K' e1 W2 p2, Post wP rb e p2 (ts.drop 2) K' nm6 NV6 ns6 (tp : Nat) w6 e1 W2 → Post wP rb e ([[97, 116], [35]] ++ p2) ts K' ⟨#[]⟩ (.slice none 0 0) [] (tp : Nat) w2 e1 W2) := Lib.hid hc6
      have hrb6 : rb < w6.heap.size := hr6.blk.lt
      have HRB6 := Lib.hid hrb6
      clear hm6 hm2 hk1 hr6 hn6 hg6 hv6 hc6 hnb hrb6 hp6 hp6' hmm HC5 HQ5
      go_wp2_with fail
      refine (events_val w6).mono ?_
      rintro e7 w7 ⟨rfl, hT7, hb7⟩
      obtain ⟨⟨uk, ux, un, up⟩, hu⟩ : ∃ t, nextT (ts.drop 2) e = t := ⟨_, rfl⟩
      have hux : txtB ts[2]? = ux.data.toList := by
        rw [← List.head?_drop]
        exact (show txtB (ts.drop 2).head? = (nextT (ts.drop 2) e).text.data.toList from by cases ts.drop 2 <;> rfl).trans (by rw [hu])
      have HR7 : Hid (RS wP rb e A6 n6 c6 (ts.drop 2) 0 nm6 NV6 ns6 (tp : Nat) w7) := Lib.hid (HR6.out.up hb7)
      have HN7 := Lib.hid (next_val HR7.out)
      rw [hu] at HN7
      unfold tokA at HN7
      dsimp only at HN7
      have HT7 := Lib.hid hT7
      have HB7 := Lib.hid hb7
      have hfe1 := tok_f1 (.int .i64 (uk : Nat)) (.string ux) (.int .i64 (un : Nat)) (.int .i64 (up : Nat))
      clear hT7 hb7 hfd1 hfd3
      go_wp2_with fail
      refine HN7.out.mono ?_
      rintro e8 w8 ⟨rfl, hw8⟩
      have hb8 : Below w7.heap.size w7 w8 := by rw [hw8]; exact (Below.refl _ _).alloc (Nat.le_refl _) _
      have HR8' := Lib.hid (HR7.out.up hb8)
      have HB8 := Lib.hid (below_trans' HB7.out hb8)
      have HT8 : Hid (EvTab w6.heap.size w8) := Lib.hid (HT7.out.up hb8)
      have hlk := tab_look (evT w6.heap.size) ux HT8.out.tab
      have hsel := ev_sel wP rb e w6.heap.size w8 HT8.out HRB6.out ux
      clear hw8 hb8 HN7 HR7 HB7 HT7
      rcases hsel with ⟨hf, hlook⟩ | ⟨⟨kw, xv⟩, k, mid, hf, hlook, hexp, h35, h110, h100, h0, hml, f, caps, hx, hcf, hcall⟩
      · rw [hf] at hlk
        dsimp only at hlk
        go_wp2_with fail
        have hb9 : Below w8.heap.size w8 (w8.alloc (.cells #[.int .i64 0, .nilFunc] 83)) := (Below.refl _ _).alloc (Nat.le_refl _) _
        refine (need_no (HR8'.out.up hb9)).mono ?_
        rintro e9 w9 ⟨rfl, hb10⟩
        have hsl : selB ts = .error 2 := by
          unfold selB
          rw [if_pos HAT.out, if_pos HK1.out, hux, hlook]
        have hb11 := below_trans' HB8.out (below_trans' hb9 hb10)
        exact HFP.out _ _ (mid_err hsl (HR6.out.up hb11) (HG6.out.trans (Gr.of_below hb11) (.inl rfl)) HNV.out rfl) _ _ _
      · rw [hf] at hlk
        obtain rfl : xv = _ := hx
        dsimp only at hlk
        obtain ⟨r, hts, hk2⟩ := next_word hu (hw.drop 2) h0
        have hwr : Wf r := Wf.tail (by rw [← hts]; exact hw.drop 2)
        have hsl : selB ts = .ok k := by
          unfold selB
          rw [if_pos HAT.out, if_pos HK1.out, hux, hlook]
        go_wp2_with fail
        have b6 := Blk.new w8 83 #[.int .i64 (k : Nat), .func (.func f) #[] caps]
        have hb6 : Below w8.heap.size w8 (w8.alloc (.cells #[.int .i64 (k : Nat), .func (.func f) #[] caps] 83)) := (Below.refl _ _).alloc (Nat.le_refl _) _
        have hrs := HR8'.out.up hb6
        rw [hts] at hrs
        refine (need_ok hrs).mono ?_
        rintro eA vA ⟨rfl, hr6, hg6⟩
        have hrb5 : rb < w8.heap.size := HR8'.out.blk.lt
        have b7 := hg6.blk b6 (by omega) (by simp)
        have x0 : vA.cell? ⟨w8.heap.size, 0, none⟩ = some (.int .i64 (k : Nat)) := b7.cell 0
        have y0 : vA.cell? ⟨rb, 2, none⟩ = some (.int .i64 0) := hr6.blk.cell 2
        have z0 : vA.frozen? ⟨rb, 2, none⟩ = false := hr6.blk.frozen 2
        have x1 : (vA.setCell ⟨rb, 2, none⟩ (.int .i64 (k : Nat))).cell? ⟨w8.heap.size, 1, none⟩ = some (.func (.func f) #[] caps) := (b7.far (p := ⟨rb, 2, none⟩) (show w8.heap.size ≠ rb by omega) (.int .i64 (k : Nat))).cell 1
        have g6 : Gr rb none w8 (vA.setCell ⟨rb, 2, none⟩ (.int .i64 (k : Nat))) := ((Gr.of_below hb6 (r2 := none)).trans hg6 (.inl rfl)).setCell (.inl rfl) _
        have gS : Gr rb none w6 (vA.setCell ⟨rb, 2, none⟩ (.int .i64 (k : Nat))) := (Gr.of_below HB8.out : Gr rb none w6 w8).trans g6 (.inl rfl)
        have HR8 := Lib.hid (hr6.kindS (k : Nat))
        have HCL := Lib.hid (hcall _ _ _ _ _ _ _ _ _ _ g6 HNB.out (by omega) hwr HR8.out)
        have HPC : Hid (∀ p2 e1 W2, Post wP rb e p2 r (k : Nat) nm6 NV6 ns6 (tp : Nat) (vA.setCell ⟨rb, 2, none⟩ (.int .i64 (k : Nat))) e1 W2 → Post wP rb e ([[97, 116], [35]] ++ ([ux.data.toList] ++ p2)) ts (k : Nat) ⟨#[]⟩ (.slice none 0 0) [] (tp : Nat) w2 e1 W2) := Lib.hid (fun p2 e1 W2 q => HC6.out _ _ _ _ (by rw [hts]; exact post_cons (fits_self (t := ⟨uk, ux, un, up⟩) hk2 h35 h110 h100) h35 h110 h100 gS q))
        have HX := Lib.hid hexp
        have HSL := Lib.hid hsl
        clear hb6 b6 b7 hrs hr6 hg6 g6 gS hcall hlk hexp hsl hts HR8'
        go_wp2_with fail
        clear x0 y0 z0 x1
        refine HCL.out.mono ?_
        intro eB vB hp
        rcases hp.two with ⟨hm, rfl⟩ | ⟨hm, rfl⟩
        · obtain ⟨_, A9, n9, c9, nm9, NV9, ns9, hr9, _, _, _, hc9⟩ := hp.sure hm hml
          have HW := Lib.hid (word_val [59] (by decide) (by decide) (by decide) (by decide) (hwr.drop _) hr9)
          have HC9 := Lib.hid hc9
          clear hr9 hc9 hp
          go_wp2_with fail
          refine HW.out.mono ?_
          intro eC vC hq
          have hz := HPC.out _ _ _ (HC9.out _ _ _ _ hq)
          rw [← HX.out] at hz
          rcases hq.two with ⟨_, rfl⟩ | ⟨_, rfl⟩
          · have hmd := mid_done HSL.out (by rw [HX.out]; simp) (by rw [ht]; exact hz)
            have hgz : Gr rb none w2 vC := by
              obtain ⟨_, _, _, _, _, _, _, _, _, q, _⟩ := hmd
              exact q
            have k0 := hgz.blk BE0.out (by have := HRW.out; omega) (by simp)
            have k1 := hgz.blk BE1.out (by have := HRW.out; omega) (by simp)
            have k1' := (k1.far (p := ⟨W.heap.size, 0, none⟩) (show W.heap.size + 1 ≠ W.heap.size by omega) (.int .i64 0))
            have u0 : vC.cell? ⟨W.heap.size, 0, none⟩ = some (.int .i64 0) := k0.cell 0
            have u1 : vC.frozen? ⟨W.heap.size, 0, none⟩ = false := k0.frozen 0
            have u2 : (vC.setCell ⟨W.heap.size, 0, none⟩ (.int .i64 0)).cell? ⟨W.heap.size + 1, 0, none⟩ = some (.bool false) := k1'.cell 0
            have u3 : vC.frozen? ⟨W.heap.size + 1, 0, none⟩ = false := k1.frozen 0
            have HD := Lib.hid hmd
            clear hq hz hmd hgz k0 k1 k1'
            go_wp2_with fail
            exact HFD.out _ _ HD.out rfl _ _ _
          · exact HFP.out _ _ (mid_fail HSL.out rfl hz) _ _ _
        · have hz := HPC.out _ _ _ (hp.fail (p2 := [[59]]) hm)
          rw [← HX.out] at hz
          exact HFP.out _ _ (mid_fail HSL.out rfl hz) _ _ _
end Go.Proofs.YtbgekgakamincaaDoor.Ps

/- The next semicolon. -/
namespace Go.Proofs.YtbgekgakamincaaDoor.Ps
open Go.RowKit Go.Proofs.YtbgekgakamincaaDoor.Lx Go.Proofs.YtbgekgakamincaaDoor.Pr
set_option linter.unusedVariables false

set_option maxRecDepth 100000 in
theorem semi_val (t : Tok) (W : World) :
    Calls Tryd.prog 19 #[.agg (tokA t)] W fun e w' => e = .returned (.bool (t.text.data.toList == [59])) ∧ Below W.heap.size W w' := by
  obtain ⟨tk, tx, tn, tp⟩ := t
  unfold tokA
  dsimp only
  obtain ⟨v, hv0⟩ : ∃ v, (tx.data.toList == [59]) = v := ⟨_, rfl⟩
  have hv : (tx.toList == [59]) = v := by rw [Lib.toList_data]; exact hv0
  rw [hv0]
  have BT := Lib.hid (Blk.new W 45 #[.int .i64 (tk : Nat), .string tx, .int .i64 (tn : Nat), .int .i64 (tp : Nat)])
  have c1 := BT.out.cell 1
  rw [show (#[Value.int .i64 (tk : Nat), .string tx, .int .i64 (tn : Nat), .int .i64 (tp : Nat)] : Array Value)[1]? = some (.string tx) from rfl] at c1
  have HB : Hid (Below W.heap.size W (W.alloc (.cells #[.int .i64 (tk : Nat), .string tx, .int .i64 (tn : Nat), .int .i64 (tp : Nat)] 45))) := Lib.hid ((Below.refl _ _).alloc (Nat.le_refl _) _)
  go_enter Tryd.func19, Tryd.ntmps19
  go_wp2_with fail
  go_ret
  exact ⟨rfl, HB.out⟩
/-- The index of the next semicolon; -1. -/
def semiI (ts : List Tok) : Int := match ts.findIdx? (fun t => t.text.data.toList == [59]) with | some k => (k : Nat) | none => -1
set_option maxRecDepth 100000 in
set_option maxHeartbeats 1000000 in
theorem idx_val (A : Option Addr) (n c : Nat) (ts : List Tok) (w : World) (h : Toks w A n c ts) :
    Calls Tryd.prog 18 #[.slice A n c, .func (.func 19) #[] #[]] w fun e w' => e = .returned (.int .i64 (semiI ts)) ∧ Below w.heap.size w w' := by
  have hnm : n ≤ 9223372036854775807 := Nat.le_trans h.2.2.1 (Nat.le_trans h.2.2.2 (by decide))
  have HI := Lib.hid h
  have HN := Lib.hid h.2.1
  clear h
  go_enter Tryd.func18, Tryd.ntmps18
  go_wp2_with fail
  go_loopw [8] (fun i wr => ∃ k : Nat, k ≤ n ∧ i = i64 (k : Nat) ∧ Hid (semiI ts = match (ts.drop k).findIdx? (fun t => t.text.data.toList == [59]) with | some j => ((k + j : Nat) : Int) | none => -1) ∧ Below w.heap.size w wr) (fun i _ => n - (intOf i).toNat)
  case atStart => exact ⟨0, Nat.zero_le _, rfl, Lib.hid (by unfold semiI; rw [List.drop_zero]; cases ts.findIdx? (fun t => t.text.data.toList == [59]) <;> simp), Below.refl _ _⟩
  case round =>
    obtain ⟨k, hk, rfl, HG, hB⟩ := hrel
    have HB := Lib.hid hB
    clear hB
    by_cases hlt : k < n
    · have hlt' : (k : Int) < (n : Int) := by omega
      have hkl : k < ts.length := by rw [HN.out]; exact hlt
      obtain ⟨b, off, rfl, hb, hc⟩ := rd_el (dec := decT) (s := 4) (fun _ => rfl) (HI.out.up HB.out).1 HN.out hkl
      have hg := HG.out
      rw [List.drop_eq_getElem_cons hkl, List.findIdx?_cons] at hg
      have HV := Lib.hid (semi_val ts[k])
      obtain ⟨⟨tk, tx, tn, tp⟩, hx⟩ : ∃ x, ts[k] = x := ⟨_, rfl⟩
      rw [hx] at hc hg HV
      have c0 := hc 0 _ rfl
      have c1 := hc 1 _ rfl
      have c2 := hc 2 _ rfl
      have c3 := hc 3 _ rfl
      rw [Nat.add_zero] at c0
      unfold tokA at HV
      dsimp only at c0 c1 c2 c3 HV hg
      obtain ⟨v, hv⟩ : ∃ v, (tx.data.toList == [59]) = v := ⟨_, rfl⟩
      rw [hv] at hg HV
      have HG2 := Lib.hid hg
      clear hlt hb hc hx hv hg hkl
      cases v with
      | false =>
        go_wp2_with fail
        refine (HV.out _).mono ?_
        rintro e w1 ⟨rfl, hb1⟩
        have HB1 := Lib.hid (below_trans' HB.out hb1)
        clear hb1
        go_wp2_with fail
        case roundEnd =>
          refine ⟨⟨k + 1, by omega, rfl, Lib.hid (HG2.out.trans ?_), HB1.out⟩, ?_⟩
          · cases (ts.drop (k + 1)).findIdx? (fun t => t.text.data.toList == [59]) with
            | none => rfl
            | some j => show ((k + (j + 1) : Nat) : Int) = ((k + 1 + j : Nat) : Int); omega
          · simp only [intOf]; omega
      | true =>
        go_wp2_with fail
        refine (HV.out _).mono ?_
        rintro e w1 ⟨rfl, hb1⟩
        have HB1 := Lib.hid (below_trans' HB.out hb1)
        clear hb1
        go_wp2_with fail
        go_ret
        refine ⟨?_, HB1.out⟩
        rw [HG2.out]
        rfl
    · have hlt' : ¬ (k : Int) < (n : Int) := by omega
      obtain rfl : k = n := by omega
      have hg := HG.out
      rw [List.drop_of_length_le (by rw [HN.out]; exact Nat.le_refl _)] at hg
      have HG2 := Lib.hid hg
      clear hg
      go_wp2_with fail
      go_ret
      refine ⟨?_, HB.out⟩
      rw [HG2.out]
      rfl
end Go.Proofs.YtbgekgakamincaaDoor.Ps
