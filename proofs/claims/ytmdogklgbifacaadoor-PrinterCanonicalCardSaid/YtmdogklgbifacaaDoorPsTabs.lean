/- commands, events: the tables of forms. -/
import Derived.ChangeMaps4
import Derived.Carry
import Derived.Test.YtmdogklgbifacaaDoorPsForms
namespace Go.Proofs.YtmdogklgbifacaaDoor.Ps
open Go.RowKit Go.Proofs.YtmdogklgbifacaaDoor.Lx Go.Proofs.YtmdogklgbifacaaDoor.Pr Go.ChangeMaps
set_option linter.unusedVariables false
theorem hmf (fn : Fn) (first cap : Array Value) (w : World) : (Instr.makeFunc fn first cap).run Tryd.prog w = .ok (.func fn first cap) w := rfl
/-- A table's entries, from the i-th on. -/
def ents : Nat → List (ByteArray × Value) → List MapEntry
  | _, [] => []
  | i, (k, v) :: r => { key := .string k, val := v, born := i } :: ents (i + 1) r
theorem ents_append : ∀ (T : List (ByteArray × Value)) (i : Nat) (x : ByteArray × Value), ents i (T ++ [x]) = ents i T ++ [{ key := .string x.1, val := x.2, born := i + T.length }]
  | [], i, x => rfl
  | y :: T, i, x => by
    simp only [List.cons_append, ents, List.length_cons]
    rw [ents_append T (i + 1) x, show i + (T.length + 1) = i + 1 + T.length by omega]
theorem find_ents (s : ByteArray) : ∀ (T : List (ByteArray × Value)) (i j : Nat), match T.find? (fun x => s == x.1) with
    | some x => ∃ j', Instr.findNow .string (.string s) (ents i T) j = some (some (j', x.2))
    | none => Instr.findNow .string (.string s) (ents i T) j = some none
  | [], i, j => rfl
  | (k, v) :: T, i, j => by
    rw [List.find?_cons]
    by_cases h : s == k
    · rw [h]
      exact ⟨j, by simp only [ents, Instr.findNow, Instr.sameNow]; rw [h]⟩
    · have h' : (s == k) = false := by simpa using h
      rw [h']
      have := find_ents s T (i + 1) (j + 1)
      simp only [ents, Instr.findNow, Instr.sameNow]
      rw [h']
      exact this
/-- A new entry. -/
theorem tab_insert {w : World} {m : Nat} (T : List (ByteArray × Value)) (k : ByteArray) (v : Value) (hb : w.heap[m]? = some (.map (ents 0 T).toArray T.length)) (hk : T.find? (fun x => k == x.1) = none) :
    (Instr.mapUpdate 93 (.map (some m)) (.string k) v).run Tryd.prog w = .ok () (setBlock w m (.map (ents 0 (T ++ [(k, v)])).toArray (T ++ [(k, v)]).length)) := by
  have h1 := find_ents k T 0 0
  rw [hk] at h1
  have he : (ents 0 (T ++ [(k, v)])).toArray = (ents 0 T).toArray.push { key := .string k, val := v, born := T.length } := by
    rw [ents_append]
    simp
  rw [he, List.length_append]
  simp [Instr.mapUpdate, run_underlying Tryd.underlying93, MapKept.run_getObj_map hb, MapKept.run_checkKey Tryd.underlying9 (show MapKept.IsKey .string (.string k) from trivial), MapKept.run_findKey Tryd.underlying9 h1, MapKept.run_setObj_map _ hb, Result.andThen, setBlock]
/-- A look-up. -/
theorem tab_look {w : World} {m c : Nat} (T : List (ByteArray × Value)) (k : ByteArray) (hb : w.heap[m]? = some (.map (ents 0 T).toArray c)) :
    (Instr.lookup 93 (.map (some m)) (.string k) true).run Tryd.prog w = .ok (match T.find? (fun x => k == x.1) with | some x => .tuple #[x.2, .bool true] | none => .tuple #[.agg #[.int .i64 0, .nilFunc], .bool false]) w := by
  have h1 := find_ents k T 0 0
  cases hf : T.find? (fun x => k == x.1) with
  | none =>
    rw [hf] at h1
    simp [Instr.lookup, run_underlying Tryd.underlying93, MapKept.run_getObj_map hb, MapKept.run_checkKey Tryd.underlying9 (show MapKept.IsKey .string (.string k) from trivial), MapKept.run_findKey Tryd.underlying9 h1, Result.andThen]
  | some x =>
    rw [hf] at h1
    obtain ⟨j', h1⟩ := h1
    simp [Instr.lookup, run_underlying Tryd.underlying93, MapKept.run_getObj_map hb, MapKept.run_checkKey Tryd.underlying9 (show MapKept.IsKey .string (.string k) from trivial), MapKept.run_findKey Tryd.underlying9 h1, Result.andThen]
/-- The table of commands. -/
def cmdT : List (ByteArray × Value) := [(⟨#[109, 101, 115, 104]⟩, .agg #[.int .i64 1, .func (.func 74) #[] #[]]), (⟨#[114, 111, 111, 116]⟩, .agg #[.int .i64 2, .func (.func 76) #[] #[]]), (⟨#[110, 111, 100, 101]⟩, .agg #[.int .i64 3, .func (.func 78) #[] #[]]), (⟨#[114, 117, 110]⟩, .agg #[.int .i64 11, .func (.func 80) #[] #[]])]
theorem heap_set_new {w : World} {m : Nat} {o o' : Obj} (h : w.heap[m]? = some o) : (setBlock w m o').heap[m]? = some o' := (MapKept.heap_set (o' := o') h).1
theorem set_new (W : World) (o o' : Obj) : setBlock (W.alloc o) W.heap.size o' = W.alloc o' := by
  unfold setBlock World.alloc
  congr 1
  apply Array.ext'
  simp [Array.toList_setIfInBounds, List.set_append_right]
theorem tab_put (W : World) (T : List (ByteArray × Value)) (k : ByteArray) (v : Value) (hk : T.find? (fun x => k == x.1) = none) (T' : List (ByteArray × Value)) (hT : T ++ [(k, v)] = T') :
    (Instr.mapUpdate 93 (.map (some W.heap.size)) (.string k) v).run Tryd.prog (W.alloc (.map (ents 0 T).toArray T.length)) = .ok () (W.alloc (.map (ents 0 T').toArray T'.length)) := by
  have := tab_insert T k v (heap_alloc_new W _) hk
  rw [set_new, hT] at this
  exact this
set_option maxRecDepth 100000 in
set_option maxHeartbeats 2000000 in
theorem commands_val (W : World) :
    Calls Tryd.prog 54 #[] W (fun e w' => e = .returned (.map (some W.heap.size)) ∧ w' = W.alloc (.map (ents 0 cmdT).toArray 4)) := by
  have hmm := @run_makeMap Tryd.prog
  obtain ⟨E1, hE1⟩ : ∃ E, (ents 0 (cmdT.take 1)).toArray = E := ⟨_, rfl⟩
  have i0 : (Instr.mapUpdate 93 (.map (some W.heap.size)) (.string ⟨#[109, 101, 115, 104]⟩) (.agg #[.int .i64 1, .func (.func 74) #[] #[]])).run Tryd.prog (W.alloc (.map #[] 0)) = .ok () (W.alloc (.map E1 1)) := by rw [← hE1]; exact tab_put W (cmdT.take 0) _ _ (by kernel_rfl) (cmdT.take 1) rfl
  obtain ⟨E2, hE2⟩ : ∃ E, (ents 0 (cmdT.take 2)).toArray = E := ⟨_, rfl⟩
  have i1 : (Instr.mapUpdate 93 (.map (some W.heap.size)) (.string ⟨#[114, 111, 111, 116]⟩) (.agg #[.int .i64 2, .func (.func 76) #[] #[]])).run Tryd.prog (W.alloc (.map E1 1)) = .ok () (W.alloc (.map E2 2)) := by rw [← hE2, ← hE1]; exact tab_put W (cmdT.take 1) _ _ (by kernel_rfl) (cmdT.take 2) rfl
  obtain ⟨E3, hE3⟩ : ∃ E, (ents 0 (cmdT.take 3)).toArray = E := ⟨_, rfl⟩
  have i2 : (Instr.mapUpdate 93 (.map (some W.heap.size)) (.string ⟨#[110, 111, 100, 101]⟩) (.agg #[.int .i64 3, .func (.func 78) #[] #[]])).run Tryd.prog (W.alloc (.map E2 2)) = .ok () (W.alloc (.map E3 3)) := by rw [← hE3, ← hE2]; exact tab_put W (cmdT.take 2) _ _ (by kernel_rfl) (cmdT.take 3) rfl
  obtain ⟨E4, hE4⟩ : ∃ E, (ents 0 (cmdT.take 4)).toArray = E := ⟨_, rfl⟩
  have i3 : (Instr.mapUpdate 93 (.map (some W.heap.size)) (.string ⟨#[114, 117, 110]⟩) (.agg #[.int .i64 11, .func (.func 80) #[] #[]])).run Tryd.prog (W.alloc (.map E3 3)) = .ok () (W.alloc (.map E4 4)) := by rw [← hE4, ← hE3]; exact tab_put W (cmdT.take 3) _ _ (by kernel_rfl) (cmdT.take 4) rfl
  have hz : (ents 0 cmdT).toArray = E4 := hE4
  rw [hz]
  clear hE1 hE2 hE3 hE4 hz
  go_enter Tryd.func54, Tryd.ntmps54
  go_wp2_with fail
  refine bodyPost_ret (v := .map (some W.heap.size)) ?_ rfl ⟨rfl, rfl⟩
  simp [results, Tryd.f54]
/-- The table of events; the boxes of the counts lie behind the table. -/
def evT (m : Nat) : List (ByteArray × Value) := [(⟨#[109, 111, 118, 101]⟩, (.agg #[.int .i64 4, .func (.func 82) #[] #[.pointer (some ⟨m + 1, 0, none⟩)]])), (⟨#[102, 97, 105, 108]⟩, (.agg #[.int .i64 5, .func (.func 82) #[] #[.pointer (some ⟨m + 2, 0, none⟩)]])), (⟨#[115, 116, 97, 114, 116]⟩, (.agg #[.int .i64 6, .func (.func 82) #[] #[.pointer (some ⟨m + 3, 0, none⟩)]])), (⟨#[114, 101, 97, 100]⟩, (.agg #[.int .i64 7, .func (.func 82) #[] #[.pointer (some ⟨m + 4, 0, none⟩)]])), (⟨#[106, 97, 109]⟩, (.agg #[.int .i64 8, .func (.func 83) #[] #[]])), (⟨#[114, 101, 112, 108, 97, 121]⟩, (.agg #[.int .i64 9, .func (.func 84) #[] #[]])), (⟨#[112, 114, 111, 103, 114, 97, 109]⟩, (.agg #[.int .i64 10, .func (.func 85) #[] #[]]))]
set_option maxRecDepth 100000 in
theorem ev1_val (W : World) (many : Int) :
    Calls Tryd.prog 81 #[.int .i64 many] W (fun e w' => e = .returned (.func (.func 82) #[] #[.pointer (some ⟨W.heap.size, 0, none⟩)]) ∧ w' = W.alloc (.cells #[.int .i64 many] 3)) := by
  have hmf := hmf
  go_enter Tryd.func81, Tryd.ntmps81
  go_wp2_with fail
  refine bodyPost_ret (v := .func (.func 82) #[] #[.pointer (some ⟨W.heap.size, 0, none⟩)]) ?_ rfl ⟨rfl, rfl⟩
  simp [results, Tryd.f81]
theorem tab_put2 {w : World} {m : Nat} (T : List (ByteArray × Value)) (k : ByteArray) (v : Value) (hb : w.heap[m]? = some (.map (ents 0 T).toArray T.length)) (hk : T.find? (fun x => k == x.1) = none) (T' : List (ByteArray × Value)) (hT : T ++ [(k, v)] = T') :
    (Instr.mapUpdate 93 (.map (some m)) (.string k) v).run Tryd.prog w = .ok () (setBlock w m (.map (ents 0 T').toArray T'.length)) := by
  have := tab_insert T k v hb hk
  rwa [hT] at this
theorem size_setBlock (w : World) (m : Nat) (o : Obj) : (setBlock w m o).heap.size = w.heap.size := by simp [setBlock]
theorem below_setBlock {B : Nat} {W w : World} {m : Nat} (h : Below B W w) (hm : B ≤ m) (o : Obj) : Below B W (setBlock w m o) :=
  ⟨h.os, h.tape, h.output, by rw [size_setBlock]; exact h.size, fun k hk => by
    have : (setBlock w m o).heap[k]? = w.heap[k]? := by
      unfold setBlock
      exact Array.getElem?_setIfInBounds_ne (by omega)
    rw [this]; exact h.block k hk⟩
theorem blk_setBlock {w : World} {m g : Nat} {t : TypeId} {cs : Array Value} (h : Blk w g t cs) (hm : g ≠ m) (o : Obj) : Blk (setBlock w m o) g t cs := by
  have : (setBlock w m o).heap[g]? = w.heap[g]? := by
    unfold setBlock
    exact Array.getElem?_setIfInBounds_ne (Ne.symm hm)
  exact this.trans h
/-- The table of events in memory. -/
structure EvTab (m : Nat) (w : World) : Prop where
  tab : w.heap[m]? = some (.map (ents 0 (evT m)).toArray 7)
  b1 : Blk w (m + 1) 3 #[.int .i64 2]
  b2 : Blk w (m + 2) 3 #[.int .i64 0]
  b3 : Blk w (m + 3) 3 #[.int .i64 0]
  b4 : Blk w (m + 4) 3 #[.int .i64 1]
set_option maxRecDepth 100000 in
set_option maxHeartbeats 2000000 in
theorem events_val (W : World) :
    Calls Tryd.prog 57 #[] W (fun e w' => e = .returned (.map (some W.heap.size)) ∧ EvTab W.heap.size w' ∧ Below W.heap.size W w') := by
  have hmm := @run_makeMap Tryd.prog
  have HV := Lib.hid ev1_val
  have HB : Hid (Below W.heap.size W (W.alloc (.map #[] 0))) := Lib.hid ((Below.refl _ _).alloc (Nat.le_refl _) _)
  have HS : Hid ((W.alloc (.map #[] 0)).heap.size = W.heap.size + 1) := Lib.hid (by rw [World.size_alloc])
  have HM : Hid ((W.alloc (.map #[] 0)).heap[W.heap.size]? = some (.map #[] 0)) := Lib.hid (heap_alloc_new W _)
  go_enter Tryd.func57, Tryd.ntmps57
  go_wp2_with fail
  refine (HV.out _ _).mono ?_
  rintro e1 w1 ⟨rfl, hw⟩
  have HB1 : Hid (Below W.heap.size W w1) := Lib.hid (by rw [hw]; exact HB.out.alloc HB.out.size _)
  have HS1 : Hid (w1.heap.size = W.heap.size + 2) := Lib.hid (by rw [hw, World.size_alloc, HS.out])
  have HN1 : Hid (Blk w1 (W.heap.size + 1) 3 #[.int .i64 2]) := Lib.hid (by rw [hw, show W.heap.size + 1 = _ from HS.out.symm]; exact Blk.new _ _ _)
  have hm1 : w1.heap[W.heap.size]? = some (.map (ents 0 ((evT W.heap.size).take 0)).toArray ((evT W.heap.size).take 0).length) := by
    rw [hw]; exact (Below.heap_alloc _ _ _ (by rw [HS.out]; omega)).trans HM.out
  rw [show (W.alloc (.map #[] 0)).heap.size = W.heap.size + 1 from HS.out]
  have i1 := tab_put2 ((evT W.heap.size).take 0) ⟨#[109, 111, 118, 101]⟩ (.agg #[.int .i64 4, .func (.func 82) #[] #[.pointer (some ⟨W.heap.size + 1, 0, none⟩)]]) hm1 (by kernel_rfl) ((evT W.heap.size).take 1) rfl
  clear hw
  obtain ⟨x1, hx1⟩ : ∃ x, setBlock w1 W.heap.size (.map (ents 0 ((evT W.heap.size).take 1)).toArray ((evT W.heap.size).take 1).length) = x := ⟨_, rfl⟩
  have HB1' : Hid (Below W.heap.size W x1) := Lib.hid (by rw [← hx1]; exact below_setBlock HB1.out (Nat.le_refl _) _)
  have HS1' : Hid (x1.heap.size = W.heap.size + 2) := Lib.hid (by rw [← hx1, size_setBlock]; exact HS1.out)
  have HM1' : Hid (x1.heap[W.heap.size]? = some (.map (ents 0 ((evT W.heap.size).take 1)).toArray ((evT W.heap.size).take 1).length)) := Lib.hid (by rw [← hx1]; exact heap_set_new hm1)
  have HN1_1' : Hid (Blk x1 (W.heap.size + 1) 3 #[.int .i64 2]) := Lib.hid (by rw [← hx1]; exact blk_setBlock HN1.out (by omega) _)
  rw [hx1] at i1
  clear hx1 hm1
  go_wp2_with fail
  refine (HV.out _ _).mono ?_
  rintro e2 w2 ⟨rfl, hw⟩
  have HB2 : Hid (Below W.heap.size W w2) := Lib.hid (by rw [hw]; exact HB1'.out.alloc HB1'.out.size _)
  have HS2 : Hid (w2.heap.size = W.heap.size + 3) := Lib.hid (by rw [hw, World.size_alloc, HS1'.out])
  have HN2 : Hid (Blk w2 (W.heap.size + 2) 3 #[.int .i64 0]) := Lib.hid (by rw [hw, show W.heap.size + 2 = _ from HS1'.out.symm]; exact Blk.new _ _ _)
  have hm2 : w2.heap[W.heap.size]? = some (.map (ents 0 ((evT W.heap.size).take 1)).toArray ((evT W.heap.size).take 1).length) := by
    rw [hw]; exact (Below.heap_alloc _ _ _ (by rw [HS1'.out]; omega)).trans HM1'.out
  have HN1_2 : Hid (Blk w2 (W.heap.size + 1) 3 #[.int .i64 2]) := Lib.hid (by rw [hw]; exact HN1_1'.out.alloc _)
  rw [show (x1).heap.size = W.heap.size + 2 from HS1'.out]
  have i2 := tab_put2 ((evT W.heap.size).take 1) ⟨#[102, 97, 105, 108]⟩ (.agg #[.int .i64 5, .func (.func 82) #[] #[.pointer (some ⟨W.heap.size + 2, 0, none⟩)]]) hm2 (by kernel_rfl) ((evT W.heap.size).take 2) rfl
  clear hw
  obtain ⟨x2, hx2⟩ : ∃ x, setBlock w2 W.heap.size (.map (ents 0 ((evT W.heap.size).take 2)).toArray ((evT W.heap.size).take 2).length) = x := ⟨_, rfl⟩
  have HB2' : Hid (Below W.heap.size W x2) := Lib.hid (by rw [← hx2]; exact below_setBlock HB2.out (Nat.le_refl _) _)
  have HS2' : Hid (x2.heap.size = W.heap.size + 3) := Lib.hid (by rw [← hx2, size_setBlock]; exact HS2.out)
  have HM2' : Hid (x2.heap[W.heap.size]? = some (.map (ents 0 ((evT W.heap.size).take 2)).toArray ((evT W.heap.size).take 2).length)) := Lib.hid (by rw [← hx2]; exact heap_set_new hm2)
  have HN1_2' : Hid (Blk x2 (W.heap.size + 1) 3 #[.int .i64 2]) := Lib.hid (by rw [← hx2]; exact blk_setBlock HN1_2.out (by omega) _)
  have HN2_2' : Hid (Blk x2 (W.heap.size + 2) 3 #[.int .i64 0]) := Lib.hid (by rw [← hx2]; exact blk_setBlock HN2.out (by omega) _)
  rw [hx2] at i2
  clear hx2 hm2
  go_wp2_with fail
  refine (HV.out _ _).mono ?_
  rintro e3 w3 ⟨rfl, hw⟩
  have HB3 : Hid (Below W.heap.size W w3) := Lib.hid (by rw [hw]; exact HB2'.out.alloc HB2'.out.size _)
  have HS3 : Hid (w3.heap.size = W.heap.size + 4) := Lib.hid (by rw [hw, World.size_alloc, HS2'.out])
  have HN3 : Hid (Blk w3 (W.heap.size + 3) 3 #[.int .i64 0]) := Lib.hid (by rw [hw, show W.heap.size + 3 = _ from HS2'.out.symm]; exact Blk.new _ _ _)
  have hm3 : w3.heap[W.heap.size]? = some (.map (ents 0 ((evT W.heap.size).take 2)).toArray ((evT W.heap.size).take 2).length) := by
    rw [hw]; exact (Below.heap_alloc _ _ _ (by rw [HS2'.out]; omega)).trans HM2'.out
  have HN1_3 : Hid (Blk w3 (W.heap.size + 1) 3 #[.int .i64 2]) := Lib.hid (by rw [hw]; exact HN1_2'.out.alloc _)
  have HN2_3 : Hid (Blk w3 (W.heap.size + 2) 3 #[.int .i64 0]) := Lib.hid (by rw [hw]; exact HN2_2'.out.alloc _)
  rw [show (x2).heap.size = W.heap.size + 3 from HS2'.out]
  have i3 := tab_put2 ((evT W.heap.size).take 2) ⟨#[115, 116, 97, 114, 116]⟩ (.agg #[.int .i64 6, .func (.func 82) #[] #[.pointer (some ⟨W.heap.size + 3, 0, none⟩)]]) hm3 (by kernel_rfl) ((evT W.heap.size).take 3) rfl
  clear hw
  obtain ⟨x3, hx3⟩ : ∃ x, setBlock w3 W.heap.size (.map (ents 0 ((evT W.heap.size).take 3)).toArray ((evT W.heap.size).take 3).length) = x := ⟨_, rfl⟩
  have HB3' : Hid (Below W.heap.size W x3) := Lib.hid (by rw [← hx3]; exact below_setBlock HB3.out (Nat.le_refl _) _)
  have HS3' : Hid (x3.heap.size = W.heap.size + 4) := Lib.hid (by rw [← hx3, size_setBlock]; exact HS3.out)
  have HM3' : Hid (x3.heap[W.heap.size]? = some (.map (ents 0 ((evT W.heap.size).take 3)).toArray ((evT W.heap.size).take 3).length)) := Lib.hid (by rw [← hx3]; exact heap_set_new hm3)
  have HN1_3' : Hid (Blk x3 (W.heap.size + 1) 3 #[.int .i64 2]) := Lib.hid (by rw [← hx3]; exact blk_setBlock HN1_3.out (by omega) _)
  have HN2_3' : Hid (Blk x3 (W.heap.size + 2) 3 #[.int .i64 0]) := Lib.hid (by rw [← hx3]; exact blk_setBlock HN2_3.out (by omega) _)
  have HN3_3' : Hid (Blk x3 (W.heap.size + 3) 3 #[.int .i64 0]) := Lib.hid (by rw [← hx3]; exact blk_setBlock HN3.out (by omega) _)
  rw [hx3] at i3
  clear hx3 hm3
  go_wp2_with fail
  refine (HV.out _ _).mono ?_
  rintro e4 w4 ⟨rfl, hw⟩
  have HB4 : Hid (Below W.heap.size W w4) := Lib.hid (by rw [hw]; exact HB3'.out.alloc HB3'.out.size _)
  have HS4 : Hid (w4.heap.size = W.heap.size + 5) := Lib.hid (by rw [hw, World.size_alloc, HS3'.out])
  have HN4 : Hid (Blk w4 (W.heap.size + 4) 3 #[.int .i64 1]) := Lib.hid (by rw [hw, show W.heap.size + 4 = _ from HS3'.out.symm]; exact Blk.new _ _ _)
  have hm4 : w4.heap[W.heap.size]? = some (.map (ents 0 ((evT W.heap.size).take 3)).toArray ((evT W.heap.size).take 3).length) := by
    rw [hw]; exact (Below.heap_alloc _ _ _ (by rw [HS3'.out]; omega)).trans HM3'.out
  have HN1_4 : Hid (Blk w4 (W.heap.size + 1) 3 #[.int .i64 2]) := Lib.hid (by rw [hw]; exact HN1_3'.out.alloc _)
  have HN2_4 : Hid (Blk w4 (W.heap.size + 2) 3 #[.int .i64 0]) := Lib.hid (by rw [hw]; exact HN2_3'.out.alloc _)
  have HN3_4 : Hid (Blk w4 (W.heap.size + 3) 3 #[.int .i64 0]) := Lib.hid (by rw [hw]; exact HN3_3'.out.alloc _)
  rw [show (x3).heap.size = W.heap.size + 4 from HS3'.out]
  have i4 := tab_put2 ((evT W.heap.size).take 3) ⟨#[114, 101, 97, 100]⟩ (.agg #[.int .i64 7, .func (.func 82) #[] #[.pointer (some ⟨W.heap.size + 4, 0, none⟩)]]) hm4 (by kernel_rfl) ((evT W.heap.size).take 4) rfl
  clear hw
  obtain ⟨x4, hx4⟩ : ∃ x, setBlock w4 W.heap.size (.map (ents 0 ((evT W.heap.size).take 4)).toArray ((evT W.heap.size).take 4).length) = x := ⟨_, rfl⟩
  have HB4' : Hid (Below W.heap.size W x4) := Lib.hid (by rw [← hx4]; exact below_setBlock HB4.out (Nat.le_refl _) _)
  have HS4' : Hid (x4.heap.size = W.heap.size + 5) := Lib.hid (by rw [← hx4, size_setBlock]; exact HS4.out)
  have HM4' : Hid (x4.heap[W.heap.size]? = some (.map (ents 0 ((evT W.heap.size).take 4)).toArray ((evT W.heap.size).take 4).length)) := Lib.hid (by rw [← hx4]; exact heap_set_new hm4)
  have HN1_4' : Hid (Blk x4 (W.heap.size + 1) 3 #[.int .i64 2]) := Lib.hid (by rw [← hx4]; exact blk_setBlock HN1_4.out (by omega) _)
  have HN2_4' : Hid (Blk x4 (W.heap.size + 2) 3 #[.int .i64 0]) := Lib.hid (by rw [← hx4]; exact blk_setBlock HN2_4.out (by omega) _)
  have HN3_4' : Hid (Blk x4 (W.heap.size + 3) 3 #[.int .i64 0]) := Lib.hid (by rw [← hx4]; exact blk_setBlock HN3_4.out (by omega) _)
  have HN4_4' : Hid (Blk x4 (W.heap.size + 4) 3 #[.int .i64 1]) := Lib.hid (by rw [← hx4]; exact blk_setBlock HN4.out (by omega) _)
  rw [hx4] at i4
  clear hx4 hm4
  have i5 := tab_put2 ((evT W.heap.size).take 4) ⟨#[106, 97, 109]⟩ (.agg #[.int .i64 8, .func (.func 83) #[] #[]]) HM4'.out (by kernel_rfl) ((evT W.heap.size).take 5) rfl
  obtain ⟨x5, hx5⟩ : ∃ x, setBlock x4 W.heap.size (.map (ents 0 ((evT W.heap.size).take 5)).toArray ((evT W.heap.size).take 5).length) = x := ⟨_, rfl⟩
  have HB5' : Hid (Below W.heap.size W x5) := Lib.hid (by rw [← hx5]; exact below_setBlock HB4'.out (Nat.le_refl _) _)
  have HM5' : Hid (x5.heap[W.heap.size]? = some (.map (ents 0 ((evT W.heap.size).take 5)).toArray ((evT W.heap.size).take 5).length)) := Lib.hid (by rw [← hx5]; exact heap_set_new HM4'.out)
  have HN1_5' : Hid (Blk x5 (W.heap.size + 1) 3 #[.int .i64 2]) := Lib.hid (by rw [← hx5]; exact blk_setBlock HN1_4'.out (by omega) _)
  have HN2_5' : Hid (Blk x5 (W.heap.size + 2) 3 #[.int .i64 0]) := Lib.hid (by rw [← hx5]; exact blk_setBlock HN2_4'.out (by omega) _)
  have HN3_5' : Hid (Blk x5 (W.heap.size + 3) 3 #[.int .i64 0]) := Lib.hid (by rw [← hx5]; exact blk_setBlock HN3_4'.out (by omega) _)
  have HN4_5' : Hid (Blk x5 (W.heap.size + 4) 3 #[.int .i64 1]) := Lib.hid (by rw [← hx5]; exact blk_setBlock HN4_4'.out (by omega) _)
  rw [hx5] at i5
  clear hx5
  have i6 := tab_put2 ((evT W.heap.size).take 5) ⟨#[114, 101, 112, 108, 97, 121]⟩ (.agg #[.int .i64 9, .func (.func 84) #[] #[]]) HM5'.out (by kernel_rfl) ((evT W.heap.size).take 6) rfl
  obtain ⟨x6, hx6⟩ : ∃ x, setBlock x5 W.heap.size (.map (ents 0 ((evT W.heap.size).take 6)).toArray ((evT W.heap.size).take 6).length) = x := ⟨_, rfl⟩
  have HB6' : Hid (Below W.heap.size W x6) := Lib.hid (by rw [← hx6]; exact below_setBlock HB5'.out (Nat.le_refl _) _)
  have HM6' : Hid (x6.heap[W.heap.size]? = some (.map (ents 0 ((evT W.heap.size).take 6)).toArray ((evT W.heap.size).take 6).length)) := Lib.hid (by rw [← hx6]; exact heap_set_new HM5'.out)
  have HN1_6' : Hid (Blk x6 (W.heap.size + 1) 3 #[.int .i64 2]) := Lib.hid (by rw [← hx6]; exact blk_setBlock HN1_5'.out (by omega) _)
  have HN2_6' : Hid (Blk x6 (W.heap.size + 2) 3 #[.int .i64 0]) := Lib.hid (by rw [← hx6]; exact blk_setBlock HN2_5'.out (by omega) _)
  have HN3_6' : Hid (Blk x6 (W.heap.size + 3) 3 #[.int .i64 0]) := Lib.hid (by rw [← hx6]; exact blk_setBlock HN3_5'.out (by omega) _)
  have HN4_6' : Hid (Blk x6 (W.heap.size + 4) 3 #[.int .i64 1]) := Lib.hid (by rw [← hx6]; exact blk_setBlock HN4_5'.out (by omega) _)
  rw [hx6] at i6
  clear hx6
  have i7 := tab_put2 ((evT W.heap.size).take 6) ⟨#[112, 114, 111, 103, 114, 97, 109]⟩ (.agg #[.int .i64 10, .func (.func 85) #[] #[]]) HM6'.out (by kernel_rfl) ((evT W.heap.size).take 7) rfl
  obtain ⟨x7, hx7⟩ : ∃ x, setBlock x6 W.heap.size (.map (ents 0 ((evT W.heap.size).take 7)).toArray ((evT W.heap.size).take 7).length) = x := ⟨_, rfl⟩
  have HB7' : Hid (Below W.heap.size W x7) := Lib.hid (by rw [← hx7]; exact below_setBlock HB6'.out (Nat.le_refl _) _)
  have HM7' : Hid (x7.heap[W.heap.size]? = some (.map (ents 0 ((evT W.heap.size).take 7)).toArray ((evT W.heap.size).take 7).length)) := Lib.hid (by rw [← hx7]; exact heap_set_new HM6'.out)
  have HN1_7' : Hid (Blk x7 (W.heap.size + 1) 3 #[.int .i64 2]) := Lib.hid (by rw [← hx7]; exact blk_setBlock HN1_6'.out (by omega) _)
  have HN2_7' : Hid (Blk x7 (W.heap.size + 2) 3 #[.int .i64 0]) := Lib.hid (by rw [← hx7]; exact blk_setBlock HN2_6'.out (by omega) _)
  have HN3_7' : Hid (Blk x7 (W.heap.size + 3) 3 #[.int .i64 0]) := Lib.hid (by rw [← hx7]; exact blk_setBlock HN3_6'.out (by omega) _)
  have HN4_7' : Hid (Blk x7 (W.heap.size + 4) 3 #[.int .i64 1]) := Lib.hid (by rw [← hx7]; exact blk_setBlock HN4_6'.out (by omega) _)
  rw [hx7] at i7
  clear hx7
  go_wp2_with fail
  refine bodyPost_ret (v := .map (some W.heap.size)) ?_ rfl ⟨rfl, ⟨HM7'.out, HN1_7'.out, HN2_7'.out, HN3_7'.out, HN4_7'.out⟩, HB7'.out⟩
  simp [results, Tryd.f57]
end Go.Proofs.YtmdogklgbifacaaDoor.Ps
