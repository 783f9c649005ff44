/- lexer.token. -/
import Derived.Test.YtmdogklgbifacaaDoorLxEnd
namespace Go.Proofs.YtmdogklgbifacaaDoor.Lx
open Go.RowKit
set_option linter.unusedVariables false

/-- The variable of the library that Atoi's failing way reads. -/
def Vars (w : World) : Prop := ∃ tp p, w.cell? ⟨3, 0, none⟩ = some (.iface tp p)
theorem cell_lt {w : World} {a : Addr} {v : Value} (h : w.cell? a = some v) : a.block < w.heap.size := by
  rcases Nat.lt_or_ge a.block w.heap.size with hlt | hge
  · exact hlt
  · simp [World.cell?, Array.getElem?_eq_none hge] at h
theorem Vars.up {w w' : World} (h : Vars w) (hb : Below w.heap.size w w') : Vars w' := by
  obtain ⟨tp, p, h⟩ := h
  exact ⟨tp, p, (hb.cell (p := ⟨3, 0, none⟩) (cell_lt (a := ⟨3, 0, none⟩) h)).trans h⟩

theorem atoi_ok (s : ByteArray) (h0 : s.data.toList ≠ []) (hd : ∀ c ∈ s.data.toList, cls c = 4) (hs : s.size ≤ 8000) (hv : num s.data.toList < 9223372036854775808) (w : World) :
    Calls Tryd.prog 71 #[.string s] w fun e w' => e = .returned (.tuple #[i64 (num s.data.toList : Nat), .nilIface]) ∧ Below w.heap.size w w' := by
  have ha := atoi_digits h0 hd
  rw [if_pos hv] at ha
  refine (Tryd.strconv_Atoi_ok s (by omega) _ ha w).mono ?_
  rintro e w' ⟨rfl, rfl | ⟨t, rfl⟩⟩
  · exact ⟨rfl, Below.refl _ _⟩
  · exact ⟨rfl, Lib.bytesWorld_below _ _ _⟩
theorem atoi_range (s : ByteArray) (h0 : s.data.toList ≠ []) (hd : ∀ c ∈ s.data.toList, cls c = 4) (hs : s.size ≤ 8000) (hv : ¬ num s.data.toList < 9223372036854775808) (w : World) (hw : Vars w) :
    Calls Tryd.prog 71 #[.string s] w fun e w' => (∃ z t N, e = .returned (.tuple #[i64 z, .iface t (.pointer (some ⟨N, 0, none⟩))])) ∧ Below w.heap.size w w' := by
  have ha := atoi_digits h0 hd
  rw [if_neg hv] at ha
  obtain ⟨tp, p, hc⟩ := hw
  refine (Tryd.strconv_Atoi_range s (by omega) ha _ w hc (.inr ⟨tp, p, rfl⟩)).mono ?_
  rintro e w' ⟨N, rfl, _, _, hb⟩
  exact ⟨⟨_, _, N, rfl⟩, hb⟩

def Tok.v (t : Tok) : Value := .agg #[i64 (t.kind : Nat), .string t.text, i64 (t.n : Nat), i64 (t.pos : Nat)]
def tokV : Except Nat Tok → Value
  | .ok t => .tuple #[.agg #[i64 (t.kind : Nat), .string t.text, i64 (t.n : Nat), i64 (t.pos : Nat)], i64 0]
  | .error e => .tuple #[.agg #[i64 0, .string ⟨#[]⟩, i64 0, i64 0], i64 (e : Nat)]
theorem four {w : World} {T : Nat} {t : TypeId} {a0 a1 a2 a3 v0 v1 v2 v3 : Value} (h : Blk w T t #[a0, a1, a2, a3]) :
    Blk ((((w.setCell ⟨T, 0, none⟩ v0).setCell ⟨T, 1, none⟩ v1).setCell ⟨T, 2, none⟩ v2).setCell ⟨T, 3, none⟩ v3) T t #[v0, v1, v2, v3] := by
  simpa using (((h.set_ 0 v0).set_ 1 v1).set_ 2 v2).set_ 3 v3
theorem four_below {w0 w : World} {B T : Nat} {v0 v1 v2 v3 : Value} (h : Below B w0 w) (hT : B ≤ T) :
    Below B w0 ((((w.setCell ⟨T, 0, none⟩ v0).setCell ⟨T, 1, none⟩ v1).setCell ⟨T, 2, none⟩ v2).setCell ⟨T, 3, none⟩ v3) :=
  (((h.setCell (p := ⟨T, 0, none⟩) hT v0).setCell (p := ⟨T, 1, none⟩) hT v1).setCell (p := ⟨T, 2, none⟩) hT v2).setCell (p := ⟨T, 3, none⟩) hT v3

set_option maxHeartbeats 1000000 in
theorem tok_name (s : ByteArray) (hs : s.size ≤ 8000) (w : World) :
    Calls Tryd.prog 43 #[.agg #[i64 3, .string s]] w fun e w' => e = .returned (tokV (tokenOf 3 s.data.toList)) ∧ Below w.heap.size w w' := by
  have hl : s.data.toList.length = s.size := Array.length_toList
  have e0 : tokenOf 3 s.data.toList = if 12 < s.size then .error 3 else .ok ⟨1, s, 0, 0⟩ := by
    unfold tokenOf; rw [if_pos rfl, hl]
  rw [e0]
  clear e0 hl
  have hB0 : Below w.heap.size w ((w.alloc (.cells #[i64 3, .string s] 84)).alloc (.cells #[i64 0, .string ⟨#[]⟩, i64 0, i64 0] 41)) := ((Below.refl _ w).alloc (Nat.le_refl _) _).alloc (by simp) _
  have B1 := Blk.new (w.alloc (.cells #[i64 3, .string s] 84)) 41 #[i64 0, .string ⟨#[]⟩, i64 0, i64 0]
  rw [World.size_alloc] at B1
  have HB1 := Lib.hid B1
  have HB0 := Lib.hid hB0
  clear B1 hB0
  by_cases h : 12 < s.size
  · have h' : (12 : Int) < (s.size : Int) := by omega
    rw [if_pos h]
    clear h
    unfold tokV
    go_enter Tryd.func43, Tryd.ntmps43
    go_wp2_with fail
    refine bodyPost_ret (v := .tuple #[.agg #[i64 0, .string ⟨#[]⟩, i64 0, i64 0], i64 3]) ?_ rfl ⟨rfl, HB0.out⟩
    simp [results, go_sem]
  · have h' : ¬ (12 : Int) < (s.size : Int) := by omega
    rw [if_neg h]
    clear h
    unfold tokV
    have hB1 : Below w.heap.size w ((w.alloc (.cells #[i64 3, .string s] 84)).alloc (.cells #[i64 1, .string s, i64 0, i64 0] 41)) := ((Below.refl _ w).alloc (Nat.le_refl _) _).alloc (by simp) _
    have HB1 := Lib.hid hB1
    clear hB1
    go_enter Tryd.func43, Tryd.ntmps43
    go_wp2_with fail
    refine bodyPost_ret (v := .tuple #[.agg #[i64 1, .string s, i64 0, i64 0], i64 0]) ?_ rfl ⟨rfl, HB1.out⟩
    simp [results, go_sem]

theorem tok_punct (s : ByteArray) (hs : s.size ≤ 8000) (w : World) :
    Calls Tryd.prog 43 #[.agg #[i64 5, .string s]] w fun e w' => e = .returned (tokV (tokenOf 5 s.data.toList)) ∧ Below w.heap.size w w' := by
  have e0 : tokenOf 5 s.data.toList = .ok ⟨3, s, 0, 0⟩ := by
    unfold tokenOf; rw [if_neg (by decide), if_neg (by decide)]
  rw [e0]
  clear e0
  unfold tokV
  have hB1 : Below w.heap.size w ((w.alloc (.cells #[i64 5, .string s] 84)).alloc (.cells #[i64 3, .string s, i64 0, i64 0] 41)) := ((Below.refl _ w).alloc (Nat.le_refl _) _).alloc (by simp) _
  have HB1 := Lib.hid hB1
  clear hB1
  go_enter Tryd.func43, Tryd.ntmps43
  go_wp2_with fail
  refine bodyPost_ret (v := .tuple #[.agg #[i64 3, .string s, i64 0, i64 0], i64 0]) ?_ rfl ⟨rfl, HB1.out⟩
  simp [results, go_sem]

/-- The end of token's walk: the block of the result holds the token. -/
theorem num_lead {l : List UInt8} (h : 1 < l.length) (h0 : l[0]'(by omega) = (48 : UInt8)) : (1 < l.length ∧ l.head?.map (·.toNat) = some 48) := by
  refine ⟨h, ?_⟩
  cases l with
  | nil => simp at h
  | cons c r => simp only [List.getElem_cons_zero] at h0; subst h0; rfl
theorem num_nolead {l : List UInt8} (h : 1 < l.length → l.head?.map (·.toNat) ≠ some 48) : ¬ (1 < l.length ∧ l.head?.map (·.toNat) = some 48) := fun ⟨a, b⟩ => h a b

set_option maxRecDepth 100000 in
set_option maxHeartbeats 2000000 in
theorem tok_num (s : ByteArray) (h0 : s.data.toList ≠ []) (hd : ∀ c ∈ s.data.toList, cls c = 4) (hs : s.size ≤ 8000) (w : World) (hw : Vars w) :
    Calls Tryd.prog 43 #[.agg #[i64 4, .string s]] w fun e w' => e = .returned (tokV (tokenOf 4 s.data.toList)) ∧ Below w.heap.size w w' := by
  have hl : s.data.toList.length = s.size := Array.length_toList
  have hpos : 0 < s.size := by
    rw [← hl]; exact List.length_pos_iff.2 h0
  obtain ⟨z, hz⟩ : ∃ z, num s.data.toList = z := ⟨_, rfl⟩
  have e0 : tokenOf 4 s.data.toList = if 1 < s.size ∧ s[0].toNat = 48 then .error 7 else if 1000000000 < z then .error 3 else .ok ⟨2, ⟨#[]⟩, z, 0⟩ := by
    unfold tokenOf
    rw [if_neg (by decide), if_pos rfl, hl, hz]
    have e : s.data.toList.head?.map (·.toNat) = some s[0].toNat := by
      have hh : s.data.toList.head? = some s[0] := by
        rw [List.head?_eq_getElem?, List.getElem?_eq_getElem (by rw [hl]; exact hpos)]; rfl
      rw [hh]; rfl
    rw [e]
    simp only [Option.some.injEq]
  rw [e0]
  have HE := Lib.hid e0
  clear e0 hl
  have hB0 : Below w.heap.size w ((w.alloc (.cells #[i64 4, .string s] 84)).alloc (.cells #[i64 0, .string ⟨#[]⟩, i64 0, i64 0] 41)) := ((Below.refl _ w).alloc (Nat.le_refl _) _).alloc (by simp) _
  have A1 := (Blk.new w 84 #[i64 4, .string s]).alloc (.cells #[i64 0, .string ⟨#[]⟩, i64 0, i64 0] 41)
  have B1 := Blk.new (w.alloc (.cells #[i64 4, .string s] 84)) 41 #[i64 0, .string ⟨#[]⟩, i64 0, i64 0]
  rw [World.size_alloc] at B1
  obtain ⟨W0, hW0⟩ : ∃ W0, (w.alloc (.cells #[i64 4, .string s] 84)).alloc (.cells #[i64 0, .string ⟨#[]⟩, i64 0, i64 0] 41) = W0 := ⟨_, rfl⟩
  rw [hW0] at hB0 A1 B1
  have a0 : W0.cell? ⟨w.heap.size, 0, none⟩ = some (i64 4) := A1.cell 0
  have a1 : W0.cell? ⟨w.heap.size, 1, none⟩ = some (.string s) := A1.cell 1
  have VW := Lib.hid (hw.up hB0)
  have HA1 := Lib.hid A1
  have HB1 := Lib.hid B1
  have HB0 := Lib.hid hB0
  have HZ := Lib.hid hz
  have HD := Lib.hid hd
  have H0 := Lib.hid h0
  clear A1 B1 hB0 hz hd h0 hw
  by_cases hbig : z < 9223372036854775808
  · have hA := atoi_ok s H0.out HD.out hs (by rw [HZ.out]; exact hbig)
    rw [HZ.out] at hA
    have HA := Lib.hid hA
    clear hA
    by_cases h1 : 1 < s.size
    · have h1' : (1 : Int) < (s.size : Int) := by omega
      by_cases h48 : s[0].toNat = 48
      · have h8 : ((s[0].toNat : Int) == 48) = true := by rw [beq_iff_eq]; omega
        rw [if_pos ⟨h1, h48⟩]
        unfold tokV
        clear h1 h48
        go_enter Tryd.func43, Tryd.ntmps43
        go_wp2_with fail
        refine (HA.out _).mono ?_
        rintro e w1 ⟨rfl, hb1⟩
        have hB1 := HB0.out.trans (hb1.mono HB0.out.size)
        have C1 := HB1.out.up' hb1
        have a0 : w1.cell? ⟨w.heap.size, 0, none⟩ = some (i64 4) := (HA1.out.up' hb1).cell 0
        have a1 : w1.cell? ⟨w.heap.size, 1, none⟩ = some (.string s) := (HA1.out.up' hb1).cell 1
        have b0 : w1.cell? ⟨w.heap.size + 1, 0, none⟩ = some (i64 0) := C1.cell 0
        have b1 : w1.cell? ⟨w.heap.size + 1, 1, none⟩ = some (.string ⟨#[]⟩) := C1.cell 1
        have b2 : w1.cell? ⟨w.heap.size + 1, 2, none⟩ = some (i64 0) := C1.cell 2
        have b3 : w1.cell? ⟨w.heap.size + 1, 3, none⟩ = some (i64 0) := C1.cell 3
        have z0 := C1.frozen 0
        have z1 := C1.frozen 1
        have z2 := C1.frozen 2
        have z3 := C1.frozen 3
        have HC1 := Lib.hid C1
        have HB2 := Lib.hid hB1
        clear C1 hB1 hb1
        go_wp2_with fail
        have M := four (v0 := i64 0) (v1 := .string ⟨#[]⟩) (v2 := i64 0) (v3 := i64 0) HC1.out
        have hB3 := four_below (v0 := i64 0) (v1 := .string ⟨#[]⟩) (v2 := i64 0) (v3 := i64 0) HB2.out (show w.heap.size ≤ w.heap.size + 1 by omega)
        obtain ⟨wf, hwf⟩ : ∃ wf, (((w1.setCell ⟨w.heap.size + 1, 0, none⟩ (i64 0)).setCell ⟨w.heap.size + 1, 1, none⟩ (.string ⟨#[]⟩)).setCell ⟨w.heap.size + 1, 2, none⟩ (i64 0)).setCell ⟨w.heap.size + 1, 3, none⟩ (i64 0) = wf := ⟨_, rfl⟩
        rw [hwf] at M hB3
        rw [hwf]
        have m0 : wf.cell? ⟨w.heap.size + 1, 0, none⟩ = some (i64 0) := M.cell 0
        have m1 : wf.cell? ⟨w.heap.size + 1, 1, none⟩ = some (.string ⟨#[]⟩) := M.cell 1
        have m2 : wf.cell? ⟨w.heap.size + 1, 2, none⟩ = some (i64 0) := M.cell 2
        have m3 : wf.cell? ⟨w.heap.size + 1, 3, none⟩ = some (i64 0) := M.cell 3
        refine bodyPost_ret (v := .tuple #[.agg #[i64 0, .string ⟨#[]⟩, i64 0, i64 0], i64 7]) ?_ rfl ⟨rfl, hB3⟩
        simp [results, go_sem, m0, m1, m2, m3]
      · have h8 : ((s[0].toNat : Int) == 48) = false := by rw [beq_eq_false_iff_ne]; omega
        rw [if_neg (fun h => h48 h.2)]
        clear h1 h48
        by_cases h9 : 1000000000 < z
        · have h9' : (1000000000 : Int) < (z : Int) := by omega
          rw [if_pos h9]
          unfold tokV
          clear h9 hbig
          go_enter Tryd.func43, Tryd.ntmps43
          go_wp2_with fail
          refine (HA.out _).mono ?_
          rintro e w1 ⟨rfl, hb1⟩
          have hB1 := HB0.out.trans (hb1.mono HB0.out.size)
          have C1 := HB1.out.up' hb1
          have a0 : w1.cell? ⟨w.heap.size, 0, none⟩ = some (i64 4) := (HA1.out.up' hb1).cell 0
          have a1 : w1.cell? ⟨w.heap.size, 1, none⟩ = some (.string s) := (HA1.out.up' hb1).cell 1
          have b0 : w1.cell? ⟨w.heap.size + 1, 0, none⟩ = some (i64 0) := C1.cell 0
          have b1 : w1.cell? ⟨w.heap.size + 1, 1, none⟩ = some (.string ⟨#[]⟩) := C1.cell 1
          have b2 : w1.cell? ⟨w.heap.size + 1, 2, none⟩ = some (i64 0) := C1.cell 2
          have b3 : w1.cell? ⟨w.heap.size + 1, 3, none⟩ = some (i64 0) := C1.cell 3
          have z0 := C1.frozen 0
          have z1 := C1.frozen 1
          have z2 := C1.frozen 2
          have z3 := C1.frozen 3
          have HC1 := Lib.hid C1
          have HB2 := Lib.hid hB1
          clear C1 hB1 hb1
          go_wp2_with fail
          have M := four (v0 := i64 0) (v1 := .string ⟨#[]⟩) (v2 := i64 0) (v3 := i64 0) HC1.out
          have hB3 := four_below (v0 := i64 0) (v1 := .string ⟨#[]⟩) (v2 := i64 0) (v3 := i64 0) HB2.out (show w.heap.size ≤ w.heap.size + 1 by omega)
          obtain ⟨wf, hwf⟩ : ∃ wf, (((w1.setCell ⟨w.heap.size + 1, 0, none⟩ (i64 0)).setCell ⟨w.heap.size + 1, 1, none⟩ (.string ⟨#[]⟩)).setCell ⟨w.heap.size + 1, 2, none⟩ (i64 0)).setCell ⟨w.heap.size + 1, 3, none⟩ (i64 0) = wf := ⟨_, rfl⟩
          rw [hwf] at M hB3
          rw [hwf]
          have m0 : wf.cell? ⟨w.heap.size + 1, 0, none⟩ = some (i64 0) := M.cell 0
          have m1 : wf.cell? ⟨w.heap.size + 1, 1, none⟩ = some (.string ⟨#[]⟩) := M.cell 1
          have m2 : wf.cell? ⟨w.heap.size + 1, 2, none⟩ = some (i64 0) := M.cell 2
          have m3 : wf.cell? ⟨w.heap.size + 1, 3, none⟩ = some (i64 0) := M.cell 3
          refine bodyPost_ret (v := .tuple #[.agg #[i64 0, .string ⟨#[]⟩, i64 0, i64 0], i64 3]) ?_ rfl ⟨rfl, hB3⟩
          simp [results, go_sem, m0, m1, m2, m3]
        · have h9' : ¬ (1000000000 : Int) < (z : Int) := by omega
          rw [if_neg h9]
          unfold tokV
          clear h9 hbig
          go_enter Tryd.func43, Tryd.ntmps43
          go_wp2_with fail
          refine (HA.out _).mono ?_
          rintro e w1 ⟨rfl, hb1⟩
          have hB1 := HB0.out.trans (hb1.mono HB0.out.size)
          have C1 := HB1.out.up' hb1
          have a0 : w1.cell? ⟨w.heap.size, 0, none⟩ = some (i64 4) := (HA1.out.up' hb1).cell 0
          have a1 : w1.cell? ⟨w.heap.size, 1, none⟩ = some (.string s) := (HA1.out.up' hb1).cell 1
          have b0 : w1.cell? ⟨w.heap.size + 1, 0, none⟩ = some (i64 0) := C1.cell 0
          have b1 : w1.cell? ⟨w.heap.size + 1, 1, none⟩ = some (.string ⟨#[]⟩) := C1.cell 1
          have b2 : w1.cell? ⟨w.heap.size + 1, 2, none⟩ = some (i64 0) := C1.cell 2
          have b3 : w1.cell? ⟨w.heap.size + 1, 3, none⟩ = some (i64 0) := C1.cell 3
          have z0 := C1.frozen 0
          have z1 := C1.frozen 1
          have z2 := C1.frozen 2
          have z3 := C1.frozen 3
          have HC1 := Lib.hid C1
          have HB2 := Lib.hid hB1
          clear C1 hB1 hb1
          go_wp2_with fail
          have M := four (v0 := i64 2) (v1 := .string ⟨#[]⟩) (v2 := i64 (z : Nat)) (v3 := i64 0) HC1.out
          have hB3 := four_below (v0 := i64 2) (v1 := .string ⟨#[]⟩) (v2 := i64 (z : Nat)) (v3 := i64 0) HB2.out (show w.heap.size ≤ w.heap.size + 1 by omega)
          obtain ⟨wf, hwf⟩ : ∃ wf, (((w1.setCell ⟨w.heap.size + 1, 0, none⟩ (i64 2)).setCell ⟨w.heap.size + 1, 1, none⟩ (.string ⟨#[]⟩)).setCell ⟨w.heap.size + 1, 2, none⟩ (i64 (z : Nat))).setCell ⟨w.heap.size + 1, 3, none⟩ (i64 0) = wf := ⟨_, rfl⟩
          rw [hwf] at M hB3
          rw [hwf]
          have m0 : wf.cell? ⟨w.heap.size + 1, 0, none⟩ = some (i64 2) := M.cell 0
          have m1 : wf.cell? ⟨w.heap.size + 1, 1, none⟩ = some (.string ⟨#[]⟩) := M.cell 1
          have m2 : wf.cell? ⟨w.heap.size + 1, 2, none⟩ = some (i64 (z : Nat)) := M.cell 2
          have m3 : wf.cell? ⟨w.heap.size + 1, 3, none⟩ = some (i64 0) := M.cell 3
          refine bodyPost_ret (v := .tuple #[.agg #[i64 2, .string ⟨#[]⟩, i64 (z : Nat), i64 0], i64 0]) ?_ rfl ⟨rfl, hB3⟩
          simp [results, go_sem, m0, m1, m2, m3]
    · have h1' : ¬ (1 : Int) < (s.size : Int) := by omega
      rw [if_neg (fun h => h1 h.1)]
      clear h1
      by_cases h9 : 1000000000 < z
      · have h9' : (1000000000 : Int) < (z : Int) := by omega
        rw [if_pos h9]
        unfold tokV
        clear h9 hbig
        go_enter Tryd.func43, Tryd.ntmps43
        go_wp2_with fail
        refine (HA.out _).mono ?_
        rintro e w1 ⟨rfl, hb1⟩
        have hB1 := HB0.out.trans (hb1.mono HB0.out.size)
        have C1 := HB1.out.up' hb1
        have a0 : w1.cell? ⟨w.heap.size, 0, none⟩ = some (i64 4) := (HA1.out.up' hb1).cell 0
        have a1 : w1.cell? ⟨w.heap.size, 1, none⟩ = some (.string s) := (HA1.out.up' hb1).cell 1
        have b0 : w1.cell? ⟨w.heap.size + 1, 0, none⟩ = some (i64 0) := C1.cell 0
        have b1 : w1.cell? ⟨w.heap.size + 1, 1, none⟩ = some (.string ⟨#[]⟩) := C1.cell 1
        have b2 : w1.cell? ⟨w.heap.size + 1, 2, none⟩ = some (i64 0) := C1.cell 2
        have b3 : w1.cell? ⟨w.heap.size + 1, 3, none⟩ = some (i64 0) := C1.cell 3
        have z0 := C1.frozen 0
        have z1 := C1.frozen 1
        have z2 := C1.frozen 2
        have z3 := C1.frozen 3
        have HC1 := Lib.hid C1
        have HB2 := Lib.hid hB1
        clear C1 hB1 hb1
        go_wp2_with fail
        have M := four (v0 := i64 0) (v1 := .string ⟨#[]⟩) (v2 := i64 0) (v3 := i64 0) HC1.out
        have hB3 := four_below (v0 := i64 0) (v1 := .string ⟨#[]⟩) (v2 := i64 0) (v3 := i64 0) HB2.out (show w.heap.size ≤ w.heap.size + 1 by omega)
        obtain ⟨wf, hwf⟩ : ∃ wf, (((w1.setCell ⟨w.heap.size + 1, 0, none⟩ (i64 0)).setCell ⟨w.heap.size + 1, 1, none⟩ (.string ⟨#[]⟩)).setCell ⟨w.heap.size + 1, 2, none⟩ (i64 0)).setCell ⟨w.heap.size + 1, 3, none⟩ (i64 0) = wf := ⟨_, rfl⟩
        rw [hwf] at M hB3
        rw [hwf]
        have m0 : wf.cell? ⟨w.heap.size + 1, 0, none⟩ = some (i64 0) := M.cell 0
        have m1 : wf.cell? ⟨w.heap.size + 1, 1, none⟩ = some (.string ⟨#[]⟩) := M.cell 1
        have m2 : wf.cell? ⟨w.heap.size + 1, 2, none⟩ = some (i64 0) := M.cell 2
        have m3 : wf.cell? ⟨w.heap.size + 1, 3, none⟩ = some (i64 0) := M.cell 3
        refine bodyPost_ret (v := .tuple #[.agg #[i64 0, .string ⟨#[]⟩, i64 0, i64 0], i64 3]) ?_ rfl ⟨rfl, hB3⟩
        simp [results, go_sem, m0, m1, m2, m3]
      · have h9' : ¬ (1000000000 : Int) < (z : Int) := by omega
        rw [if_neg h9]
        unfold tokV
        clear h9 hbig
        go_enter Tryd.func43, Tryd.ntmps43
        go_wp2_with fail
        refine (HA.out _).mono ?_
        rintro e w1 ⟨rfl, hb1⟩
        have hB1 := HB0.out.trans (hb1.mono HB0.out.size)
        have C1 := HB1.out.up' hb1
        have a0 : w1.cell? ⟨w.heap.size, 0, none⟩ = some (i64 4) := (HA1.out.up' hb1).cell 0
        have a1 : w1.cell? ⟨w.heap.size, 1, none⟩ = some (.string s) := (HA1.out.up' hb1).cell 1
        have b0 : w1.cell? ⟨w.heap.size + 1, 0, none⟩ = some (i64 0) := C1.cell 0
        have b1 : w1.cell? ⟨w.heap.size + 1, 1, none⟩ = some (.string ⟨#[]⟩) := C1.cell 1
        have b2 : w1.cell? ⟨w.heap.size + 1, 2, none⟩ = some (i64 0) := C1.cell 2
        have b3 : w1.cell? ⟨w.heap.size + 1, 3, none⟩ = some (i64 0) := C1.cell 3
        have z0 := C1.frozen 0
        have z1 := C1.frozen 1
        have z2 := C1.frozen 2
        have z3 := C1.frozen 3
        have HC1 := Lib.hid C1
        have HB2 := Lib.hid hB1
        clear C1 hB1 hb1
        go_wp2_with fail
        have M := four (v0 := i64 2) (v1 := .string ⟨#[]⟩) (v2 := i64 (z : Nat)) (v3 := i64 0) HC1.out
        have hB3 := four_below (v0 := i64 2) (v1 := .string ⟨#[]⟩) (v2 := i64 (z : Nat)) (v3 := i64 0) HB2.out (show w.heap.size ≤ w.heap.size + 1 by omega)
        obtain ⟨wf, hwf⟩ : ∃ wf, (((w1.setCell ⟨w.heap.size + 1, 0, none⟩ (i64 2)).setCell ⟨w.heap.size + 1, 1, none⟩ (.string ⟨#[]⟩)).setCell ⟨w.heap.size + 1, 2, none⟩ (i64 (z : Nat))).setCell ⟨w.heap.size + 1, 3, none⟩ (i64 0) = wf := ⟨_, rfl⟩
        rw [hwf] at M hB3
        rw [hwf]
        have m0 : wf.cell? ⟨w.heap.size + 1, 0, none⟩ = some (i64 2) := M.cell 0
        have m1 : wf.cell? ⟨w.heap.size + 1, 1, none⟩ = some (.string ⟨#[]⟩) := M.cell 1
        have m2 : wf.cell? ⟨w.heap.size + 1, 2, none⟩ = some (i64 (z : Nat)) := M.cell 2
        have m3 : wf.cell? ⟨w.heap.size + 1, 3, none⟩ = some (i64 0) := M.cell 3
        refine bodyPost_ret (v := .tuple #[.agg #[i64 2, .string ⟨#[]⟩, i64 (z : Nat), i64 0], i64 0]) ?_ rfl ⟨rfl, hB3⟩
        simp [results, go_sem, m0, m1, m2, m3]
  · have hA := fun w hw => atoi_range s H0.out HD.out hs (by rw [HZ.out]; exact hbig) w hw
    have HA := Lib.hid hA
    clear hA
    by_cases h1 : 1 < s.size
    · have h1' : (1 : Int) < (s.size : Int) := by omega
      by_cases h48 : s[0].toNat = 48
      · have h8 : ((s[0].toNat : Int) == 48) = true := by rw [beq_iff_eq]; omega
        rw [if_pos ⟨h1, h48⟩]
        unfold tokV
        clear h1 h48
        go_enter Tryd.func43, Tryd.ntmps43
        go_wp2_with fail
        refine (HA.out _ VW.out).mono ?_
        rintro e w1 ⟨⟨zz, tt, NN, rfl⟩, hb1⟩
        have hB1 := HB0.out.trans (hb1.mono HB0.out.size)
        have C1 := HB1.out.up' hb1
        have a0 : w1.cell? ⟨w.heap.size, 0, none⟩ = some (i64 4) := (HA1.out.up' hb1).cell 0
        have a1 : w1.cell? ⟨w.heap.size, 1, none⟩ = some (.string s) := (HA1.out.up' hb1).cell 1
        have b0 : w1.cell? ⟨w.heap.size + 1, 0, none⟩ = some (i64 0) := C1.cell 0
        have b1 : w1.cell? ⟨w.heap.size + 1, 1, none⟩ = some (.string ⟨#[]⟩) := C1.cell 1
        have b2 : w1.cell? ⟨w.heap.size + 1, 2, none⟩ = some (i64 0) := C1.cell 2
        have b3 : w1.cell? ⟨w.heap.size + 1, 3, none⟩ = some (i64 0) := C1.cell 3
        have z0 := C1.frozen 0
        have z1 := C1.frozen 1
        have z2 := C1.frozen 2
        have z3 := C1.frozen 3
        have HC1 := Lib.hid C1
        have HB2 := Lib.hid hB1
        clear C1 hB1 hb1
        go_wp2_with fail
        have M := four (v0 := i64 0) (v1 := .string ⟨#[]⟩) (v2 := i64 0) (v3 := i64 0) HC1.out
        have hB3 := four_below (v0 := i64 0) (v1 := .string ⟨#[]⟩) (v2 := i64 0) (v3 := i64 0) HB2.out (show w.heap.size ≤ w.heap.size + 1 by omega)
        obtain ⟨wf, hwf⟩ : ∃ wf, (((w1.setCell ⟨w.heap.size + 1, 0, none⟩ (i64 0)).setCell ⟨w.heap.size + 1, 1, none⟩ (.string ⟨#[]⟩)).setCell ⟨w.heap.size + 1, 2, none⟩ (i64 0)).setCell ⟨w.heap.size + 1, 3, none⟩ (i64 0) = wf := ⟨_, rfl⟩
        rw [hwf] at M hB3
        rw [hwf]
        have m0 : wf.cell? ⟨w.heap.size + 1, 0, none⟩ = some (i64 0) := M.cell 0
        have m1 : wf.cell? ⟨w.heap.size + 1, 1, none⟩ = some (.string ⟨#[]⟩) := M.cell 1
        have m2 : wf.cell? ⟨w.heap.size + 1, 2, none⟩ = some (i64 0) := M.cell 2
        have m3 : wf.cell? ⟨w.heap.size + 1, 3, none⟩ = some (i64 0) := M.cell 3
        refine bodyPost_ret (v := .tuple #[.agg #[i64 0, .string ⟨#[]⟩, i64 0, i64 0], i64 7]) ?_ rfl ⟨rfl, hB3⟩
        simp [results, go_sem, m0, m1, m2, m3]
      · have h8 : ((s[0].toNat : Int) == 48) = false := by rw [beq_eq_false_iff_ne]; omega
        rw [if_neg (fun h => h48 h.2)]
        clear h1 h48
        rw [if_pos (show 1000000000 < z by omega)]
        unfold tokV
        clear hbig
        go_enter Tryd.func43, Tryd.ntmps43
        go_wp2_with fail
        refine (HA.out _ VW.out).mono ?_
        rintro e w1 ⟨⟨zz, tt, NN, rfl⟩, hb1⟩
        have hB1 := HB0.out.trans (hb1.mono HB0.out.size)
        have C1 := HB1.out.up' hb1
        have a0 : w1.cell? ⟨w.heap.size, 0, none⟩ = some (i64 4) := (HA1.out.up' hb1).cell 0
        have a1 : w1.cell? ⟨w.heap.size, 1, none⟩ = some (.string s) := (HA1.out.up' hb1).cell 1
        have b0 : w1.cell? ⟨w.heap.size + 1, 0, none⟩ = some (i64 0) := C1.cell 0
        have b1 : w1.cell? ⟨w.heap.size + 1, 1, none⟩ = some (.string ⟨#[]⟩) := C1.cell 1
        have b2 : w1.cell? ⟨w.heap.size + 1, 2, none⟩ = some (i64 0) := C1.cell 2
        have b3 : w1.cell? ⟨w.heap.size + 1, 3, none⟩ = some (i64 0) := C1.cell 3
        have z0 := C1.frozen 0
        have z1 := C1.frozen 1
        have z2 := C1.frozen 2
        have z3 := C1.frozen 3
        have HC1 := Lib.hid C1
        have HB2 := Lib.hid hB1
        clear C1 hB1 hb1
        go_wp2_with fail
        have M := four (v0 := i64 0) (v1 := .string ⟨#[]⟩) (v2 := i64 0) (v3 := i64 0) HC1.out
        have hB3 := four_below (v0 := i64 0) (v1 := .string ⟨#[]⟩) (v2 := i64 0) (v3 := i64 0) HB2.out (show w.heap.size ≤ w.heap.size + 1 by omega)
        obtain ⟨wf, hwf⟩ : ∃ wf, (((w1.setCell ⟨w.heap.size + 1, 0, none⟩ (i64 0)).setCell ⟨w.heap.size + 1, 1, none⟩ (.string ⟨#[]⟩)).setCell ⟨w.heap.size + 1, 2, none⟩ (i64 0)).setCell ⟨w.heap.size + 1, 3, none⟩ (i64 0) = wf := ⟨_, rfl⟩
        rw [hwf] at M hB3
        rw [hwf]
        have m0 : wf.cell? ⟨w.heap.size + 1, 0, none⟩ = some (i64 0) := M.cell 0
        have m1 : wf.cell? ⟨w.heap.size + 1, 1, none⟩ = some (.string ⟨#[]⟩) := M.cell 1
        have m2 : wf.cell? ⟨w.heap.size + 1, 2, none⟩ = some (i64 0) := M.cell 2
        have m3 : wf.cell? ⟨w.heap.size + 1, 3, none⟩ = some (i64 0) := M.cell 3
        refine bodyPost_ret (v := .tuple #[.agg #[i64 0, .string ⟨#[]⟩, i64 0, i64 0], i64 3]) ?_ rfl ⟨rfl, hB3⟩
        simp [results, go_sem, m0, m1, m2, m3]
    · have h1' : ¬ (1 : Int) < (s.size : Int) := by omega
      rw [if_neg (fun h => h1 h.1)]
      clear h1
      rw [if_pos (show 1000000000 < z by omega)]
      unfold tokV
      clear hbig
      go_enter Tryd.func43, Tryd.ntmps43
      go_wp2_with fail
      refine (HA.out _ VW.out).mono ?_
      rintro e w1 ⟨⟨zz, tt, NN, rfl⟩, hb1⟩
      have hB1 := HB0.out.trans (hb1.mono HB0.out.size)
      have C1 := HB1.out.up' hb1
      have a0 : w1.cell? ⟨w.heap.size, 0, none⟩ = some (i64 4) := (HA1.out.up' hb1).cell 0
      have a1 : w1.cell? ⟨w.heap.size, 1, none⟩ = some (.string s) := (HA1.out.up' hb1).cell 1
      have b0 : w1.cell? ⟨w.heap.size + 1, 0, none⟩ = some (i64 0) := C1.cell 0
      have b1 : w1.cell? ⟨w.heap.size + 1, 1, none⟩ = some (.string ⟨#[]⟩) := C1.cell 1
      have b2 : w1.cell? ⟨w.heap.size + 1, 2, none⟩ = some (i64 0) := C1.cell 2
      have b3 : w1.cell? ⟨w.heap.size + 1, 3, none⟩ = some (i64 0) := C1.cell 3
      have z0 := C1.frozen 0
      have z1 := C1.frozen 1
      have z2 := C1.frozen 2
      have z3 := C1.frozen 3
      have HC1 := Lib.hid C1
      have HB2 := Lib.hid hB1
      clear C1 hB1 hb1
      go_wp2_with fail
      have M := four (v0 := i64 0) (v1 := .string ⟨#[]⟩) (v2 := i64 0) (v3 := i64 0) HC1.out
      have hB3 := four_below (v0 := i64 0) (v1 := .string ⟨#[]⟩) (v2 := i64 0) (v3 := i64 0) HB2.out (show w.heap.size ≤ w.heap.size + 1 by omega)
      obtain ⟨wf, hwf⟩ : ∃ wf, (((w1.setCell ⟨w.heap.size + 1, 0, none⟩ (i64 0)).setCell ⟨w.heap.size + 1, 1, none⟩ (.string ⟨#[]⟩)).setCell ⟨w.heap.size + 1, 2, none⟩ (i64 0)).setCell ⟨w.heap.size + 1, 3, none⟩ (i64 0) = wf := ⟨_, rfl⟩
      rw [hwf] at M hB3
      rw [hwf]
      have m0 : wf.cell? ⟨w.heap.size + 1, 0, none⟩ = some (i64 0) := M.cell 0
      have m1 : wf.cell? ⟨w.heap.size + 1, 1, none⟩ = some (.string ⟨#[]⟩) := M.cell 1
      have m2 : wf.cell? ⟨w.heap.size + 1, 2, none⟩ = some (i64 0) := M.cell 2
      have m3 : wf.cell? ⟨w.heap.size + 1, 3, none⟩ = some (i64 0) := M.cell 3
      refine bodyPost_ret (v := .tuple #[.agg #[i64 0, .string ⟨#[]⟩, i64 0, i64 0], i64 3]) ?_ rfl ⟨rfl, hB3⟩
      simp [results, go_sem, m0, m1, m2, m3]

end Go.Proofs.YtmdogklgbifacaaDoor.Lx
