/- The statements through the layers: their head, the canonical text of a script, a name renamed. -/
import Derived.Test.YtbgekgakamincaaDoorPsVal
import Derived.Test.YtbgekgakamincaaDoorPrC
import Derived.Test.YtbgekgakamincaaDoorConv
namespace Go.Proofs.YtbgekgakamincaaDoor.Tp
open Go.RowKit Go.Proofs.YtbgekgakamincaaDoor.Lx Go.Proofs.YtbgekgakamincaaDoor.Pr Go.Proofs.YtbgekgakamincaaDoor.Ps
set_option linter.unusedVariables false

def hsT : List UInt8 := [114, 117, 110, 32, 32, 53, 59, 35, 32, 120, 10, 114, 111, 111, 116, 32, 114, 32, 97, 116, 32, 49, 32, 50, 59]
def outT : List UInt8 := [114, 117, 110, 32, 53, 59, 10, 114, 111, 111, 116, 32, 114, 32, 97, 116, 32, 49, 32, 50, 59, 10]
theorem parse_T : PARSE hsT = ([⟨11, ⟨#[]⟩, [5], 0⟩, ⟨2, ⟨#[114]⟩, [1, 2], 11⟩], []) := by unfold PARSE; rw [LEX_F]; kernel_rfl
def cT : List Cm := [⟨11, ⟨#[]⟩, none, 1, 1, [5], 0⟩, ⟨2, ⟨#[114]⟩, none, 2, 2, [1, 2], 11⟩]
theorem print_T : printL cT = (outT, 0) := by
  rw [print_law]
  unfold rprintL
  rw [show validB cT = true by kernel_rfl, if_neg (by decide), show outL cT = outT by kernel_rfl, show tokL cT = 9 by kernel_rfl, if_neg (by decide)]
def ParseIsT (r : List PC × List (Nat × Nat)) (W : World) (e : Ending) (w' : World) : Prop :=
  ∃ A n c xs B m d ds, e = .returned (.tuple #[.slice A n c, .slice B m d]) ∧ IsCms w' A n c xs ∧ IsDgs w' B m d ds ∧ Below W.heap.size W w' ∧ xs.map keyQ = r.1.map keyR ∧ ds = r.2
theorem parse_isT (s : ByteArray) (hs : s.size ≤ maxLen) (r : List PC × List (Nat × Nat)) (hr : PARSE s.data.toList = r) (w : World) (hv : Lx.Vars w) : Calls Tryd.prog 8 #[.string s] w (ParseIsT r w) := by
  rw [← hr]; exact parse_val s hs w hv
theorem keyC_Q' (xs : List Cm) : xs.map keyC = (xs.map keyQ).map fun x => (x.1, x.2.1, x.2.2.1) := by rw [List.map_map]; rfl
set_option maxRecDepth 100000 in
set_option maxHeartbeats 2000000 in
theorem thead_val (w : World) (hv : VarP w) : Calls Tryd.prog 6 #[] w fun e w' => e = .returned (.bool true) ∧ Below w.heap.size w w' := by
  have HV := Lib.hid hv
  have HP := Lib.hid (parse_isT ⟨hsT.toArray⟩ (by decide) _ parse_T w hv.err)
  clear hv
  go_enter Tryd.func6, Tryd.ntmps6
  go_wp2_with fail
  refine HP.out.mono ?_
  rintro e1 w1 ⟨A1, n1, c1, xs, B1, m1, d1, ds, rfl, hx, hd, hb1, hk, hds⟩
  dsimp only at hk hds
  subst hds
  have hm : m1 = 0 := hd.1.symm
  subst hm
  have HB1 := Lib.hid hb1
  have HPR := Lib.hid (print_val A1 n1 c1 xs w1 hx (HV.out.up hb1))
  have hkk : xs.map keyC = cT.map keyC := by rw [keyC_Q', hk]; rfl
  rw [print_key hkk, print_T] at HPR
  dsimp only at HPR
  obtain ⟨T, hT⟩ : ∃ T : ByteArray, (⟨outT.toArray⟩ : ByteArray) = T := ⟨_, rfl⟩
  have gT : (T.toList == [114, 117, 110, 32, 53, 59, 10, 114, 111, 111, 116, 32, 114, 32, 97, 116, 32, 49, 32, 50, 59, 10]) = true := by rw [← hT, Lib.toList_data]; kernel_rfl
  rw [hT] at HPR
  clear hx hd hb1 hk hkk hT
  go_wp2_with fail
  refine HPR.out.mono ?_
  rintro e2 w2 ⟨rfl, hb2⟩
  have HB2 := Lib.hid (below_trans' HB1.out hb2)
  clear hb2
  go_wp2_with fail
  go_ret
  exact ⟨rfl, HB2.out⟩
/-- What is known of a script's canonical text. -/
def CanOk (l : List UInt8) (T : ByteArray) : Prop :=
  l.length ≤ 8000 ∧ (PARSE l).2 = [] ∧ ∃ xs : List Cm, xs.map keyQ = (PARSE l).1.map keyR ∧ validB xs = true ∧ T.data.toList = outL xs ∧ (outL xs).length ≤ 8000 ∧ tokL xs ≤ 2000
set_option maxRecDepth 100000 in
set_option maxHeartbeats 2000000 in
theorem canon_val (s : ByteArray) (hs : s.size ≤ maxLen) (w : World) (hv : VarP w) : Calls Tryd.prog 7 #[.string s] w fun e w' =>
    ∃ (T : ByteArray) (ok : Bool), e = .returned (.tuple #[.string T, .bool ok]) ∧ (ok = true → CanOk s.data.toList T) ∧ Below w.heap.size w w' := by
  have HV := Lib.hid hv
  have HP := Lib.hid (parse_val s hs w hv.err)
  have hsl : s.data.toList.length = s.size := Array.length_toList
  obtain ⟨l, hl⟩ : ∃ l, s.data.toList = l := ⟨_, rfl⟩
  rw [hl] at HP hsl ⊢
  clear hv hs hl
  go_enter Tryd.func7, Tryd.ntmps7
  by_cases hbig : 8000 < s.size
  · have hbig' : (8000 : Int) < (s.size : Int) := by omega
    go_wp2_with fail
    go_ret2
    exact ⟨⟨#[]⟩, false, rfl, fun h => (by cases h), Below.refl _ _⟩
  have hbig' : ¬ (8000 : Int) < (s.size : Int) := by omega
  go_wp2_with fail
  refine HP.out.mono ?_
  rintro e1 w1 ⟨A1, n1, c1, xs, B1, q, d1, ds, rfl, hx, hd, hb1, hk, hds⟩
  have HB1 := Lib.hid hb1
  have HPR := Lib.hid (print_val A1 n1 c1 xs w1 hx (HV.out.up hb1))
  have HK := Lib.hid hk
  have hdl := hd.1
  obtain ⟨T, hT⟩ : ∃ T : ByteArray, (⟨(printL xs).1.toArray⟩ : ByteArray) = T := ⟨_, rfl⟩
  obtain ⟨E, hE⟩ : ∃ E, (printL xs).2 = E := ⟨_, rfl⟩
  rw [hT, hE] at HPR
  obtain ⟨v, hvE⟩ : ∃ v, ((E : Int) == 0) = v := ⟨_, rfl⟩
  clear hx hd hb1 hk
  by_cases hd0 : ds = []
  · have hq : q = 0 := by rw [← hdl, hd0]; rfl
    subst hq
    have HG : Hid (v = true → CanOk l T) := Lib.hid (fun h => by
      have h0 : E = 0 := by have h1 := hvE.trans h; rw [beq_iff_eq] at h1; omega
      have hg : (PARSE l).2 = [] := by rw [← hds, hd0]
      rw [h0] at hE
      have hpl := hE
      rw [print_law] at hpl
      obtain ⟨r1, r2, r3, r4⟩ := rprint_ok hpl
      refine ⟨by omega, hg, xs, HK.out, r1, ?_, r2, r3⟩
      rw [← hT, print_law, r4])
    clear hds hdl hd0 hT hE
    go_wp2_with fail
    refine HPR.out.mono ?_
    rintro e2 w2 ⟨rfl, hb2⟩
    have HB2 := Lib.hid (below_trans' HB1.out hb2)
    clear hb2
    cases v with
    | true =>
      go_wp2_with fail
      go_ret2
      exact ⟨T, true, rfl, fun _ => by simpa using HG.out, HB2.out⟩
    | false =>
      go_wp2_with fail
      go_ret2
      exact ⟨T, false, rfl, fun h => (by cases h), HB2.out⟩
  · have hq : ((q : Int) == 0) = false := by
      rw [beq_eq_false_iff_ne]
      have := List.length_pos_iff.2 hd0
      omega
    clear hds hdl hd0 hT hE hvE
    go_wp2_with fail
    refine HPR.out.mono ?_
    rintro e2 w2 ⟨rfl, hb2⟩
    have HB2 := Lib.hid (below_trans' HB1.out hb2)
    clear hb2
    go_wp2_with fail
    go_ret2
    exact ⟨T, false, rfl, fun h => (by cases h), HB2.out⟩
theorem parse_300' (l : List UInt8) : (PARSE l).1.length ≤ 300 := by
  by_cases h : (PARSE l).2 = []
  · exact (good_reads h).2.2
  · rw [(parse_dgs l).1 h]; exact Nat.zero_le _
theorem cms_to' (A : Option Addr) (n c k : Nat) (hk : k ≤ c) (w : World) : (Instr.slice 25 (.slice A n c) none (some (.int .i64 (k : Int))) none).run Tryd.prog w = .ok (.slice A k c) w := by
  rw [run_slice_h w 25 A n c elem_cmd .i64 _ (by omega) (by omega), size_cmd]
  show Result.ok (sliced A 0 (Int.toNat (k : Int)) c 4) w = _
  unfold sliced
  rw [Int.toNat_natCast, Nat.zero_mul, Nat.sub_zero, Nat.sub_zero]
  congr 2
  split
  · rfl
  · cases A <;> rfl
/-- Two letters exchanged. -/
def swp (c : UInt8) : UInt8 := if c = 97 then 101 else if c = 101 then 97 else c
def renB (s : ByteArray) : ByteArray := ⟨(s.data.toList.map swp).toArray⟩
theorem renB_size (s : ByteArray) : (renB s).size = s.size := by
  show (s.data.toList.map swp).toArray.size = _
  rw [List.size_toArray, List.length_map]
  exact Array.length_toList
set_option maxRecDepth 100000 in
set_option maxHeartbeats 4000000 in
theorem renamed_val (s : ByteArray) (hs : s.size ≤ 10000) (w : World) : Calls Tryd.prog 14 #[.string s] w fun e w' => e = .returned (.string (renB s)) ∧ Below w.heap.size w w' := by
  obtain ⟨i0, hi, hz0, hz1, hz2⟩ := info_parts info_byte
  have HL : Hid (s.data.toList.length = s.size) := Lib.hid Array.length_toList
  go_enter Tryd.func14, Tryd.ntmps14
  go_wp2_with fail
  go_loopw [8, 3] (fun i o wr => ∃ (k bc : Nat) (BA : Option Addr), k ≤ s.size ∧ i = i64 (k : Nat) ∧ o = .slice BA k bc ∧ Hid (wr.ownsRow w.heap.size 5 1 (.slice BA k bc) k (Lib.byteCells ((s.data.toList.take k).map swp))) ∧ Hid (Below w.heap.size w wr)) (fun i _ _ => s.size - (intOf i).toNat)
  case atStart => exact ⟨0, 0, none, Nat.zero_le _, rfl, rfl, Lib.hid (World.ownsRow_nil _ _ _ _), Lib.hid (Below.refl _ _)⟩
  case round =>
    obtain ⟨k, bc, BA, hk, rfl, rfl, HO, HBr⟩ := hrel
    by_cases hlt : k < s.size
    · have hlt' : (k : Int) < (s.size : Int) := by omega
      have hkl : k < s.data.toList.length := by rw [HL.out]; exact hlt
      obtain ⟨b, hb⟩ : ∃ b, s[k] = b := ⟨_, rfl⟩
      have hbb : s.data.toList[k]'hkl = b := hb
      have HTK := Lib.hid (show (s.data.toList.take (k + 1)).map swp = (s.data.toList.take k).map swp ++ [swp b] by rw [List.take_succ_eq_append_getElem hkl, List.map_append, hbb]; rfl)
      have h63 : k + 1 ≤ maxLen := by simp only [maxLen]; omega
      have hby : (k + 1) * 1 ≤ 140737488355328 := by omega
      clear hbb
      by_cases h97 : b.toNat = 97
      · have f1 : ((b.toNat : Int) == 97) = true := by rw [beq_iff_eq]; omega
        have hsw : swp b = 101 := by unfold swp; rw [if_pos (UInt8.toNat_inj.1 (by rw [h97]; rfl))]
        clear h97
        have HBL9 := Lib.hid (show ((s.data.toList.take k).map swp) ++ [swp b] = (s.data.toList.take (k + 1)).map swp by rw [HTK.out])
        have hBa := HBr.out.alloc HBr.out.size (.cells #[.int .u8 101] 5)
        have hOa := HO.out.kept (World.grownBy_alloc wr (.cells #[.int .u8 101] 5) none) (Classical.em _)
        have hRa := rd_fresh wr 5 #[.int .u8 101] 1 1 [.int .u8 101] rfl rfl
        have HBA := Lib.hid hBa
        have HOA := Lib.hid hOa
        have HRA := Lib.hid hRa
        have HSW := Lib.hid (show [Value.int .u8 101] = Lib.byteCells [swp b] by rw [hsw]; rfl)
        have HON : Hid (∀ u ∈ [Value.int .u8 101], u.oneCell' = true) := Lib.hid (fun u hu => by
          simp only [List.mem_cons, List.not_mem_nil, or_false] at hu
          rcases hu with rfl
          rfl)
        clear hsw hBa hOa hRa
        go_wp2_with (at_builtin; refine wpList_append_rd _ rfl (.tmp 19) (.tmp 21) _ rfl w.heap.size 5 i0 _ 1 1 Tryd.underlying65 hi hz0 hz1 hz2 rfl (by decide) _ k _ rfl HOA.out _ (some ⟨wr.heap.size, 0, none⟩) 1 1 _ rfl HRA.out HON.out h63 hby HBA.out.size ?_; intro A5 c5 w9 hown hfm hgr; have HO5 := Lib.hid hown; have HB5 := Lib.hid (own_below HOA.out hgr HBA.out (Nat.le_refl _) HBA.out.size); clear hown hfm hgr)
        refine ⟨⟨k + 1, c5, A5, by omega, rfl, rfl, Lib.hid (by rw [← HBL9.out, Lib.byteCells_append, ← HSW.out]; exact HO5.out), HB5⟩, ?_⟩
        simp only [intOf]; omega
      · have f1 : ((b.toNat : Int) == 97) = false := by rw [beq_eq_false_iff_ne]; omega
        have hn97 : ¬ b = 97 := fun h => h97 (by rw [h]; rfl)
        by_cases h101 : b.toNat = 101
        · have f2 : ((b.toNat : Int) == 101) = true := by rw [beq_iff_eq]; omega
          have hsw : swp b = 97 := by unfold swp; rw [if_neg hn97, if_pos (UInt8.toNat_inj.1 (by rw [h101]; rfl))]
          clear h97 h101 hn97
          have HBL9 := Lib.hid (show ((s.data.toList.take k).map swp) ++ [swp b] = (s.data.toList.take (k + 1)).map swp by rw [HTK.out])
          have hBa := HBr.out.alloc HBr.out.size (.cells #[.int .u8 97] 5)
          have hOa := HO.out.kept (World.grownBy_alloc wr (.cells #[.int .u8 97] 5) none) (Classical.em _)
          have hRa := rd_fresh wr 5 #[.int .u8 97] 1 1 [.int .u8 97] rfl rfl
          have HBA := Lib.hid hBa
          have HOA := Lib.hid hOa
          have HRA := Lib.hid hRa
          have HSW := Lib.hid (show [Value.int .u8 97] = Lib.byteCells [swp b] by rw [hsw]; rfl)
          have HON : Hid (∀ u ∈ [Value.int .u8 97], u.oneCell' = true) := Lib.hid (fun u hu => by
            simp only [List.mem_cons, List.not_mem_nil, or_false] at hu
            rcases hu with rfl
            rfl)
          clear hsw hBa hOa hRa
          go_wp2_with (at_builtin; refine wpList_append_rd _ rfl (.tmp 19) (.tmp 21) _ rfl w.heap.size 5 i0 _ 1 1 Tryd.underlying65 hi hz0 hz1 hz2 rfl (by decide) _ k _ rfl HOA.out _ (some ⟨wr.heap.size, 0, none⟩) 1 1 _ rfl HRA.out HON.out h63 hby HBA.out.size ?_; intro A5 c5 w9 hown hfm hgr; have HO5 := Lib.hid hown; have HB5 := Lib.hid (own_below HOA.out hgr HBA.out (Nat.le_refl _) HBA.out.size); clear hown hfm hgr)
          refine ⟨⟨k + 1, c5, A5, by omega, rfl, rfl, Lib.hid (by rw [← HBL9.out, Lib.byteCells_append, ← HSW.out]; exact HO5.out), HB5⟩, ?_⟩
          simp only [intOf]; omega
        · have f2 : ((b.toNat : Int) == 101) = false := by rw [beq_eq_false_iff_ne]; omega
          have hn101 : ¬ b = 101 := fun h => h101 (by rw [h]; rfl)
          have hsw : swp b = b := by unfold swp; rw [if_neg hn97, if_neg hn101]
          clear h97 h101 hn97 hn101
          have HBL9 := Lib.hid (show ((s.data.toList.take k).map swp) ++ [swp b] = (s.data.toList.take (k + 1)).map swp by rw [HTK.out])
          have hBa := HBr.out.alloc HBr.out.size (.cells #[.int .u8 (b.toNat : Int)] 5)
          have hOa := HO.out.kept (World.grownBy_alloc wr (.cells #[.int .u8 (b.toNat : Int)] 5) none) (Classical.em _)
          have hRa := rd_fresh wr 5 #[.int .u8 (b.toNat : Int)] 1 1 [.int .u8 (b.toNat : Int)] rfl rfl
          have HBA := Lib.hid hBa
          have HOA := Lib.hid hOa
          have HRA := Lib.hid hRa
          have HSW := Lib.hid (show [Value.int .u8 (b.toNat : Int)] = Lib.byteCells [swp b] by rw [hsw]; rfl)
          have HON : Hid (∀ u ∈ [Value.int .u8 (b.toNat : Int)], u.oneCell' = true) := Lib.hid (fun u hu => by
            simp only [List.mem_cons, List.not_mem_nil, or_false] at hu
            rcases hu with rfl
            rfl)
          clear hsw hBa hOa hRa
          go_wp2_with (at_builtin; refine wpList_append_rd _ rfl (.tmp 19) (.tmp 21) _ rfl w.heap.size 5 i0 _ 1 1 Tryd.underlying65 hi hz0 hz1 hz2 rfl (by decide) _ k _ rfl HOA.out _ (some ⟨wr.heap.size, 0, none⟩) 1 1 _ rfl HRA.out HON.out h63 hby HBA.out.size ?_; intro A5 c5 w9 hown hfm hgr; have HO5 := Lib.hid hown; have HB5 := Lib.hid (own_below HOA.out hgr HBA.out (Nat.le_refl _) HBA.out.size); clear hown hfm hgr)
          refine ⟨⟨k + 1, c5, A5, by omega, rfl, rfl, Lib.hid (by rw [← HBL9.out, Lib.byteCells_append, ← HSW.out]; exact HO5.out), HB5⟩, ?_⟩
          simp only [intOf]; omega
    · have hlt' : ¬ (k : Int) < (s.size : Int) := by omega
      obtain rfl : k = s.size := by omega
      have hcv := conv_own HO.out
      rw [List.take_of_length_le (by rw [HL.out]; exact Nat.le_refl _)] at hcv
      have hrn : (⟨(s.data.toList.map swp).toArray⟩ : ByteArray) = renB s := rfl
      rw [hrn] at hcv
      clear hrn
      go_wp2_with fail
      go_ret
      exact ⟨rfl, HBr.out⟩
end Go.Proofs.YtbgekgakamincaaDoor.Tp
