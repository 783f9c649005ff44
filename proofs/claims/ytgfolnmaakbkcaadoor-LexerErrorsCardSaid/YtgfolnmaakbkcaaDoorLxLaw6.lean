/- The law LexerErrors. -/
import Derived.Test.YtgfolnmaakbkcaaDoorLxCut
namespace Go.Proofs.YtgfolnmaakbkcaaDoor.Lx
open Go.RowKit
set_option linter.unusedVariables false

set_option maxRecDepth 100000 in
set_option maxHeartbeats 1000000 in
theorem lexerErrors_walk (s t : ByteArray) (w : World) (hs : s.size ≤ maxLen) (_hz : s.size ≤ 140737488351232) (ht : t.size ≤ maxLen) (_hzt : t.size ≤ 140737488351232) (hw : Vars w) :
    Calls Tryd.prog 8 #[.string s, .string t] w fun e w' => e = .returned (.bool true) ∧ Below w.heap.size w w' := by
  have hl : s.data.toList.length = s.size := Array.length_toList
  have hlt : t.data.toList.length = t.size := Array.length_toList
  have HH := Lib.hid (head_val w hw)
  have HW := Lib.hid hw
  by_cases hbig : 8000 < s.size
  · have hb : (8000 : Int) < (s.size : Int) := by omega
    clear hbig hl hlt hw
    go_enter Tryd.func8, Tryd.ntmps8
    go_wp2_with fail
    refine HH.out.mono ?_
    rintro e w1 ⟨rfl, hb1⟩
    go_wp2_with fail
    go_ret
    exact ⟨rfl, hb1⟩
  by_cases hbig2 : 8000 < t.size
  · have hb : ¬ (8000 : Int) < (s.size : Int) := by omega
    have hb' : (8000 : Int) < (t.size : Int) := by omega
    clear hbig hbig2 hl hlt hw
    go_enter Tryd.func8, Tryd.ntmps8
    go_wp2_with fail
    refine HH.out.mono ?_
    rintro e w1 ⟨rfl, hb1⟩
    go_wp2_with fail
    go_ret
    exact ⟨rfl, hb1⟩
  have hb : ¬ (8000 : Int) < (s.size : Int) := by omega
  have hb' : ¬ (8000 : Int) < (t.size : Int) := by omega
  have HL1 := Lib.hid (lex_val s hs w)
  by_cases h0 : (LEX s.data.toList).err = 0
  · have hg := LEX_good h0
    obtain ⟨r, hr⟩ : ∃ r, LEX s.data.toList = r := ⟨_, rfl⟩
    have HL1 := Lib.hid (lex_val s hs)
    rw [hr] at HL1 h0 hg
    obtain ⟨ts, er, po⟩ := r
    obtain ⟨_, _, hp⟩ := hg
    have h0 : er = 0 := h0
    have hp : po = 0 := hp
    subst h0
    subst hp
    clear hbig hbig2 hl hlt hw hr
    go_enter Tryd.func8, Tryd.ntmps8
    go_wp2_with fail
    refine HH.out.mono ?_
    rintro e w1 ⟨rfl, hb1⟩
    have HB1 := Lib.hid hb1
    clear hb1
    go_wp2_with fail
    refine (HL1.out _ (HW.out.up HB1.out)).mono ?_
    rintro e w2 ⟨A, n, c, rfl, hT1, hb2⟩
    have HB2 := Lib.hid (below_trans' HB1.out hb2)
    clear hT1 hb2
    go_wp2_with fail
    go_ret
    exact ⟨rfl, HB2.out⟩
  · obtain ⟨e1, e2, e3, ⟨A, e4, e5⟩, e6⟩ := err_law (l := s.data.toList) (by omega) h0
    have e6 := e6 t.data.toList
    obtain ⟨r, hr⟩ : ∃ r, LEX s.data.toList = r := ⟨_, rfl⟩
    have HL1 := Lib.hid (lex_val s hs)
    rw [hr] at HL1 h0 e1 e2 e3 e4 e5 e6
    obtain ⟨ts, er, po⟩ := r
    dsimp only at h0 e1 e2 e3 e4 e5 e6
    subst e3
    have HE := Lib.hid (end_val s po hs (by omega))
    obtain ⟨m, hm⟩ : ∃ m, po + endLen (s.data.toList.drop po) = m := ⟨_, rfl⟩
    rw [hm] at HE e2 e6
    have hc1 := cut_to s po (by omega)
    have hc2 := cut_to s m (by omega)
    have hz1 := strT_size (s := s) (p := po) (by omega)
    have hz2 := strT_size (s := s) (p := m) (by omega)
    have HL2 := Lib.hid (lex_val (strT s po) (by rw [hz1]; unfold maxLen; omega))
    rw [strT_list, e4] at HL2
    obtain ⟨s1, hs1⟩ : ∃ s1, strT s po = s1 := ⟨_, rfl⟩
    obtain ⟨s2, hs2⟩ : ∃ s2, strT s m = s2 := ⟨_, rfl⟩
    have hs2l : s2.data.toList = s.data.toList.take m := by rw [← hs2]; rfl
    rw [← hs2l] at e6
    rw [hs1] at hc1 hz1 HL2
    rw [hs2] at hc2 hz2
    have hE : ((er : Int) == 0) = false := by rw [beq_eq_false_iff_ne]; omega
    have hp1 : ¬ (po : Int) < 0 := by omega
    have hp2 : (po : Int) < (s.size : Int) := by omega
    have hms : m ≤ 8000 := by omega
    clear hbig hbig2 hw hr e4 hm hs1 hs2 e1 e2
    have hq1 : ¬ 9223372036854775807 < m + 1 := by omega
    have hq2 : ¬ 9223372036854775807 < m + 1 + t.size := by omega
    have hsz : (s2 ++ (⟨#[32]⟩ : ByteArray) ++ t).data.toList = s2.data.toList ++ 32 :: t.data.toList := by
      rw [add_list, add_list, List.append_assoc]; rfl
    have hln : (s2.data.toList ++ 32 :: t.data.toList).length = m + 1 + t.size := by
      rw [List.length_append, List.length_cons, hlt, show s2.data.toList.length = s2.size from Array.length_toList, hz2]; omega
    rw [hln] at e6
    have hlz : (s2 ++ (⟨#[32]⟩ : ByteArray) ++ t).size = m + 1 + t.size := by
      rw [show (s2 ++ (⟨#[32]⟩ : ByteArray) ++ t).size = (s2 ++ (⟨#[32]⟩ : ByteArray) ++ t).data.toList.length from Array.length_toList.symm, hsz, hln]
    have HL3 := Lib.hid (lex_val (s2 ++ (⟨#[32]⟩ : ByteArray) ++ t) (by rw [hlz]; unfold maxLen; omega))
    rw [hsz] at HL3
    clear hsz hln hlz hl hlt hs2l
    have HE5 := Lib.hid e5
    have HE6 := Lib.hid e6
    clear e5 e6
    go_enter Tryd.func8, Tryd.ntmps8
    go_wp2_with fail
    refine HH.out.mono ?_
    rintro e w1 ⟨rfl, hb1⟩
    have HB1 := Lib.hid hb1
    clear hb1
    go_wp2_with fail
    refine (HL1.out _ (HW.out.up HB1.out)).mono ?_
    rintro e w2 ⟨X, n, c, rfl, hT1, hb2⟩
    have HB2 := Lib.hid (below_trans' HB1.out hb2)
    clear hT1 hb2
    go_wp2_with fail
    refine (HL2.out _ (HW.out.up HB2.out)).mono ?_
    rintro e w3 ⟨Y, k, d, rfl, hT2, hb3⟩
    have HB3 := Lib.hid (below_trans' HB2.out hb3)
    have hk : k = A.length := hT2.2.1.symm
    clear hT2 hb3
    go_wp2_with fail
    refine (HE.out _).mono ?_
    rintro e w4 ⟨rfl, rfl⟩
    by_cases hlong : 8000 < m + 1 + t.size
    · have hlo : (8000 : Int) < (m : Int) + 1 + (t.size : Int) := by omega
      clear hlong
      go_wp2_with fail
      go_ret
      exact ⟨rfl, HB3.out⟩
    · have hlo : ¬ (8000 : Int) < (m : Int) + 1 + (t.size : Int) := by omega
      have e6 := HE6.out (by omega)
      rw [e6] at HL3
      clear hlong e6
      go_wp2_with fail
      refine (HL3.out _ (HW.out.up HB3.out)).mono ?_
      rintro e w5 ⟨Z, u, v, rfl, hT3, hb5⟩
      have HB5 := Lib.hid (below_trans' HB3.out hb5)
      clear hT3 hb5
      by_cases h2 : er = 2
      · have hA := HE5.out h2
        subst h2
        have hA' : ((A.length : Int) == 2000) = true := by rw [hA]; rfl
        clear hA
        go_wp2_with fail
        go_ret
        exact ⟨rfl, HB5.out⟩
      · have hA' : ((er : Int) != 2) = true := by rw [bne_iff_ne]; omega
        go_wp2_with fail
        go_ret
        exact ⟨rfl, HB5.out⟩
end Go.Proofs.YtgfolnmaakbkcaaDoor.Lx
