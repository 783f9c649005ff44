/- The law LexerWriting. -/
import Derived.Test.YtgfolnmaakbkcaaDoorLxThy4
import Derived.Test.YtgfolnmaakbkcaaDoorLxCut
namespace Go.Proofs.YtgfolnmaakbkcaaDoor.Lx
open Go.RowKit
set_option linter.unusedVariables false

set_option maxRecDepth 100000 in
set_option maxHeartbeats 1000000 in
theorem lexerWriting_walk (s : ByteArray) (w : World) (hs : s.size ≤ maxLen) (_hz : s.size ≤ 140737488351232) (hw : Vars w) :
    Calls Tryd.prog 7 #[.string s] w fun e w' => e = .returned (.bool true) ∧ Below w.heap.size w w' := by
  have HH := Lib.hid (head_val w hw)
  have HW := Lib.hid hw
  by_cases hbig : 8000 < s.size
  · have hb : (8000 : Int) < (s.size : Int) := by omega
    clear hbig hw
    go_enter Tryd.func7, Tryd.ntmps7
    go_wp2_with fail
    refine HH.out.mono ?_
    rintro e w1 ⟨rfl, hb1⟩
    go_wp2_with fail
    go_ret
    exact ⟨rfl, hb1⟩
  have hb : ¬ (8000 : Int) < (s.size : Int) := by omega
  have HL1 := Lib.hid (lex_val s hs)
  obtain ⟨r, hr⟩ : ∃ r, LEX s.data.toList = r := ⟨_, rfl⟩
  have hok := LEX_ok s.data.toList
  have hlen := LEX_len s.data.toList
  have hgd := LEX_good (l := s.data.toList)
  have hwl := fun ts => write_len (l := s.data.toList) (ts := ts)
  have hwr := fun ts => write_law (l := s.data.toList) (ts := ts)
  rw [hr] at HL1 hok hlen hgd hwl hwr
  obtain ⟨ts, er, po⟩ := r
  dsimp only at hok hlen hgd
  by_cases h0 : er ≠ 0
  · have hE : ((er : Int) != 0) = true := by rw [bne_iff_ne]; omega
    clear hbig hw hr h0 hok hlen hgd hwl hwr
    go_enter Tryd.func7, Tryd.ntmps7
    go_wp2_with fail
    refine HH.out.mono ?_
    rintro e w1 ⟨rfl, hb1⟩
    have HB1 := Lib.hid hb1
    clear hb1
    go_wp2_with fail
    refine (HL1.out _ (HW.out.up HB1.out)).mono ?_
    rintro e w2 ⟨X, n, c, rfl, hT1, hb2⟩
    have HB2 := Lib.hid (below_trans' HB1.out hb2)
    clear hT1 hb2
    go_wp2_with fail
    go_ret
    exact ⟨rfl, HB2.out⟩
  obtain rfl : er = 0 := Classical.not_not.1 h0
  obtain rfl : po = 0 := (hgd rfl).2.2
  have HOK := Lib.hid hok
  have HWL := Lib.hid (hwl ts rfl)
  have HWR := Lib.hid (hwr ts rfl)
  obtain ⟨n, hn⟩ : ∃ n, ts.length = n := ⟨_, rfl⟩
  rw [hn] at hlen
  have HN := Lib.hid hn
  clear hbig hw hr h0 hok hgd hwl hwr hn
  go_enter Tryd.func7, Tryd.ntmps7
  go_wp2_with fail
  refine HH.out.mono ?_
  rintro e w1 ⟨rfl, hb1⟩
  have HB1 := Lib.hid hb1
  clear hb1
  go_wp2_with fail
  refine (HL1.out _ (HW.out.up HB1.out)).mono ?_
  rintro e w2 ⟨X, n', c, rfl, hT1, hb2⟩
  have HB2 := Lib.hid (below_trans' HB1.out hb2)
  obtain rfl : n' = n := hT1.2.1.symm.trans HN.out
  have HT1 := Lib.hid hT1
  clear hT1 hb2
  go_wp2_with fail
  go_loopw [7, 8] (fun u i wr => ∃ (k : Nat) (S : ByteArray), k ≤ n' ∧ i = i64 (k : Nat) ∧ u = .string S ∧ Hid (S.data.toList = wtext (ts.take k)) ∧ Below w2.heap.size w2 wr) (fun _ i _ => n' - (intOf i).toNat)
  case atStart => exact ⟨0, ⟨#[]⟩, Nat.zero_le _, rfl, rfl, Lib.hid rfl, Below.refl _ _⟩
  case round =>
    obtain ⟨k, S, hk, rfl, rfl, HS, hB⟩ := hrel
    have HB := Lib.hid hB
    have hSl : S.size ≤ 2000 * 8001 := by
      have h1 : S.data.toList.length = S.size := Array.length_toList
      have h2 := wtext_len (ts.take k) (fun t ht => HWL.out t (List.mem_of_mem_take ht))
      rw [List.length_take, HN.out, Nat.min_eq_left hk] at h2
      rw [← h1, HS.out]
      omega
    clear hB
    by_cases hlt : k < n'
    · have hlt' : (k : Int) < (n' : Int) := by omega
      have hkt : k < ts.length := by rw [HN.out]; exact hlt
      obtain ⟨b, off, rfl, hb4, hc4⟩ := rd_el (dec := decT) (s := 4) (fun _ => rfl) (HT1.out.up HB.out).1 HN.out hkt
      have c0 := hc4 0 _ rfl
      have c1 := hc4 1 _ rfl
      have c2 := hc4 2 _ rfl
      have c3 := hc4 3 _ rfl
      rw [Nat.add_zero] at c0
      have HX := Lib.hid (text_val ts[k] (HOK.out _ (List.getElem_mem hkt)).2)
      have hTl : (textB ts[k]).size ≤ 8000 := by
        have h1 : (textL ts[k]).length = (textB ts[k]).size := Array.length_toList
        have h2 := HWL.out _ (List.getElem_mem hkt)
        omega
      have hS2 := wtext_snoc ts k hkt
      have hTL : textL ts[k] = (textB ts[k]).data.toList := rfl
      rw [hTL] at hS2
      have HS2 := Lib.hid hS2
      obtain ⟨t, ht⟩ : ∃ t, ts[k] = t := ⟨_, rfl⟩
      rw [ht] at c0 c1 c2 c3 HX hTl HS2
      obtain ⟨tb, htb⟩ : ∃ tb, textB t = tb := ⟨_, rfl⟩
      rw [htb] at HX hTl HS2
      clear hlt hc4 hS2 hTL ht htb hkt
      have hq1 : ¬ 9223372036854775807 < tb.size + 1 := by omega
      have hq2 : ¬ 9223372036854775807 < S.size + (tb.size + 1) := by omega
      go_wp2_with fail
      refine (HX.out _).mono ?_
      rintro e w4 ⟨rfl, hb4'⟩
      have HB4 := Lib.hid (below_trans' HB.out hb4')
      clear hb4'
      go_wp2_with fail
      case roundEnd =>
        refine ⟨⟨k + 1, S ++ (tb ++ ⟨#[32]⟩), by omega, rfl, rfl, Lib.hid ?_, HB4.out⟩, ?_⟩
        · rw [HS2.out, add_list, add_list, HS.out]
        · simp only [intOf]; omega
    · have hlt' : ¬ (k : Int) < (n' : Int) := by omega
      obtain rfl : k = n' := by omega
      have hS := HS.out
      rw [List.take_of_length_le (by rw [HN.out]; exact Nat.le_refl _)] at hS
      have HB3 := Lib.hid (below_trans' HB2.out HB.out)
      have HT2 := Lib.hid (HT1.out.up HB.out)
      obtain ⟨q1, q2⟩ := HWR.out
      have hsz : (wtext ts).length = S.size := by rw [← hS]; exact Array.length_toList
      have HL2 := Lib.hid (lex_val S (by unfold maxLen; omega))
      rw [hsz, ← hS] at q1 q2
      by_cases hlong : 8000 < S.size
      · have hlong' : (8000 : Int) < (S.size : Int) := by omega
        rw [q2 hlong] at HL2
        clear q1 q2 hlong hlt hsz hS
        go_wp2_with fail
        refine (HL2.out _ (HW.out.up HB3.out)).mono ?_
        rintro e w5 ⟨Y, u, v, rfl, hT5, hb5⟩
        have HB5 := Lib.hid (below_trans' HB3.out hb5)
        clear hT5 hb5
        go_wp2_with fail
        go_ret
        exact ⟨rfl, HB5.out⟩
      · have hlong' : ¬ (8000 : Int) < (S.size : Int) := by omega
        obtain ⟨us, e1, e2⟩ := q1 (by omega)
        rw [e1] at HL2
        have HE2 := Lib.hid e2
        clear q1 q2 hlong hlt hsz hS e1 e2
        go_wp2_with fail
        refine (HL2.out _ (HW.out.up HB3.out)).mono ?_
        rintro e w5 ⟨Y, u, v, rfl, hT5, hb5⟩
        have hA := alike_val _ _ _ _ _ _ _ _ w5 (HT2.out.up hb5) hT5
        rw [HE2.out] at hA
        have HA := Lib.hid hA
        have HB5 := Lib.hid (below_trans' HB3.out hb5)
        clear hT5 hb5 hA
        go_wp2_with fail
        refine HA.out.mono ?_
        rintro e w6 ⟨rfl, hb6⟩
        have HB6 := Lib.hid (below_trans' HB5.out hb6)
        clear hb6
        go_wp2_with fail
        go_ret
        exact ⟨rfl, HB6.out⟩
end Go.Proofs.YtgfolnmaakbkcaaDoor.Lx
