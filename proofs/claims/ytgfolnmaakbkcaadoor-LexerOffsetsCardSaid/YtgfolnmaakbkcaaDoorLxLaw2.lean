/- The law LexerOffsets. -/
import Derived.Test.YtgfolnmaakbkcaaDoorLxGaps
namespace Go.Proofs.YtgfolnmaakbkcaaDoor.Lx
open Go.RowKit
set_option linter.unusedVariables false

def strM (s : ByteArray) (a b : Nat) : ByteArray := ⟨((s.data.toList.take b).drop a).toArray⟩
theorem cut_mid (s : ByteArray) (a b : Nat) (h : a ≤ b) (hb : b ≤ s.size) (w : World) :
    (Instr.slice 9 (.string s) (some (.int .i64 (a : Int))) (some (.int .i64 (b : Int))) none).run Tryd.prog w = .ok (.string (strM s a b)) w := by
  rw [run_slice_string w 9 s .i64 .i64 _ _ Tryd.underlying9 (by omega) (by omega) (by omega), Int.toNat_natCast, Int.toNat_natCast]
  have e := extract_eq s a (b - a)
  rw [show a + (b - a) = b by omega] at e
  rw [e]
  unfold strM
  rw [List.drop_take]

set_option maxRecDepth 100000 in
set_option maxHeartbeats 1000000 in
theorem lexerOffsets_walk (s : ByteArray) (w : World) (hs : s.size ≤ maxLen) (_hz : s.size ≤ 140737488351232) (hw : Vars w) :
    Calls Tryd.prog 4 #[.string s] w fun e w' => e = .returned (.bool true) ∧ Below w.heap.size w w' := by
  have HH := Lib.hid (head_val w hw)
  have HW := Lib.hid hw
  by_cases hbig : 10000 < s.size
  · have hb : (10000 : Int) < (s.size : Int) := by omega
    clear hbig hw
    go_enter Tryd.func4, Tryd.ntmps4
    go_wp2_with fail
    refine HH.out.mono ?_
    rintro e w1 ⟨rfl, hb1⟩
    go_wp2_with fail
    go_ret
    exact ⟨rfl, hb1⟩
  have hb : ¬ (10000 : Int) < (s.size : Int) := by omega
  have HL1 := Lib.hid (lex_val s hs)
  obtain ⟨r, hr⟩ : ∃ r, LEX s.data.toList = r := ⟨_, rfl⟩
  have hok := LEX_ok s.data.toList
  have hlen := LEX_len s.data.toList
  have hgd := LEX_good (l := s.data.toList)
  have hck := fun ts => chk_law (l := s.data.toList) (ts := ts)
  have hnil : (LEX s.data.toList).err ≠ 0 → (LEX s.data.toList).toks = [] := fun h => by
    unfold LEX at h ⊢
    split
    · rfl
    · rename_i hx
      rw [if_neg hx] at h
      cases hlx : lexE [] (spans s.data.toList 0) with
      | error e => rfl
      | ok ts => rw [hlx] at h; exact absurd rfl h
  rw [hr] at HL1 hok hlen hgd hck hnil
  obtain ⟨ts, er, po⟩ := r
  dsimp only at hok hlen hgd hnil
  by_cases h0 : er ≠ 0
  · have hE : ((er : Int) != 0) = true := by rw [bne_iff_ne]; omega
    obtain rfl : ts = [] := hnil h0
    clear hbig hw hr h0 hok hlen hgd hck hnil
    go_enter Tryd.func4, Tryd.ntmps4
    go_wp2_with fail
    refine HH.out.mono ?_
    rintro e w1 ⟨rfl, hb1⟩
    have HB1 := Lib.hid hb1
    clear hb1
    go_wp2_with fail
    refine (HL1.out _ (HW.out.up HB1.out)).mono ?_
    rintro e w2 ⟨X, n, c, rfl, hT1, hb2⟩
    obtain rfl : n = 0 := hT1.2.1.symm
    have HB2 := Lib.hid (below_trans' HB1.out hb2)
    clear hT1 hb2
    go_wp2_with fail
    go_ret
    exact ⟨rfl, HB2.out⟩
  obtain rfl : er = 0 := Classical.not_not.1 h0
  obtain rfl : po = 0 := (hgd rfl).2.2
  have HOK := Lib.hid hok
  have HCK := Lib.hid (hck ts rfl)
  obtain ⟨n, hn⟩ : ∃ n, ts.length = n := ⟨_, rfl⟩
  rw [hn] at hlen
  have HN := Lib.hid hn
  have HSL : Hid (s.data.toList.length = s.size) := Lib.hid Array.length_toList
  have hs' : s.size ≤ 10000 := by omega
  clear hbig hw hr h0 hok hgd hck hn hnil
  go_enter Tryd.func4, Tryd.ntmps4
  go_wp2_with fail
  refine HH.out.mono ?_
  rintro e w1 ⟨rfl, hb1⟩
  have HB1 := Lib.hid hb1
  clear hb1
  go_wp2_with fail
  refine (HL1.out _ (HW.out.up HB1.out)).mono ?_
  rintro e w2 ⟨X, n', c, rfl, hT1, hb2⟩
  have HB2 := Lib.hid (below_trans' HB1.out hb2)
  obtain rfl : n' = n := hT1.2.1.symm.trans HN.out
  have HT1 := Lib.hid hT1
  clear hT1 hb2
  go_wp2_with fail
  go_loopw [3, 7, 8] (fun u3 u7 i wr => ∃ (k a : Nat), k ≤ n' ∧ i = i64 (k : Nat) ∧ u3 = .bool true ∧ u7 = i64 (a : Nat) ∧ a ≤ s.size ∧ Hid (chk s.data.toList a (ts.drop k)) ∧ Below w2.heap.size w2 wr) (fun _ _ i _ => n' - (intOf i).toNat)
  case atStart => exact ⟨0, 0, Nat.zero_le _, rfl, rfl, rfl, Nat.zero_le _, Lib.hid HCK.out, Below.refl _ _⟩
  case round =>
    obtain ⟨k, a, hk, rfl, rfl, rfl, ha, HC, hB⟩ := hrel
    have HB := Lib.hid hB
    clear hB
    by_cases hlt : k < n'
    · have hlt' : (k : Int) < (n' : Int) := by omega
      have hkt : k < ts.length := by rw [HN.out]; exact hlt
      obtain ⟨b, off, rfl, hb4, hc4⟩ := rd_el (dec := decT) (s := 4) (fun _ => rfl) (HT1.out.up HB.out).1 HN.out hkt
      have c0 := hc4 0 _ rfl
      have c1 := hc4 1 _ rfl
      have c2 := hc4 2 _ rfl
      have c3 := hc4 3 _ rfl
      rw [Nat.add_zero] at c0
      have hC := HC.out
      rw [List.drop_eq_getElem_cons hkt] at hC
      have HX := Lib.hid (text_val ts[k] (HOK.out _ (List.getElem_mem hkt)).2)
      obtain ⟨⟨tk, tt, tn, tp⟩, ht⟩ : ∃ t, ts[k] = t := ⟨_, rfl⟩
      rw [ht] at c0 c1 c2 c3 HX hC
      obtain ⟨q1, q2, q3, q4, q5, q6⟩ := hC
      obtain ⟨tb, htb⟩ : ∃ tb, textB ⟨tk, tt, tn, tp⟩ = tb := ⟨_, rfl⟩
      have hTL : textL ⟨tk, tt, tn, tp⟩ = tb.data.toList := by unfold textL; rw [htb]
      rw [htb] at HX
      rw [hTL] at q1 q3 q4 q6
      have hbl : tb.data.toList.length = tb.size := Array.length_toList
      rw [hbl, HSL.out] at q3
      rw [hbl] at q4 q6
      dsimp only at c0 c1 c2 c3 q2 q3 q4 q5 q6 HX
      have hne : (tb.toList == []) = false := by
        rw [beq_eq_false_iff_ne]
        intro e
        have e2 : tb = ⟨#[]⟩ := bytes_of_list (e.trans (by rw [ByteArray.toList, ByteArray.toList.loop]; rfl))
        exact q1 (by rw [e2])
      have hsl := slice_str s tp tb.size q3
      have hext : s.extract tp (tp + tb.size) = tb := by rw [extract_eq, q4]
      rw [hext] at hsl
      have hcm := cut_mid s a tp q2 (by omega)
      have HG := Lib.hid (gaps_val (strM s a tp) false (by
        show ((s.data.toList.take tp).drop a).toArray.size ≤ maxLen
        rw [List.size_toArray, List.length_drop, List.length_take, HSL.out]
        unfold maxLen; omega))
      have hgb : gapB false (strM s a tp).data.toList = true := by
        show gapB false ((s.data.toList.take tp).drop a) = true
        unfold gapB
        rw [q5]; rfl
      rw [hgb] at HG
      have HC2 := Lib.hid q6
      have hsum : IntKind.i64.wrap ((tp : Int) + (tb.size : Int)) = (tp : Int) + (tb.size : Int) := Go.IntWalk.i64_in _ (by omega)
      obtain ⟨gs, hgs⟩ : ∃ gs, strM s a tp = gs := ⟨_, rfl⟩
      rw [hgs] at hcm HG
      have h60 : ¬ (tp : Int) < (a : Int) := by omega
      have h66 : ¬ (s.size : Int) < (tp : Int) + (tb.size : Int) := by omega
      clear hlt hc4 ht htb hTL hbl q1 q4 q5 q6 hext hgb hgs hkt
      go_wp2_with fail
      refine (HX.out _).mono ?_
      rintro e w4 ⟨rfl, hb4'⟩
      have HB4 := Lib.hid (below_trans' HB.out hb4')
      have c3' := (hb4'.cell (p := ⟨b, off + k * 4 + 3, none⟩) (cell_lt c3)).trans c3
      clear hb4' c0 c1 c2 c3
      go_wp2_with fail
      refine (HG.out _).mono ?_
      rintro e w5 ⟨rfl, rfl⟩
      go_wp2_with fail
      case roundEnd =>
        refine ⟨⟨k + 1, tp + tb.size, by omega, rfl, rfl, by rw [show ((tp + tb.size : Nat) : Int) = (tp : Int) + (tb.size : Int) by omega], q3, HC2, HB4.out⟩, ?_⟩
        simp only [intOf]; omega
    · have hlt' : ¬ (k : Int) < (n' : Int) := by omega
      obtain rfl : k = n' := by omega
      have hC := HC.out
      rw [List.drop_of_length_le (by rw [HN.out]; exact Nat.le_refl _)] at hC
      obtain ⟨cc, hcc⟩ := hC
      have hcf := cut_from s a ha
      have HG := Lib.hid (gaps_val (strD s a) true (by rw [strD_size]; unfold maxLen; omega))
      have hgb : gapB true (strD s a).data.toList = true := by
        show gapB true (s.data.toList.drop a) = true
        unfold gapB
        rw [hcc]; rfl
      rw [hgb] at HG
      obtain ⟨gs, hgs⟩ : ∃ gs, strD s a = gs := ⟨_, rfl⟩
      rw [hgs] at hcf HG
      have HB3 := Lib.hid (below_trans' HB2.out HB.out)
      clear hlt hcc hgb hgs
      go_wp2_with fail
      refine (HG.out _).mono ?_
      rintro e w5 ⟨rfl, rfl⟩
      go_wp2_with fail
      go_ret
      exact ⟨rfl, HB3.out⟩
end Go.Proofs.YtgfolnmaakbkcaaDoor.Lx
