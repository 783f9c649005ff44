/- The law LexerGaps. -/
import Derived.Deep.RegionLaw
import Derived.Deep.RegionHeld3
import Derived.Deep.DeepCutAuto
import Derived.Test.YtgfolnmaakbkcaaDoorLxPick
import Derived.Test.YtgfolnmaakbkcaaDoorExt
namespace Go.Proofs.YtgfolnmaakbkcaaDoor.Lx
open Go.RowKit
set_option linter.unusedVariables false

theorem strT_all (s : ByteArray) : strT s s.size = s := by
  have hl : s.data.toList.length = s.size := Array.length_toList
  unfold strT
  rw [List.take_of_length_le (by omega)]

set_option maxRecDepth 100000 in
set_option maxHeartbeats 2000000 in
theorem lexerGaps_walk (s : ByteArray) (x y : Int) (w : World) (hs : s.size ≤ maxLen) (_hz : s.size ≤ 140737488351232) (hx : (Lit.int .i64 x).wf = true) (hy : (Lit.int .i64 y).wf = true) (hw : Vars w) :
    Calls Tryd.prog 5 #[.string s, i64 x, i64 y] w fun e w' => e = .returned (.bool true) ∧ Below w.heap.size w w' := by
  have hl : s.data.toList.length = s.size := Array.length_toList
  have HH := Lib.hid (head_val w hw)
  have HW := Lib.hid hw
  by_cases hbig : 8000 < s.size
  · have hb : (8000 : Int) < (s.size : Int) := by omega
    obtain ⟨p, hp⟩ : ∃ p : Nat, min s.size 10000 = p := ⟨_, rfl⟩
    have hmin : min (s.size : Int) 10000 = (p : Int) := by omega
    have hc := cut_to s p (by omega)
    have hcs := strT_size (s := s) (p := p) (by omega)
    have HL := Lib.hid (lex_val (strT s p) (by rw [hcs]; unfold maxLen; omega))
    clear hbig hl hw hp
    go_enter Tryd.func5, Tryd.ntmps5
    go_wp2_with fail
    refine HH.out.mono ?_
    rintro e w1 ⟨rfl, hb1⟩
    have HB1 := Lib.hid hb1
    clear hb1
    go_wp2_with fail
    trace_state
    refine (HL.out _ (HW.out.up HB1.out)).mono ?_
    rintro e w2 ⟨X, n, c, rfl, hT1, hb2⟩
    have HB2 := Lib.hid (below_trans' HB1.out hb2)
    clear hT1 hb2
    go_wp2_with fail
    go_ret
    exact ⟨rfl, HB2.out⟩
  have hb : ¬ (8000 : Int) < (s.size : Int) := by omega
  have hmin : min (s.size : Int) 10000 = (s.size : Int) := by omega
  have hc := cut_to s s.size (Nat.le_refl _)
  rw [strT_all] at hc
  have HL1 := Lib.hid (lex_val s hs)
  obtain ⟨r, hr⟩ : ∃ r, LEX s.data.toList = r := ⟨_, rfl⟩
  have hpos := LEX_ok s.data.toList
  have hlen := LEX_len s.data.toList
  have hgd := LEX_good (l := s.data.toList)
  rw [hr] at HL1 hpos hlen hgd
  obtain ⟨ts, er, po⟩ := r
  dsimp only at hpos hlen hgd
  by_cases h0 : er ≠ 0
  · have hE : ((er : Int) != 0) = true := by rw [bne_iff_ne]; omega
    clear hbig hl hw hr h0 hpos hlen hgd
    go_enter Tryd.func5, Tryd.ntmps5
    go_wp2_with fail
    refine HH.out.mono ?_
    rintro e w1 ⟨rfl, hb1⟩
    have HB1 := Lib.hid hb1
    clear hb1
    go_wp2_with fail
    refine (HL1.out _ (HW.out.up HB1.out)).mono ?_
    rintro e w2 ⟨X, n, c, rfl, hT1, hb2⟩
    have HB2 := Lib.hid (below_trans' HB1.out hb2)
    clear hT1 hb2
    go_wp2_with fail
    go_ret
    exact ⟨rfl, HB2.out⟩
  obtain rfl : er = 0 := Classical.not_not.1 h0
  obtain rfl : po = 0 := (hgd rfl).2.2
  obtain ⟨n, hn⟩ : ∃ n, ts.length = n := ⟨_, rfl⟩
  rw [hn] at hlen
  obtain ⟨k, hk⟩ : ∃ k, pickN x (n + 1) = k := ⟨_, rfl⟩
  obtain ⟨j, hj⟩ : ∃ j, pickN y 5 = j := ⟨_, rfl⟩
  have hk1 : k ≤ n := by have := pickN_lt x (n := n + 1) (by omega); omega
  have hj1 : j < 5 := by have := pickN_lt y (n := 5) (by omega); omega
  have HP1 := Lib.hid (pick_val x (n + 1) hx (by omega) (by unfold maxLen; omega))
  have HP2 := Lib.hid (pick_val y 5 hy (by omega) (by decide))
  rw [hk, show ((n + 1 : Nat) : Int) = (n : Int) + 1 by omega] at HP1
  rw [hj] at HP2
  obtain ⟨hG, hg1, hg9⟩ := gapOf_good j
  obtain ⟨g1, g2⟩ := gap_law (k := k) hG hr (by omega)
  obtain ⟨P, hP⟩ : ∃ P, placeOf s.data.toList ts k = P := ⟨_, rfl⟩
  rw [hP, hl] at g1
  rw [hP] at g2
  have hgz : (gapOf j).data.toList.length = (gapOf j).size := Array.length_toList
  clear hx hy hgd hG hbig hw hr
  go_enter Tryd.func5, Tryd.ntmps5
  go_wp2_with fail
  refine HH.out.mono ?_
  rintro e w1 ⟨rfl, hb1⟩
  have HB1 := Lib.hid hb1
  clear hb1
  go_wp2_with fail
  refine (HL1.out _ (HW.out.up HB1.out)).mono ?_
  rintro e w2 ⟨X, n', c, rfl, hT1, hb2⟩
  have HB2 := Lib.hid (below_trans' HB1.out hb2)
  obtain rfl : n' = n := hT1.2.1.symm.trans hn
  have HT1 := Lib.hid hT1
  clear hT1 hb2
  go_wp2_with fail
  refine (HP2.out _).mono ?_
  rintro e w3 ⟨rfl, hw3⟩
  have BC : Blk w3 w2.heap.size 9 #[.string ⟨#[32]⟩, .string ⟨#[9]⟩, .string ⟨#[10]⟩, .string ⟨#[35, 32, 97, 59, 32, 98, 32, 55, 10]⟩, .string ⟨#[10, 35, 10]⟩] := by rw [← hw3]; exact Blk.new w2 _ _
  have hcell : w3.cell? ⟨w2.heap.size, j, none⟩ = some (.string (gapOf j)) := by
    rw [BC.cell j]
    have : j = 0 ∨ j = 1 ∨ j = 2 ∨ j = 3 ∨ j = 4 := by omega
    rcases this with rfl | rfl | rfl | rfl | rfl <;> rfl
  have HB3 : Hid (Below w.heap.size w w3) := Lib.hid (by rw [← hw3]; exact HB2.out.alloc HB2.out.size _)
  have HT3 : Hid (Toks w3 X n' c ts) := Lib.hid (HT1.out.up (by rw [← hw3]; exact (Below.refl _ w2).alloc (Nat.le_refl _) _))
  have hf : placeOf s.data.toList ts k = P := hP
  obtain ⟨g, hgg⟩ : ∃ g, gapOf j = g := ⟨_, rfl⟩
  rw [hgg] at hcell g2 hg1 hg9 hgz
  clear BC hgg HP2 hj HB2 HT1 hw3
  go_wp2_with fail
  refine (HP1.out _).mono ?_
  rintro e w4 ⟨rfl, rfl⟩
  go_upto_if 55 with fail
  go_cut [14] (fun s14 wx => s14 = i64 (P : Nat) ∧ wx = w3)
  case first =>
    by_cases hkn : k < n'
    · have hkn' : (k : Int) < (n' : Int) := by omega
      have hkt : k < ts.length := by omega
      obtain ⟨b, off, rfl, hb4, hc4⟩ := rd_el (dec := decT) (s := 4) (fun _ => rfl) HT3.out.1 HT3.out.2.1 hkt
      have c3 := hc4 3 _ rfl
      have hpp : ts[k].pos = P := by
        rw [← hf]; unfold placeOf; rw [dif_pos hkt]
      rw [hpp] at c3
      clear hkn hc4 hf hpp
      go_wp2_with fail
      go_meet
      exact ⟨rfl, rfl⟩
    · have hkn' : ¬ (k : Int) < (n' : Int) := by omega
      have hpp : s.size = P := by
        rw [← hf]; unfold placeOf; rw [dif_neg (by omega)]; exact hl.symm
      subst hpp
      clear hkn
      go_wp2_with fail
      go_meet
      exact ⟨rfl, rfl⟩
  case rest =>
    obtain ⟨rfl, rfl⟩ := hcut
    have hc1 := cut_to s P g1
    have hc2 := cut_from s P g1
    have z1 := strT_size g1
    have z2 := strD_size s P
    have hlist : (strT s P ++ g ++ strD s P).data.toList = s.data.toList.take P ++ (g.data.toList ++ s.data.toList.drop P) := by
      rw [add_list, add_list, List.append_assoc]; rfl
    have hln : (s.data.toList.take P ++ (g.data.toList ++ s.data.toList.drop P)).length = s.size + g.size := by
      rw [List.length_append, List.length_append, List.length_take, List.length_drop, hl, hgz]; omega
    have hlz : (strT s P ++ g ++ strD s P).size = s.size + g.size := by
      rw [show (strT s P ++ g ++ strD s P).size = (strT s P ++ g ++ strD s P).data.toList.length from Array.length_toList.symm, hlist, hln]
    have HL3 := Lib.hid (lex_val (strT s P ++ g ++ strD s P) (by rw [hlz]; unfold maxLen; omega))
    rw [hlist] at HL3
    have hlong : 8000 < s.size + g.size → LEX (s.data.toList.take P ++ (g.data.toList ++ s.data.toList.drop P)) = ⟨[], 2, 0⟩ := fun h => by
      unfold LEX; rw [if_pos (by omega)]
    rw [hln] at g2
    obtain ⟨r3, hr3⟩ : ∃ r3, LEX (s.data.toList.take P ++ (g.data.toList ++ s.data.toList.drop P)) = r3 := ⟨_, rfl⟩
    rw [hr3] at HL3 g2 hlong
    obtain ⟨sa, hsa⟩ : ∃ sa, strT s P = sa := ⟨_, rfl⟩
    obtain ⟨sd, hsd⟩ : ∃ sd, strD s P = sd := ⟨_, rfl⟩
    rw [hsa] at hc1 z1 HL3
    rw [hsd] at hc2 z2 HL3
    have hq1 : ¬ 9223372036854775807 < P + g.size := by omega
    have hq2 : ¬ 9223372036854775807 < P + g.size + (s.size - P) := by omega
    have HG2 := Lib.hid g2
    have HLO := Lib.hid hlong
    have HN := Lib.hid hn
    have HPT : Hid (∀ t ∈ ts, t.pos ≤ 20000) := Lib.hid (fun t ht => by have := (hpos t ht).1; omega)
    have hgl := hgz
    clear g2 hlong hlist hln hlz hsa hsd hr3 hf hP hl hpos hn hgz
    go_upto_region 13 with fail
    go_cut [15, 16, 17] (fun s15 s16 s17 wx => ∃ Z u v, s15 = .slice Z u v ∧ s16 = i64 (r3.err : Nat) ∧ s17 = i64 (r3.pos : Nat) ∧ Hid (Toks wx Z u v r3.toks) ∧ Below wc.heap.size wc wx)
    case first =>
      go_region_held3 (fun W => True) (first | go_keep | trivial) (first
        | (go_at_call 10; refine (HL3.out _ (HW.out.up HB3.out.drew)).mono ?_; rintro e w5 ⟨Z, u, v, rfl, hT5, hb5⟩; have HT5 := Lib.hid hT5; have HB5 : Hid (Below wc.heap.size wc w5) := Lib.hid (((Below.refl _ wc).drew).trans (hb5.mono (Nat.le_refl _))); clear hT5 hb5)
        | fail)
      all_goals
        go_wp2_with fail
        go_meet
        exact ⟨_, _, _, rfl, rfl, rfl, HT5, HB5.out⟩
    case rest =>
      obtain ⟨Z, u, v, rfl, rfl, rfl, HT5, hb5⟩ := hcut
      have HB6 := Lib.hid (below_trans' HB3.out hb5)
      have HT6 := Lib.hid (HT3.out.up hb5)
      clear HB3 HT3 hb5
      have hu := HT5.out.2.1
      by_cases hbl : 8000 < s.size + g.size
      · have e := HLO.out hbl
        subst e
        have hbl' : (8000 : Int) < (s.size : Int) + (g.size : Int) := by omega
        clear hbl
        go_wp2_with fail
        go_ret
        exact ⟨rfl, HB6.out⟩
      · have e := HG2.out (by omega)
        subst e
        have hbl' : ¬ (8000 : Int) < (s.size : Int) + (g.size : Int) := by omega
        have hu' : u = n' := by
          have h := HN.out
          rw [← hu, List.length_append, mv_len, List.length_take, List.length_drop]
          omega
        subst hu'
        have hcv := HT5.out.2.2.1
        have hcc := HT6.out.2.2.1
        have hkl : k ≤ ts.length := by rw [HN.out]; exact hk1
        have s1 := toks_to X u c k (by omega)
        have s2 := toks_to Z u v k (by omega)
        have s3 := toks_from X u c k hk1
        have s4 := toks_from Z u v k hk1
        have hup : ∀ a b, Below wc.heap.size wc a → Below a.heap.size a b → Below wc.heap.size wc b := fun a b h k => below_trans' h k
        have hA : (ts.take k ++ mv g.data.toList.length (ts.drop k)).take k = ts.take k := by
          rw [List.take_append_of_le_length (by rw [List.length_take]; omega), List.take_take, Nat.min_self]
        have hB : (ts.take k ++ mv g.data.toList.length (ts.drop k)).drop k = mv g.size (ts.drop k) := by
          rw [List.drop_append_of_le_length (by rw [List.length_take]; omega), List.drop_of_length_le (by rw [List.length_take]; omega), List.nil_append, hgl]
        have S1 : Hid (∀ q : WOf (Below wc.heap.size wc), Calls Tryd.prog 12 #[.slice X k c, .slice Z k v, i64 0] q.w fun e w' => e = .returned (.bool true) ∧ Below q.w.heap.size q.w w') := Lib.hid (fun q => by
          have := same_val X k c _ Z k v _ 0 (by decide) (fun t ht => HPT.out t (List.mem_of_mem_take ht)) q.w ((HT6.out.take hk1).up q.ok) ((HT5.out.take hk1).up q.ok)
          rw [hA, sameB_refl] at this
          exact this)
        have S2 : Hid (∀ q : WOf (Below wc.heap.size wc), Calls Tryd.prog 12 #[.slice (cutA X c k) (u - k) (c - k), .slice (cutA Z v k) (u - k) (v - k), i64 (g.size : Nat)] q.w fun e w' => e = .returned (.bool true) ∧ Below q.w.heap.size q.w w') := Lib.hid (fun q => by
          have := same_val _ _ _ _ _ _ _ _ g.size (by omega) (fun t ht => HPT.out t (List.mem_of_mem_drop ht)) q.w ((HT6.out.drop hk1).up q.ok) ((HT5.out.drop hk1).up q.ok)
          rw [hB, sameB_mv] at this
          exact this)
        clear hbl hA hB hkl hu
        go_wp2_with fail
        refine wp_region_ext (Below wc.heap.size wc) (Below.refl _ _) hup (by kernel_rfl) (by kernel_rfl) (fun hne => ?_)
        repeat (go_big_quiet_step (first | with_reducible exact calls_ext hup (S1.out _) | with_reducible exact calls_ext hup (S2.out _)))
        refine wpQuiet_nil ?_
        clear hne
        intro wx hx'
        obtain ⟨⟨wx', hx⟩, rfl⟩ := hx'
        go_wp2_with fail
        go_ret
        exact ⟨rfl, below_trans' HB6.out hx⟩
end Go.Proofs.YtgfolnmaakbkcaaDoor.Lx
