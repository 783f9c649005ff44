/- The law TreeOne. -/
import Derived.Test.YthaibmkieflafaaTrLaws2
namespace Go.Proofs.Ythaibmkieflafaa.Tr
open Go.RowKit Go.Proofs.Ythaibmkieflafaa.Dig
set_option linter.unusedVariables false

theorem info_u8 : (Try.prog.info? 5).map (fun i => (i.zero, i.size, i.bytes)) = some (some (.int .u8 0), 1, 1) := by kernel_rfl
theorem xor_u8 (a b : UInt8) : bits .xor .u8 (a.toNat : Int) (b.toNat : Int) = ((a ^^^ b).toNat : Int) := by
  rw [u8_xor_nat _ _ (UInt8.toNat_lt a) (UInt8.toNat_lt b), UInt8.toNat_xor]
theorem u8_zero (b : UInt8) (h : b ≠ 0) : ((b.toNat : Int) == 0) = false := by
  rw [beq_eq_false_iff_ne]
  exact fun e => h (UInt8.toNat_inj.1 (by simpa using e))
theorem checkv_up {r : UInt64} {n i : Int} {p : List UInt8} {pf : List UInt64} (h : checkv r n i p pf = true) : up n.toNat i.toNat (leaf p) pf = some r := by
  unfold checkv at h
  simp only [Bool.and_eq_true, decide_eq_true_eq] at h
  exact h.2
theorem checkv_not {r : UInt64} {n i : Int} {p q : List UInt8} {pf : List UInt64} (h : checkv r n i p pf = true) (hne : leaf p ≠ leaf q) : checkv r n i q pf = false := by
  cases hq : checkv r n i q pf with
  | false => rfl
  | true => exact absurd (up_inj _ _ _ _ _ (checkv_up h) (checkv_up hq)) hne
theorem leaf_xor {l : List UInt8} {i : Nat} (h : i < l.length) {b : UInt8} (hb : b ≠ 0) : leaf l ≠ leaf (l.set i (l[i] ^^^ b)) := by
  unfold leaf
  exact dsum_xor h hb

set_option maxRecDepth 100000 in
set_option maxHeartbeats 4000000 in
theorem treeOne_walk (r : UInt64) (x i : Int) (P : Option Addr) (k q : Nat) (pf : List UInt64) (A : Option Addr) (n c : Nat) (la : List UInt8) (B : Option Addr) (m d : Nat) (lb : List UInt8) (x6 : Int) (x7 : UInt8) (W : World)
    (g1 : (Lit.int .i64 x).wf = true) (g2 : (Lit.int .i64 i).wf = true) (g3 : IsU64s W P k q pf) (g4 : IsBytes W A n c la) (g5 : IsBytes W B m d lb) (g6 : (Lit.int .u16 x6).wf = true) :
    Calls Try.prog 14 #[u64 r, i64 x, i64 i, .slice P k q, .slice A n c, .slice B m d, .int .u16 x6, ub x7] W fun e w' => e = .returned (.bool true) ∧ Below W.heap.size W w' := by
  obtain ⟨hkl, hP, hkq, hqm⟩ := g3
  obtain ⟨hal, hA, hnc, hcm⟩ := g4
  obtain ⟨hbl, hB, hmd, hdm⟩ := g5
  have HP := Lib.hid hP; clear hP
  have HA := Lib.hid hA; clear hA
  have HBy := Lib.hid hB; clear hB
  have HL0 := Lib.hid hal
  have hn : n ≤ maxLen := by omega
  have hm : m ≤ maxLen := by omega
  have hk : k ≤ maxLen := by omega
  clear hkl hal hbl
  obtain ⟨hx0, hx1⟩ := bounds_u16 g6
  obtain ⟨i0, hi, hz0, hz1, hz2⟩ := info_parts info_u8
  go_enter Try.func14, Try.ntmps14
  go_wp2_with fail
  refine (head_val _).mono ?_
  rintro e w1 ⟨rfl, hb1⟩
  have HP1 := Lib.hid (HP.out.up hb1)
  have HA1 := Lib.hid (HA.out.up hb1)
  have HB1 := Lib.hid (HBy.out.up hb1)
  by_cases h300 : (300 : Int) < n
  · go_wp2_with fail
    go_ret
    exact ⟨rfl, hb1⟩
  · by_cases h300b : (300 : Int) < m
    · go_wp2_with fail
      go_ret
      exact ⟨rfl, hb1⟩
    · by_cases h20 : (20 : Int) < k
      · go_wp2_with fail
        go_ret
        exact ⟨rfl, hb1⟩
      · go_wp2_with fail
        refine (check_any r x i A P n c k q la pf _ rfl w1 HA1.out HP1.out hn hkq hqm).mono ?_
        rintro e w2 ⟨rfl, hb2⟩
        have HP2 := Lib.hid (HP1.out.up hb2)
        have HA2 := Lib.hid (HA1.out.up hb2)
        have HB2 := Lib.hid (HB1.out.up hb2)
        have hB2 := below_trans' hb1 hb2
        cases hca : checkv r x i la pf with
        | false =>
          go_wp2_with fail
          go_ret
          exact ⟨rfl, hB2⟩
        | true =>
          have HCa := Lib.hid hca
          clear hca
          go_wp2_with fail
          refine (check_any r x i B P m d k q lb pf _ rfl w2 HB2.out HP2.out hm hkq hqm).mono ?_
          rintro e w3 ⟨rfl, hb3⟩
          have HP3 := Lib.hid (HP2.out.up hb3)
          have HA3 := Lib.hid (HA2.out.up hb3)
          have HB3 := Lib.hid (HB2.out.up hb3)
          have hB3 := below_trans' hB2 hb3
          cases hcb : checkv r x i lb pf with
          | false =>
            clear hcb
            by_cases h0 : n = 0
            · have e0 : ((n : Int) == 0) = true := by rw [beq_iff_eq]; omega
              go_wp2_with fail
              go_ret
              exact ⟨rfl, hB3⟩
            · have e0 : ((n : Int) == 0) = false := by rw [beq_eq_false_iff_ne]; omega
              by_cases hx : x7 = 0
              · have ex : ((x7.toNat : Int) == 0) = true := by rw [hx]; rfl
                clear hx h0
                go_wp2_with fail
                go_ret
                exact ⟨rfl, hB3⟩
              · have ex := u8_zero x7 hx
                have hp : 0 < n := by omega
                clear h0
                have hsz := hB3.size
                have hown0 := World.ownsRow_lit (base := W.heap.size) (e := 5) (size := 1) w3 #[] 0 hsz (by decide) rfl
                have hB4 : Below W.heap.size W (w3.alloc (.cells #[] 5)) := hB3.alloc hsz _
                have HBf := Lib.hid (HA.out.below' hB4 (Nat.le_refl _))
                obtain ⟨j, hj⟩ : ∃ j : Nat, x6 % (n : Int) = j := ⟨(x6 % (n : Int)).toNat, by have := Int.emod_nonneg x6 (b := (n : Int)) (by omega); omega⟩
                have hjn : j < n := by have := Int.emod_lt_of_pos x6 (b := (n : Int)) (by omega); omega
                have hjl : j < la.length := by have := HL0.out; omega
                go_wp2_with (at_builtin; refine wpList_append_rd _ rfl (.tmp 64) (.tmp 65) _ rfl W.heap.size 5 i0 _ 1 1 Try.underlying22 hi hz0 hz1 hz2 rfl (by omega) _ 0 [] rfl hown0 _ A n c _ rfl HBf.out (one_ub la) (by simp only [maxLen]; omega) (by omega) hB4.size ?_; intro Aa ca w5 hown1 hfm hg1; simp only [Nat.zero_add, List.nil_append] at hown1 hfm; have hB5 := own_below hown0 hg1 hB4 (Nat.le_refl _) hB4.size; obtain ⟨g, rfl⟩ := hfm hp; have hcell := hown1.cellAt j (by omega); have hfr := hown1.frozenAt j; rw [List.getElem?_map, List.getElem?_eq_getElem hjl] at hcell; simp only [Option.map_some] at hcell)
                obtain ⟨hown2, hg2⟩ := hown1.stored j (.int .u8 (bits .xor .u8 (la[j].toNat : Int) (x7.toNat : Int)))
                have hBg := (own_block hown1 g rfl).1
                have hB6 := hB5.setCell (p := ⟨g, j, none⟩) hBg (.int .u8 (bits .xor .u8 (la[j].toNat : Int) (x7.toNat : Int)))
                have hRd := Rd.of_own hown2
                have heq : (la.map ub).set j (.int .u8 (bits .xor .u8 (la[j].toNat : Int) (x7.toNat : Int))) = (la.set j (la[j] ^^^ x7)).map ub := by rw [xor_u8, List.map_set]
                rw [heq] at hRd
                clear heq
                have HN := checkv_not HCa.out (leaf_xor hjl hx)
                refine (check_any r x i _ P n _ k q (la.set j (la[j] ^^^ x7)) pf _ HN _ hRd (HP.out.up hB6) hn hkq hqm).mono ?_
                rintro e w7 ⟨rfl, hb7⟩
                have hB7 := below_trans' hB6 hb7
                go_wp2_with fail
                go_ret
                exact ⟨rfl, hB7⟩
          | true =>
            have HLe := Lib.hid (up_inj _ _ _ _ _ (checkv_up HCa.out) (checkv_up hcb))
            clear hcb
            go_wp2_with fail
            refine (lawLeaf_val A n c la w3 HA3.out hn).mono ?_
            rintro e w4 ⟨rfl, hb4⟩
            have hB4 := below_trans' hB3 hb4
            have HB4 := Lib.hid (HB3.out.up hb4)
            go_wp2_with fail
            refine (lawLeaf_val B m d lb w4 HB4.out hm).mono ?_
            rintro e w5 ⟨rfl, hb5⟩
            have hB5 := below_trans' hB4 hb5
            rw [HLe.out]
            by_cases h0 : n = 0
            · have e0 : ((n : Int) == 0) = true := by rw [beq_iff_eq]; omega
              go_wp2_with fail
              go_ret
              exact ⟨rfl, hB5⟩
            · have e0 : ((n : Int) == 0) = false := by rw [beq_eq_false_iff_ne]; omega
              by_cases hx : x7 = 0
              · have ex : ((x7.toNat : Int) == 0) = true := by rw [hx]; rfl
                clear hx h0
                go_wp2_with fail
                go_ret
                exact ⟨rfl, hB5⟩
              · have ex := u8_zero x7 hx
                have hp : 0 < n := by omega
                clear h0
                have hsz := hB5.size
                have hown0 := World.ownsRow_lit (base := W.heap.size) (e := 5) (size := 1) w5 #[] 0 hsz (by decide) rfl
                have hB5a : Below W.heap.size W (w5.alloc (.cells #[] 5)) := hB5.alloc hsz _
                have HBf := Lib.hid (HA.out.below' hB5a (Nat.le_refl _))
                obtain ⟨j, hj⟩ : ∃ j : Nat, x6 % (n : Int) = j := ⟨(x6 % (n : Int)).toNat, by have := Int.emod_nonneg x6 (b := (n : Int)) (by omega); omega⟩
                have hjn : j < n := by have := Int.emod_lt_of_pos x6 (b := (n : Int)) (by omega); omega
                have hjl : j < la.length := by have := HL0.out; omega
                go_wp2_with (at_builtin; refine wpList_append_rd _ rfl (.tmp 64) (.tmp 65) _ rfl W.heap.size 5 i0 _ 1 1 Try.underlying22 hi hz0 hz1 hz2 rfl (by omega) _ 0 [] rfl hown0 _ A n c _ rfl HBf.out (one_ub la) (by simp only [maxLen]; omega) (by omega) hB5a.size ?_; intro Aa ca w5b hown1 hfm hg1; simp only [Nat.zero_add, List.nil_append] at hown1 hfm; have hB5c := own_below hown0 hg1 hB5a (Nat.le_refl _) hB5a.size; obtain ⟨g, rfl⟩ := hfm hp; have hcell := hown1.cellAt j (by omega); have hfr := hown1.frozenAt j; rw [List.getElem?_map, List.getElem?_eq_getElem hjl] at hcell; simp only [Option.map_some] at hcell)
                obtain ⟨hown2, hg2⟩ := hown1.stored j (.int .u8 (bits .xor .u8 (la[j].toNat : Int) (x7.toNat : Int)))
                have hBg := (own_block hown1 g rfl).1
                have hB6 := hB5c.setCell (p := ⟨g, j, none⟩) hBg (.int .u8 (bits .xor .u8 (la[j].toNat : Int) (x7.toNat : Int)))
                have hRd := Rd.of_own hown2
                have heq : (la.map ub).set j (.int .u8 (bits .xor .u8 (la[j].toNat : Int) (x7.toNat : Int))) = (la.set j (la[j] ^^^ x7)).map ub := by rw [xor_u8, List.map_set]
                rw [heq] at hRd
                clear heq
                have HN := checkv_not HCa.out (leaf_xor hjl hx)
                refine (check_any r x i _ P n _ k q (la.set j (la[j] ^^^ x7)) pf _ HN _ hRd (HP.out.up hB6) hn hkq hqm).mono ?_
                rintro e w7 ⟨rfl, hb7⟩
                have hB7 := below_trans' hB6 hb7
                go_wp2_with fail
                go_ret
                exact ⟨rfl, hB7⟩
end Go.Proofs.Ythaibmkieflafaa.Tr
