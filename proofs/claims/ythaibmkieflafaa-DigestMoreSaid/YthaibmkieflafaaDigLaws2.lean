/- The walks of the statements on digests that copy strings: the digest of two parts; a byte that is turned. -/
import Derived.Test.YthaibmkieflafaaApp
import Derived.Test.YthaibmkieflafaaDigLaws
namespace Go.Proofs.Ythaibmkieflafaa.Dig
open Go.RowKit

theorem info_u8 : (Try.prog.info? 5).map (fun i => (i.zero, i.size, i.bytes)) = some (some (.int .u8 0), 1, 1) := by kernel_rfl

theorem digestParts_walk (A0 : Option Addr) (n0 c0 : Nat) (l0 : List UInt8) (A1 : Option Addr) (n1 c1 : Nat) (l1 : List UInt8) (x2 : UInt64) (w : World) (g0 : IsBytes w A0 n0 c0 l0) (g1 : IsBytes w A1 n1 c1 l1) :
    Calls Try.prog 4 #[.slice A0 n0 c0, .slice A1 n1 c1, u64 x2] w fun e w' => e = .returned (.bool true) ∧ Below w.heap.size w w' := by
  obtain ⟨hl0, hR0, hc0, hm0⟩ := g0
  obtain ⟨hl1, hR1, hc1, hm1⟩ := g1
  have HL0 := Lib.hid hl0; clear hl0
  have HL1 := Lib.hid hl1; clear hl1
  have hm0 := Nat.le_trans hc0 hm0
  have hm1 := Nat.le_trans hc1 hm1
  obtain ⟨i0, hi, hz0, hz1, hz2⟩ := info_parts info_u8
  by_cases hlen : n0 ≤ 5000 ∧ n1 ≤ 5000
  · obtain ⟨hlen0, hlen1⟩ := hlen
    go_enter Try.func4, Try.ntmps4
    go_wp2_with fail
    refine (head_any _).mono ?_
    rintro e w1 ⟨rfl, hb1⟩
    have hsz := hb1.size
    have hown0 := World.ownsRow_lit (base := w.heap.size) (e := 5) (size := 1) w1 #[] 0 hb1.size (by decide) rfl
    have hB1 : Below w.heap.size w (w1.alloc (.cells #[] 5)) := hb1.alloc hsz _
    go_wp2_with (first
      | (at_builtin; refine wpList_append_rd _ rfl (.tmp 19) (.tmp 20) _ rfl w.heap.size 5 i0 _ 1 1 Try.underlying22 hi hz0 hz1 hz2 rfl (by omega) _ 0 [] rfl hown0 _ A0 n0 c0 _ rfl (hR0.up hB1) (one_ub l0) (by simp only [maxLen]; omega) (by omega) hB1.size ?_; intro Aa ca w2 hown1 _ hg1; simp only [Nat.zero_add, List.nil_append] at hown1; have hB2 := own_below hown0 hg1 hB1 (Nat.le_refl _) hB1.size)
      | (at_builtin; refine wpList_append_rd _ rfl (.tmp 21) (.tmp 22) _ rfl w.heap.size 5 i0 _ 1 1 Try.underlying22 hi hz0 hz1 hz2 rfl (by omega) _ _ _ rfl hown1 _ A1 n1 c1 _ rfl (hR1.up hB2) (one_ub l1) (by simp only [maxLen]; omega) (by omega) hB2.size ?_; intro Ab cb w3 hown2 _ hg2; have hB3 := own_below hown1 hg2 hB2 (Nat.le_refl _) hB2.size))
    have hRd := Rd.of_own hown2
    rw [← List.map_append] at hRd
    refine (sum_any _ _ _ l0 _ (hR0.up hB3) hm0).mono ?_
    rintro e w4 ⟨rfl, hb4⟩
    have hB4 := below_trans' hB3 hb4
    go_wp2_with fail
    refine (add_any _ _ _ _ l1 _ (hR1.up hB4) hm1).mono ?_
    rintro e w5 ⟨rfl, hb5⟩
    have hB5 := below_trans' hB4 hb5
    have hb35 := below_trans' hb4 hb5
    go_wp2_with fail
    refine (sum_any _ _ _ (l0 ++ l1) _ (hRd.up hb35) (by simp only [maxLen]; omega)).mono ?_
    rintro e w6 ⟨rfl, hb6⟩
    have hB6 := below_trans' hB5 hb6
    have hb36 := below_trans' hb35 hb6
    have e1 : (((dadd (dsum l0) l1).toNat : Int) == ((dsum (l0 ++ l1)).toNat : Int)) = true := by simp [dsum, dadd_append]
    go_wp2_with fail
    refine (add_any _ _ _ _ l0 _ (hR0.up hB6) hm0).mono ?_
    rintro e w7 ⟨rfl, hb7⟩
    have hB7 := below_trans' hB6 hb7
    have hb37 := below_trans' hb36 hb7
    go_wp2_with fail
    refine (add_any _ _ _ _ l1 _ (hR1.up hB7) hm1).mono ?_
    rintro e w8 ⟨rfl, hb8⟩
    have hB8 := below_trans' hB7 hb8
    have hb38 := below_trans' hb37 hb8
    go_wp2_with fail
    refine (add_any _ _ _ _ (l0 ++ l1) _ (hRd.up hb38) (by simp only [maxLen]; omega)).mono ?_
    rintro e w9 ⟨rfl, hb9⟩
    have hB9 := below_trans' hB8 hb9
    have e2 : (((dadd (dadd x2 l0) l1).toNat : Int) == ((dadd x2 (l0 ++ l1)).toNat : Int)) = true := by simp [dadd_append]
    go_wp2_with fail
    refine (add_any _ none 0 0 [] _ Rd.nil_ (by decide)).mono ?_
    rintro e w10 ⟨rfl, hb10⟩
    have hB10 := below_trans' hB9 hb10
    have e3 : (((dadd x2 []).toNat : Int) == (x2.toNat : Int)) = true := by simp [dadd_nil]
    go_wp2_with fail
    go_ret
    exact ⟨rfl, hB10⟩
  · by_cases hlen0 : n0 ≤ 5000
    · have hlen1 : 5000 < n1 := by omega
      go_enter Try.func4, Try.ntmps4
      go_wp2_with fail
      refine (head_any _).mono ?_
      rintro e w1 ⟨rfl, hb1⟩
      go_wp2_with fail
      go_ret
      exact ⟨rfl, hb1⟩
    · go_enter Try.func4, Try.ntmps4
      go_wp2_with fail
      refine (head_any _).mono ?_
      rintro e w1 ⟨rfl, hb1⟩
      go_wp2_with fail
      go_ret
      exact ⟨rfl, hb1⟩

theorem xor_u8 (a b : UInt8) : bits .xor .u8 (a.toNat : Int) (b.toNat : Int) = ((a ^^^ b).toNat : Int) := by
  rw [u8_xor_nat _ _ (UInt8.toNat_lt a) (UInt8.toNat_lt b), UInt8.toNat_xor]
theorem u8_zero (b : UInt8) (h : b ≠ 0) : ((b.toNat : Int) == 0) = false := by
  rw [beq_eq_false_iff_ne]
  exact fun e => h (UInt8.toNat_inj.1 (by simpa using e))

theorem digestByte_walk (A0 : Option Addr) (n0 c0 : Nat) (l0 : List UInt8) (x1 : Int) (x2 : UInt8) (w : World) (g0 : IsBytes w A0 n0 c0 l0) (g1 : (Lit.int .u16 x1).wf = true) :
    Calls Try.prog 5 #[.slice A0 n0 c0, .int .u16 x1, ub x2] w fun e w' => e = .returned (.bool true) ∧ Below w.heap.size w w' := by
  obtain ⟨hl0, hR0, hc0, hm0⟩ := g0
  have HL0 := Lib.hid hl0; clear hl0
  have hm0 := Nat.le_trans hc0 hm0
  obtain ⟨hx0, hx1⟩ := bounds_u16 g1
  obtain ⟨i0, hi, hz0, hz1, hz2⟩ := info_parts info_u8
  by_cases h0 : n0 = 0
  · subst h0
    go_enter Try.func5, Try.ntmps5
    go_wp2_with fail
    refine (head_any _).mono ?_
    rintro e w1 ⟨rfl, hb1⟩
    go_wp2_with fail
    go_ret
    exact ⟨rfl, hb1⟩
  · have e0 : ((n0 : Int) == 0) = false := by rw [beq_eq_false_iff_ne]; omega
    by_cases hlen : 5000 < n0
    · clear h0
      go_enter Try.func5, Try.ntmps5
      go_wp2_with fail
      refine (head_any _).mono ?_
      rintro e w1 ⟨rfl, hb1⟩
      go_wp2_with fail
      go_ret
      exact ⟨rfl, hb1⟩
    · by_cases hx : x2 = 0
      · have ex : ((x2.toNat : Int) == 0) = true := by rw [hx]; rfl
        clear hx h0
        go_enter Try.func5, Try.ntmps5
        go_wp2_with fail
        refine (head_any _).mono ?_
        rintro e w1 ⟨rfl, hb1⟩
        go_wp2_with fail
        go_ret
        exact ⟨rfl, hb1⟩
      · have ex := u8_zero x2 hx
        have hp : 0 < n0 := by omega
        clear h0
        go_enter Try.func5, Try.ntmps5
        go_wp2_with fail
        refine (head_any _).mono ?_
        rintro e w1 ⟨rfl, hb1⟩
        have hsz := hb1.size
        have hown0 := World.ownsRow_lit (base := w.heap.size) (e := 5) (size := 1) w1 #[] 0 hb1.size (by decide) rfl
        have hB1 : Below w.heap.size w (w1.alloc (.cells #[] 5)) := hb1.alloc hsz _
        obtain ⟨j, hj⟩ : ∃ j : Nat, x1 % (n0 : Int) = j := ⟨(x1 % (n0 : Int)).toNat, by have := Int.emod_nonneg x1 (b := (n0 : Int)) (by omega); omega⟩
        have hjn : j < n0 := by have := Int.emod_lt_of_pos x1 (b := (n0 : Int)) (by omega); omega
        have hjl : j < l0.length := by have := HL0.out; omega
        go_wp2_with (at_builtin; refine wpList_append_rd _ rfl (.tmp 23) (.tmp 24) _ rfl w.heap.size 5 i0 _ 1 1 Try.underlying22 hi hz0 hz1 hz2 rfl (by omega) _ 0 [] rfl hown0 _ A0 n0 c0 _ rfl (hR0.up hB1) (one_ub l0) (by simp only [maxLen]; omega) (by omega) hB1.size ?_; intro Aa ca w2 hown1 hfm hg1; simp only [Nat.zero_add, List.nil_append] at hown1 hfm; have hB2 := own_below hown0 hg1 hB1 (Nat.le_refl _) hB1.size; obtain ⟨g, rfl⟩ := hfm hp; have hcell := hown1.cellAt j (by omega); have hfr := hown1.frozenAt j; rw [List.getElem?_map, List.getElem?_eq_getElem hjl] at hcell; simp only [Option.map_some] at hcell)
        obtain ⟨hown2, hg2⟩ := hown1.stored j (.int .u8 (bits .xor .u8 (l0[j].toNat : Int) (x2.toNat : Int)))
        have hBg := (own_block hown1 g rfl).1
        have hB3 := hB2.setCell (p := ⟨g, j, none⟩) hBg (.int .u8 (bits .xor .u8 (l0[j].toNat : Int) (x2.toNat : Int)))
        have hRd := Rd.of_own hown2
        have heq : (l0.map ub).set j (.int .u8 (bits .xor .u8 (l0[j].toNat : Int) (x2.toNat : Int))) = (l0.set j (l0[j] ^^^ x2)).map ub := by rw [xor_u8, List.map_set]
        rw [heq] at hRd
        clear heq
        refine (sum_any _ _ _ l0 _ (hR0.up hB3) hm0).mono ?_
        rintro e w4 ⟨rfl, hb4⟩
        have hB4 := below_trans' hB3 hb4
        go_wp2_with fail
        refine (sum_any _ _ _ (l0.set j (l0[j] ^^^ x2)) _ (hRd.up hb4) (by simp only [maxLen]; omega)).mono ?_
        rintro e w5 ⟨rfl, hb5⟩
        have hB5 := below_trans' hB4 hb5
        have e1 : (((dsum l0).toNat : Int) != ((dsum (l0.set j (l0[j] ^^^ x2))).toNat : Int)) = true := by
          rw [bne_iff_ne]
          exact fun h => dsum_xor (x := B) hjl hx (UInt64.toNat_inj.1 (Int.natCast_inj.1 h))
        go_wp2_with fail
        go_ret
        exact ⟨rfl, hB5⟩
end Go.Proofs.Ythaibmkieflafaa.Dig
