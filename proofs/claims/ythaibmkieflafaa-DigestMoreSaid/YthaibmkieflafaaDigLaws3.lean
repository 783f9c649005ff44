/- The walk of the statement on the bytes that continue a string: a map of the digests that were there. -/
import Derived.Maps.Own
import Derived.Maps.Views
import Derived.Test.YthaibmkieflafaaApp
import Derived.Test.YthaibmkieflafaaDigLaws2
namespace Go.Proofs.Ythaibmkieflafaa.Dig
open Go.RowKit Go.Maps

theorem key_u64 : Keyed Try.prog 23 := int_keyed Try.underlying23
theorem zero_bool (w : World) : (zeroValue 4).run Try.prog w = .ok (.bool false) w := by kernel_rfl
theorem plainElem_bool_inv {v : Value} {d : DataW Unit} {ps : List MemPlace} (h : plainElem Try.prog 4 v = some (d, ps)) : ∃ b, v = .bool b ∧ d = .lit (.bool b) := by
  have he : Try.prog.underlying 4 = some .bool := Try.underlying4
  unfold plainElem at h
  rw [he] at h
  cases v <;> simp at h
  exact ⟨_, rfl, h.1.symm⟩

/-- The map D holds just the digests of the first k continuations. -/
def Seen (l : List UInt8) (k : Nat) (D : DataW Unit) : Prop :=
  IsMap D ∧ ∀ x : UInt64, D.atKey (.int .u64 (x.toNat : Int)) (.lit (.bool false)) = .lit (.bool true) → ∃ j, j < k ∧ x = dsum (l ++ [UInt8.ofNat j])
theorem ofNat_inj {j k : Nat} (hj : j < 256) (hk : k < 256) (h : UInt8.ofNat j = UInt8.ofNat k) : j = k := by
  have := congrArg UInt8.toNat h
  rw [UInt8.toNat_ofNat_of_lt' (by simpa [UInt8.size] using hj), UInt8.toNat_ofNat_of_lt' (by simpa [UInt8.size] using hk)] at this
  exact this
theorem Seen.fresh {l : List UInt8} {k : Nat} {D : DataW Unit} (h : Seen l k D) (hk : k < 256) : D.atKey (.int .u64 ((dsum (l ++ [UInt8.ofNat k])).toNat : Int)) (.lit (.bool false)) ≠ .lit (.bool true) := fun e => by
  obtain ⟨j, hj, hx⟩ := h.2 _ e
  have := ofNat_inj (by omega) hk (dsum_snoc_inj hx.symm)
  omega
theorem Seen.more {l : List UInt8} {k : Nat} {D : DataW Unit} (h : Seen l k D) : Seen l (k + 1) (D.put (.int .u64 ((dsum (l ++ [UInt8.ofNat k])).toNat : Int)) (.lit (.bool true))) :=
  ⟨h.1.put _ _, fun x hx => by
    by_cases e : x = dsum (l ++ [UInt8.ofNat k])
    · exact ⟨k, by omega, e⟩
    · rw [atKey_put_other (fun he => e (UInt64.toNat_inj.1 (by injection he with _ h1; omega)))] at hx
      obtain ⟨j, hj, hxj⟩ := h.2 x hx
      exact ⟨j, by omega, hxj⟩⟩
theorem seen_none (l : List UInt8) : Seen l 0 (.map []) := ⟨isMap_empty, fun x h => by simp [DataW.atKey] at h⟩
theorem lookup_seen {w : World} {b k : Nat} {l : List UInt8} {D : DataW Unit} (hown : w.ownsMap Try.prog 23 (plainElem Try.prog 4) b k D) (h : Seen l k D) (hk : k < 256) :
    (Instr.lookup 36 (.map (some b)) (u64 (dsum (l ++ [UInt8.ofNat k]))) false).run Try.prog w = .ok (.bool false) w := by
  obtain ⟨v, ps, hrun, hv⟩ := hown.lookup key_u64 Try.underlying36 (zero_bool w) (plainElem_bool Try.underlying4 false) (key := u64 (dsum (l ++ [UInt8.ofNat k]))) (keyOf_int_mk Try.underlying23 (u64_wf _))
  obtain ⟨c, rfl, hd⟩ := plainElem_bool_inv hv
  cases c
  · exact hrun
  · exact absurd hd (h.fresh hk)

/-- How many of the first k continuations leave the digest as it is. -/
def Same (l : List UInt8) (k c : Nat) : Prop := c ≤ 1 ∧ (c = 1 → ∃ j, j < k ∧ dsum (l ++ [UInt8.ofNat j]) = dsum l)
theorem Same.yes {l : List UInt8} {k c : Nat} (h : Same l k c) (hk : k < 256) (e : dsum (l ++ [UInt8.ofNat k]) = dsum l) : Same l (k + 1) (c + 1) := by
  have hc : c = 0 := by
    rcases Nat.eq_zero_or_pos c with h0 | h0
    · exact h0
    · obtain ⟨j, hj, hx⟩ := h.2 (by have := h.1; omega)
      have := ofNat_inj (by omega) hk (dsum_snoc_inj (hx.trans e.symm))
      omega
  subst hc
  exact ⟨by omega, fun _ => ⟨k, by omega, e⟩⟩
theorem Same.no {l : List UInt8} {k c : Nat} (h : Same l k c) : Same l (k + 1) c := ⟨h.1, fun e => let ⟨j, hj, hx⟩ := h.2 e; ⟨j, by omega, hx⟩⟩

theorem ownsMap_below {w w' : World} {b k : Nat} {D : DataW Unit} (h : w.ownsMap Try.prog 23 (plainElem Try.prog 4) b k D) (hb : Below w.heap.size w w') : w'.ownsMap Try.prog 23 (plainElem Try.prog 4) b k D := by
  have hlt := h.lt
  obtain ⟨es, clock, h1, h2⟩ := h
  exact ⟨es, clock, (hb.block b hlt).trans h1, h2⟩

theorem map_row_ne {w : World} {b k : Nat} {D : DataW Unit} (h : w.ownsMap Try.prog 23 (plainElem Try.prog 4) b k D) {base size n : Nat} {e : TypeId} {v : Value} {xs : List Value} (hr : w.ownsRow base e size v n xs) : some b ≠ v.ownBlock := by
  obtain ⟨es, clock, h1, _⟩ := h
  rcases hr.2 with ⟨rfl, rfl⟩ | ⟨g, cap, cur, rfl, _, hh, _⟩
  · simp [Value.ownBlock]
  · intro e'
    obtain rfl : b = g := by simpa [Value.ownBlock] using e'
    rw [h1] at hh
    cases hh
theorem same_bool (x y : UInt64) (h : x = y) : ((x.toNat : Int) == (y.toNat : Int)) = true := by rw [h]; exact beq_self_eq_true _
theorem diff_bool (x y : UInt64) (h : x ≠ y) : ((x.toNat : Int) == (y.toNat : Int)) = false := by rw [beq_nat]; simpa using h

set_option maxRecDepth 100000 in
theorem digestMore_walk (A0 : Option Addr) (n0 c0 : Nat) (l0 : List UInt8) (w : World) (g0 : IsBytes w A0 n0 c0 l0) :
    Calls Try.prog 9 #[.slice A0 n0 c0] w fun e w' => e = .returned (.bool true) ∧ Below w.heap.size w w' := by
  obtain ⟨hl0, hR0, hc0, hm0⟩ := g0
  have HL0 := Lib.hid hl0; clear hl0
  have hm0 := Nat.le_trans hc0 hm0
  obtain ⟨i0, hi, hz0, hz1, hz2⟩ := info_parts info_u8
  by_cases hlen : 5000 < n0
  · go_enter Try.func9, Try.ntmps9
    go_wp2_with fail
    refine (head_any _).mono ?_
    rintro e w1 ⟨rfl, hb1⟩
    go_wp2_with fail
    go_ret
    exact ⟨rfl, hb1⟩
  · have hmm := @run_makeMap Try.prog
    go_enter Try.func9, Try.ntmps9
    go_wp2_with fail
    refine (head_any _).mono ?_
    rintro e w1 ⟨rfl, hb1⟩
    have hsz := hb1.size
    go_wp2_with fail
    have hm1 := World.ownsMap_made w1 Try.prog 23 (plainElem (H := Unit) Try.prog 4)
    have hB1 : Below w.heap.size w (w1.alloc (.map #[] 0)) := hb1.alloc hsz _
    obtain ⟨b, hb⟩ : ∃ b, b = w1.heap.size := ⟨_, rfl⟩
    have hbw : w.heap.size ≤ b := by omega
    rw [← hb] at hm1 ⊢
    clear hmm hb
    go_loopw [5, 14] (fun c i wr => ∃ (k s : Nat) (D : DataW Unit), k ≤ 256 ∧ i = .int .i64 k ∧ c = .int .i64 s ∧ Hid (Same l0 k s) ∧ Hid (Seen l0 k D) ∧ Hid (wr.ownsMap Try.prog 23 (plainElem Try.prog 4) b k D) ∧ Below w.heap.size w wr)
      (fun _ i _ => 256 - (intOf i).toNat)
    case atStart => exact ⟨0, 0, _, by omega, rfl, rfl, ⟨by omega, fun h => by omega⟩, seen_none l0, hm1, hB1⟩
    case round =>
      obtain ⟨k, s, D, hk, rfl, rfl, hS, hD, hown, hB⟩ := hrel
      by_cases hlt : k < 256
      · have hB2 := hB.alloc hB.size (.cells #[] 5)
        have hown0 := World.ownsRow_lit (base := w.heap.size) (e := 5) (size := 1) wr #[] 0 hB.size (by decide) rfl
        go_wp2_with (first
          | (at_builtin; refine wpList_append_rd _ rfl (.tmp 17) (.tmp 18) _ rfl w.heap.size 5 i0 _ 1 1 Try.underlying22 hi hz0 hz1 hz2 rfl (by omega) _ 0 [] rfl hown0 _ A0 n0 c0 _ rfl (hR0.up hB2) (one_ub l0) (by simp only [maxLen]; omega) (by omega) hB2.size ?_; intro Aa ca w2 hown1 _ hg1; simp only [Nat.zero_add, List.nil_append] at hown1; have hB3 := own_below hown0 hg1 hB2 (Nat.le_refl _) hB2.size; have hB4 := hB3.alloc hB3.size (.cells #[.int .u8 (k : Int)] 5))
          | (at_builtin; refine wpList_append_rd _ rfl (.tmp 19) (.tmp 22) _ rfl w.heap.size 5 i0 _ 1 1 Try.underlying22 hi hz0 hz1 hz2 rfl (by omega) _ _ _ rfl (hown1.alloc _) _ _ 1 _ _ rfl (Rd.new w2 _ _ _ 1 1 rfl) (by simp [Value.oneCell']) (by simp only [maxLen]; omega) (by omega) hB4.size ?_; intro Ab cb w3 hown2 _ hg2; have hB5 := own_below (hown1.alloc _) hg2 hB4 (Nat.le_refl _) hB4.size))
        have heq : l0.map ub ++ [Value.int .u8 (k : Int)] = (l0 ++ [UInt8.ofNat k]).map ub := by
          rw [List.map_append]
          show _ = l0.map ub ++ [Value.int .u8 ((UInt8.ofNat k).toNat : Int)]
          rw [UInt8.toNat_ofNat_of_lt' (by simpa [UInt8.size] using hlt)]
        have hRd := Rd.of_own hown2
        rw [heq] at hRd
        clear heq
        have hownA := hown.out.alloc (.cells #[] 5)
        have hownB := hownA.kept hg1 (map_row_ne hownA hown0)
        have hownC := hownB.alloc (.cells #[.int .u8 (k : Int)] 5)
        have hownW := hownC.kept hg2 (map_row_ne hownC (hown1.alloc _))
        refine (sum_any _ _ _ (l0 ++ [UInt8.ofNat k]) _ hRd (by simp only [maxLen]; omega)).mono ?_
        rintro e w4 ⟨rfl, hb4⟩
        have hB6 := below_trans' hB5 hb4
        have hownX := ownsMap_below hownW hb4
        have hlk := lookup_seen hownX hD.out hlt
        obtain ⟨w5, hup, hown5, hg5⟩ := hownX.update key_u64 Try.underlying36 (by unfold maxLen; omega) (key := u64 (dsum (l0 ++ [UInt8.ofNat k]))) (val := .bool true) (keyOf_int_mk Try.underlying23 (u64_wf _)) (plainElem_bool Try.underlying4 true)
        have hB7 := hB6.grown hg5 hB6.size (fun j e => by cases e; exact hbw)
        have HO5 := Lib.hid hown5
        clear hown5 hownX hownW hownA hownB hownC hg5 hg1 hg2 hown1 hown2 hown0 hRd
        go_wp2_with fail
        refine (sum_any _ _ _ l0 _ (hR0.up hB7) hm0).mono ?_
        rintro e w6 ⟨rfl, hb6⟩
        have hB8 := below_trans' hB7 hb6
        have HO6 := Lib.hid (ownsMap_below HO5.out hb6)
        have HD6 := Lib.hid hD.out.more
        by_cases hsame : dsum (l0 ++ [UInt8.ofNat k]) = dsum l0
        · have hs := same_bool _ _ hsame
          have HS := Lib.hid (hS.out.yes hlt hsame)
          have hs1 := hS.out.1
          clear hsame
          go_wp2_with fail
          go_roundw
          case rel => exact ⟨k + 1, s + 1, _, by omega, by go_num, by go_num, HS, HD6, HO6, hB8⟩
          case measure => simp [intOf]; omega
        · have hs := diff_bool _ _ hsame
          have HS := Lib.hid hS.out.no
          clear hsame
          go_wp2_with fail
          go_roundw
          case rel => exact ⟨k + 1, s, _, by omega, by go_num, rfl, HS, HD6, HO6, hB8⟩
          case measure => simp [intOf]; omega
      · have hs1 := hS.out.1
        go_wp2_with fail
        go_ret
        exact ⟨ret_bool (by simp; omega), hB⟩
end Go.Proofs.Ythaibmkieflafaa.Dig
