/- The reference's Hears: rows and a table that grow by append. -/
import Derived.Deep.Onto
import Derived.Test.YteeloebhjmmpdaaApp
import Derived.Test.YteeloebhjmmpdaaPlHead
namespace Go.Proofs.Yteeloebhjmmpdaa.Pl
open Go.RowKit
set_option linter.unusedVariables false

theorem own_keep {w w' : World} {base size n : Nat} {e : TypeId} {v : Value} {xs : List Value} (h : w.ownsRow base e size v n xs) (hb : Below w.heap.size w w') : w'.ownsRow base e size v n xs :=
  h.kept (row := none) ⟨hb.os, hb.tape, hb.output, hb.size, fun k hk _ => hb.block k hk⟩ (by cases v.ownBlock <;> simp)
theorem own_apart {w w' : World} {base base' size size' n n' : Nat} {e e' : TypeId} {v v' : Value} {xs xs' : List Value} (h : w.ownsRow base e size v n xs) (k : w.ownsRow base' e' size' v' n' xs') (hne : e ≠ e') (hg : w.grownBy w' v'.ownBlock) : w'.ownsRow base e size v n xs := by
  refine h.kept hg ?_
  rcases h.2 with ⟨rfl, _⟩ | ⟨g, cap, cur, rfl, _, hgb, _⟩
  · exact .inl rfl
  · refine .inr fun e' => ?_
    rcases k.2 with ⟨rfl, _⟩ | ⟨g', cap', cur', rfl, _, hgb', _⟩
    · cases e'
    · obtain rfl : g = g' := by simpa [Value.ownBlock] using e'
      rw [hgb] at hgb'
      cases hgb'
      exact hne rfl

/-- m rows of n values. -/
def RTab (base : Nat) (w : World) (v : Value) (m n : Nat) (f : Nat → Nat → Bool) : Prop :=
  ∃ R : Nat → Option Addr × Nat, w.ownsRow base 36 1 v m ((List.range m).map fun j => .slice (R j).1 n (R j).2) ∧ ∀ j, j < m → w.ownsRow base 4 1 (.slice (R j).1 n (R j).2) n ((List.range n).map fun k => .bool (f j k))
theorem RTab.keep {base m n : Nat} {w w' : World} {v : Value} {f : Nat → Nat → Bool} (h : RTab base w v m n f) (hb : Below w.heap.size w w') : RTab base w' v m n f := by
  obtain ⟨R, h1, h2⟩ := h
  exact ⟨R, own_keep h1 hb, fun j hj => own_keep (h2 j hj) hb⟩
theorem RTab.nil_ (base n : Nat) (w : World) (f : Nat → Nat → Bool) : RTab base w (.slice none 0 0) 0 n f := ⟨fun _ => (none, 0), ⟨rfl, .inl ⟨rfl, rfl⟩⟩, fun j hj => by omega⟩
theorem RTab.tab {base n : Nat} {w : World} {A : Option Addr} {c : Nat} {l : List Pt} {r : Int} (h : RTab base w (.slice A n c) n n (hear l r)) (hn : n ≤ 60) : Tab w w.heap.size A n (table l r n) := by
  obtain ⟨R, h1, h2⟩ := h
  refine ⟨by simp [table], R, ?_, fun i hi => ?_⟩
  · have := Rd.of_own h1
    rw [List.map_congr_left (g := fun i => Value.slice (R i).1 ((table l r n).getD i []).length (R i).2) (fun i hi => by rw [table_row l r (List.mem_range.1 hi)]; simp)] at this
    exact this
  · rw [table_row l r hi]
    have := Rd.of_own (h2 i hi)
    rw [List.map_map]
    simp only [List.length_map, List.length_range]
    exact ⟨by unfold maxLen; omega, this⟩
theorem RTab.add {base m n : Nat} {w w' : World} {A : Option Addr} {c : Nat} {v v' : Value} {f : Nat → Nat → Bool} {R : Nat → Option Addr × Nat} (h1 : w.ownsRow base 36 1 v m ((List.range m).map fun j => .slice (R j).1 n (R j).2))
    (h2 : ∀ j, j < m → w.ownsRow base 4 1 (.slice (R j).1 n (R j).2) n ((List.range n).map fun k => .bool (f j k))) (hrow : w.ownsRow base 4 1 (.slice A n c) n ((List.range n).map fun k => .bool (f m k)))
    (h1' : w'.ownsRow base 36 1 v' (m + 1) (((List.range m).map fun j => .slice (R j).1 n (R j).2) ++ [.slice A n c])) (hg : w.grownBy w' v.ownBlock) : RTab base w' v' (m + 1) n f := by
  refine ⟨fun j => if j = m then (A, c) else R j, ?_, fun j hj => ?_⟩
  · have := h1'
    rw [List.range_succ, List.map_append, List.map_cons, List.map_nil]
    simp only [if_true]
    rw [List.map_congr_left (g := fun j => Value.slice (R j).1 n (R j).2) (fun j hj => by simp only [if_neg (show ¬ j = m by have := List.mem_range.1 hj; omega)])]
    exact this
  · by_cases e : j = m
    · subst e
      simp only [if_true]
      exact own_apart hrow h1 (by decide) hg
    · simp only [if_neg e]
      exact own_apart (h2 j (by omega)) h1 (by decide) hg

set_option maxRecDepth 100000 in
set_option maxHeartbeats 1000000 in
theorem refHears_bad (A : Option Addr) (n c B : Nat) (l : List Pt) (r : Int) (hv : okp l r = false) (w : World) (hR : Rd w B 2 A n (l.flatMap decP)) (hB : B ≤ w.heap.size) (hl : l.length = n) (hn : n ≤ maxLen) :
    Calls Try.prog 19 #[.slice A n c, i64 r] w fun e w' => e = .returned (.tuple #[.slice none 0 0, i64 1]) ∧ Below w.heap.size w w' := by
  go_enter Try.func19, Try.ntmps19
  go_wp2_with fail
  refine (refPlaces_val A n c B l r false hv _ hR hB hl hn).mono ?_
  rintro e w1 ⟨rfl, hb⟩
  go_wp2_with fail
  go_ret2
  exact ⟨rfl, hb⟩

set_option maxRecDepth 100000 in
set_option maxHeartbeats 1000000 in
theorem refHears_good (A : Option Addr) (n c B : Nat) (l : List Pt) (r : Int) (hv : okp l r = true) (w : World) (hR : Rd w B 2 A n (l.flatMap decP)) (hB : B ≤ w.heap.size) (hl : l.length = n) :
    Calls Try.prog 19 #[.slice A n c, i64 r] w fun e w' => ∃ X k, e = .returned (.tuple #[.slice X n k, i64 0]) ∧ Tab w' w'.heap.size X n (table l r n) ∧ Below w.heap.size w w' := by
  have hq := okp_parts l r
  rw [hv, hl] at hq
  obtain ⟨hn, h2, h3⟩ : n ≤ 60 ∧ betw r 20000 = true ∧ l.all vp = true := by simpa using hq.symm
  clear hq h2 h3
  have HV := Lib.hid hv; clear hv
  have HL := Lib.hid hl; clear hl
  obtain ⟨ib, hib, hz0, hz1, hz2⟩ := info_parts info_bool
  obtain ⟨is, his, sz0, sz1, sz2⟩ := info_parts info_bools
  go_enter Try.func19, Try.ntmps19
  go_wp2_with fail
  refine (refPlaces_val A n c B l r true HV.out _ hR hB HL.out (by unfold maxLen; omega)).mono ?_
  rintro e w1 ⟨rfl, hb⟩
  go_wp2_with fail
  go_loopw [7, 8] (fun v i wr => ∃ (m : Nat) (X : Option Addr) (k : Nat), m ≤ n ∧ v = .slice X m k ∧ i = .int .i64 m ∧ Hid (RTab w.heap.size wr (.slice X m k) m n (hear l r)) ∧ Below w.heap.size w wr) (fun _ i _ => n - (intOf i).toNat)
  case atStart => exact ⟨0, none, 0, Nat.zero_le _, rfl, rfl, RTab.nil_ _ _ _ _, hb⟩
  case round =>
    obtain ⟨m, X, kk, hm, rfl, rfl, HT, hB1⟩ := hrel
    obtain ⟨wo, hwo⟩ : ∃ wo, wo = wr := ⟨_, rfl⟩
    subst hwo
    by_cases hlt : m < n
    · go_wp2_with fail
      go_loopw [9, 10] (fun v i w2 => ∃ (k : Nat) (Y : Option Addr) (q : Nat), k ≤ n ∧ v = .slice Y k q ∧ i = .int .i64 k ∧ Hid (w2.ownsRow wo.heap.size 4 1 (.slice Y k q) k ((List.range k).map fun j => .bool (hear l r m j))) ∧ Below wo.heap.size wo w2) (fun _ i _ => n - (intOf i).toNat)
      case atStart => exact ⟨0, none, 0, Nat.zero_le _, rfl, rfl, ⟨rfl, .inl ⟨rfl, rfl⟩⟩, Below.refl _ _⟩
      case round =>
        obtain ⟨k, Y, q, hk, rfl, rfl, HO, hB2⟩ := hrel
        have hB3 := below_trans' hB1 hB2
        by_cases hk1 : k < n
        · have hml : m < l.length := by have := HL.out; omega
          have hkl : k < l.length := by have := HL.out; omega
          obtain ⟨b, off, rfl, hbB, hc1⟩ := rd_el (dec := decP) (fun _ => rfl) (hR.below' hB3 hB) HL.out hml
          obtain ⟨b', off', e', _, hc2⟩ := rd_el (dec := decP) (fun _ => rfl) (hR.below' hB3 hB) HL.out hkl
          simp only [Option.some.injEq, Addr.mk.injEq, and_true] at e'
          obtain ⟨rfl, rfl⟩ := e'
          have a0 : wr.cell? ⟨b, off + m * 2, none⟩ = some (i64 l[m].1) := hc1 0 _ rfl
          have a1 : wr.cell? ⟨b, off + m * 2 + 1, none⟩ = some (i64 l[m].2) := hc1 1 _ rfl
          have a2 : wr.cell? ⟨b, off + k * 2, none⟩ = some (i64 l[k].1) := hc2 0 _ rfl
          have a3 : wr.cell? ⟨b, off + k * 2 + 1, none⟩ = some (i64 l[k].2) := hc2 1 _ rfl
          clear hc1 hc2
          go_wp2_with fail
          obtain ⟨v, hnv⟩ : ∃ v, near l[m] l[k] r = v := ⟨_, rfl⟩
          have hear1 : hear l r m k = (v && !((m : Int) == k)) := by
            unfold hear
            rw [List.getD_eq_getElem?_getD, List.getD_eq_getElem?_getD, List.getElem?_eq_getElem hml, List.getElem?_eq_getElem hkl, ← hnv]
            show (decide (m ≠ k) && _) = _
            rw [Bool.and_comm]
            congr 1
            by_cases e : m = k
            · simp [e]
            · simp [e]; omega
          go_still_tail 9, (by kernel_rfl)
          go_wp2_with fail
          refine (refNear_val _ _ _ _ _ v hnv _).mono ?_
          rintro e w3 ⟨rfl, hb3⟩
          have hb3' := ((Below.refl wr.heap.size wr).drew.trans hb3)
          have hO3 := own_keep HO.out hb3'
          have hB4 := below_trans' hB2 hb3'
          clear a0 a1 a2 a3 hb3 hb3' HO
          have hx : ∀ (z : Bool), hear l r m k = z → Hid ((List.range k).map (fun j => Value.bool (hear l r m j)) ++ [.bool z] = (List.range (k + 1)).map fun j => .bool (hear l r m j)) := fun z hz => by
            show _ = _
            rw [List.range_succ, List.map_append, List.map_cons, List.map_nil, hz]
          cases v
          · have HX := hx false (by rw [hear1]; rfl)
            clear hear1 hnv hx
            have hB5 := hB4.alloc hB4.size (.cells #[.bool false] 4)
            go_wp2_with (at_builtin; refine wpList_append_rd _ rfl (.tmp 39) (.tmp 46) _ rfl wo.heap.size 4 ib _ 1 1 Try.underlying36 hib hz0 hz1 hz2 rfl (by omega) _ _ _ rfl (hO3.alloc _) _ _ 1 _ _ rfl (Rd.new w3 _ _ _ 1 1 rfl) (by simp [Value.oneCell']) (by simp only [maxLen]; omega) (by omega) hB5.size ?_; intro Yb qb w4 hown2 _ hg2; have hB6 := own_below (hO3.alloc _) hg2 hB5 (Nat.le_refl _) hB5.size; clear hg2; rw [HX.out] at hown2; have HO4 := Lib.hid hown2; clear hown2)
            go_roundw
            case rel => exact ⟨k + 1, _, _, by omega, rfl, by go_num, HO4, hB6⟩
            case measure => simp [intOf]; omega
          · have HX := hx ((m : Int) != k) (by rw [hear1]; rfl)
            clear hear1 hnv hx
            have hB5 := hB4.alloc hB4.size (.cells #[.bool ((m : Int) != k)] 4)
            go_wp2_with (at_builtin; refine wpList_append_rd _ rfl (.tmp 39) (.tmp 46) _ rfl wo.heap.size 4 ib _ 1 1 Try.underlying36 hib hz0 hz1 hz2 rfl (by omega) _ _ _ rfl (hO3.alloc _) _ _ 1 _ _ rfl (Rd.new w3 _ _ _ 1 1 rfl) (by simp [Value.oneCell']) (by simp only [maxLen]; omega) (by omega) hB5.size ?_; intro Yb qb w4 hown2 _ hg2; have hB6 := own_below (hO3.alloc _) hg2 hB5 (Nat.le_refl _) hB5.size; clear hg2; rw [HX.out] at hown2; have HO4 := Lib.hid hown2; clear hown2)
            go_roundw
            case rel => exact ⟨k + 1, _, _, by omega, rfl, by go_num, HO4, hB6⟩
            case measure => simp [intOf]; omega
        · obtain rfl : k = n := by omega
          obtain ⟨R, h1, h2⟩ := HT.out.keep hB2
          have hrow := HO.out.mono (base' := w.heap.size) hB1.size
          have h1a := h1.alloc (.cells #[.slice Y k q] 36)
          have hB5 := hB3.alloc hB3.size (.cells #[.slice Y k q] 36)
          have h2a : Hid (∀ j, j < m → (wr.alloc (.cells #[.slice Y k q] 36)).ownsRow w.heap.size 4 1 (.slice (R j).1 k (R j).2) k ((List.range k).map fun j' => .bool (hear l r j j'))) := fun j hj => (h2 j hj).alloc _
          have hrow := Lib.hid (hrow.alloc (.cells #[.slice Y k q] 36))
          clear h2 h1 HT HO
          go_wp2_with (at_builtin; refine wpList_append_rd _ rfl (.tmp 48) (.tmp 50) _ rfl w.heap.size 36 is _ 1 24 Try.underlying27 his sz0 sz1 sz2 rfl (by omega) _ _ _ rfl h1a _ _ 1 _ _ rfl (Rd.new wr _ _ _ 1 1 rfl) (by simp [Value.oneCell']) (by simp only [maxLen]; omega) (by omega) hB5.size ?_; intro Yb qb w4 hown2 _ hg2; have hB6 := own_below h1a hg2 hB5 (Nat.le_refl _) hB5.size; have HT2 := Lib.hid (RTab.add h1a h2a.out hrow.out hown2 hg2); clear hown2 hg2 h1a h2a hrow hB5)
          go_roundw
          case rel => exact ⟨m + 1, _, _, by omega, rfl, by go_num, HT2, hB6⟩
          case measure => simp [intOf]; omega
    · obtain rfl : m = n := by omega
      go_wp2_with fail
      go_ret2
      exact ⟨_, _, rfl, HT.out.tab hn, hB1⟩
end Go.Proofs.Yteeloebhjmmpdaa.Pl
