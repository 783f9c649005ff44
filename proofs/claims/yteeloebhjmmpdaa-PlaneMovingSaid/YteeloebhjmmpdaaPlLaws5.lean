/- The walk of the law of chapter 16 on places that are moved or turned. -/
import Derived.Deep.RegionLaw
import Derived.Deep.AppendLies
import Derived.Test.YteeloebhjmmpdaaApp
import Derived.Test.YteeloebhjmmpdaaPlLaws4
namespace Go.Proofs.Yteeloebhjmmpdaa.Pl
open Go.RowKit
set_option linter.unusedVariables false

/-- Two blocks, if there are two, are two. -/
def Apt (a b : Option Nat) : Prop := ∀ k, a = some k → b = some k → False
theorem Apt.sym {a b : Option Nat} (h : Apt a b) : Apt b a := fun k h1 h2 => h k h2 h1
theorem Apt.ne {a b : Option Nat} (h : Apt a b) : a = none ∨ a ≠ b := by
  cases a with
  | none => exact .inl rfl
  | some k => exact .inr fun e => h k rfl e.symm
theorem Apt.new {a a' b : Option Nat} {s : Nat} (h : Apt a b) (ha : a' = a ∨ a' = some s) (hb : ∀ k, b = some k → k < s) : Apt a' b := fun k h1 h2 => by
  rcases ha with e | e
  · exact h k (e ▸ h1) h2
  · rw [e] at h1
    have := hb k h2
    cases h1
    omega

theorem info_place : (Try.prog.info? 25).map (fun i => (i.zero, i.size, i.bytes)) = some (some (.agg #[.int .i64 0, .int .i64 0]), 2, 16) := by kernel_rfl
theorem flat_snoc {α β : Type} (f : α → List β) {l : List α} {k : Nat} (hk : k < l.length) : (l.take (k + 1)).flatMap f = (l.take k).flatMap f ++ f l[k] := by
  rw [List.take_succ_eq_append_getElem hk, List.flatMap_append]
  simp
theorem okp_sw {l : List Pt} {r : Int} (h : okp l r = true) : okp (l.map sw) r = true := by
  unfold okp at h ⊢
  simp only [Bool.and_eq_true, decide_eq_true_eq, List.length_map, List.all_map] at h ⊢
  refine ⟨h.1, ?_⟩
  rw [List.all_eq_true] at h ⊢
  exact fun p hp => (vp_sw p).trans (h.2 p hp)
theorem getD_map (f : Pt → Pt) (l : List Pt) {i : Nat} (hi : i < l.length) : (l.map f).getD i (0, 0) = f (l.getD i (0, 0)) := by
  simp [List.getD_eq_getElem?_getD, hi]
theorem table_sw (l : List Pt) (r : Int) : table (l.map sw) r l.length = table l r l.length := by
  unfold table
  refine List.map_congr_left fun i hi => List.map_congr_left fun k hk => ?_
  unfold hear
  rw [getD_map _ _ (List.mem_range.1 hi), getD_map _ _ (List.mem_range.1 hk), near_sw]
theorem table_mv {l : List Pt} {r x y : Int} (h : okp l r = true) (h' : okp (l.map (mv x y)) r = true) : table (l.map (mv x y)) r l.length = table l r l.length := by
  unfold table
  refine List.map_congr_left fun i hi => List.map_congr_left fun k hk => ?_
  have hi := List.mem_range.1 hi
  have hk := List.mem_range.1 hk
  unfold hear
  rw [getD_map _ _ hi, getD_map _ _ hk]
  congr 1
  have a := okp_vp h hi
  have b := okp_vp h hk
  have a' := okp_vp h' (i := i) (by simpa using hi)
  have b' := okp_vp h' (i := k) (by simpa using hk)
  rw [List.getElem_map] at a' b'
  rw [List.getD_eq_getElem?_getD, List.getD_eq_getElem?_getD, List.getElem?_eq_getElem hi, List.getElem?_eq_getElem hk]
  exact near_mv a b a' b' r

theorem news_fresh (w : World) (t : TypeId) (cs : Array Value) (xs : List Value) (h : cs.toList = xs) : ∀ (j : Nat) (u : Value), xs[j]? = some u → (w.alloc (.cells cs t)).cell? ((⟨w.heap.size, 0, none⟩ : Addr).add j) = some u := fun j u hu => by
  subst h
  have := (Blk.new w t cs).cell j
  rw [show (⟨w.heap.size, 0, none⟩ : Addr).add j = ⟨w.heap.size, j, none⟩ by unfold Addr.add; split <;> simp_all, this]
  simpa using hu
theorem one2 (a b : Int) : ∀ u ∈ [i64 a, i64 b], u.oneCell' = true := fun u hu => by
  simp at hu
  rcases hu with rfl | rfl <;> rfl

set_option maxRecDepth 100000 in
set_option maxHeartbeats 4000000 in
theorem planeMoving_walk (A : Option Addr) (n c : Nat) (l : List Pt) (r x y : Int) (w : World) (g0 : IsPlaces w A n c l) (g1 : (Lit.int .i64 r).wf = true) (g2 : (Lit.int .i64 x).wf = true) (g3 : (Lit.int .i64 y).wf = true) :
    Calls Try.prog 7 #[.slice A n c, i64 r, i64 x, i64 y] w fun e w' => e = .returned (.bool true) ∧ Below w.heap.size w w' := by
  have hm0 := small_of g0
  obtain ⟨hl, hR, hnc, _, _⟩ := g0
  clear g1
  by_cases hlen : n ≤ 60 ∧ -10000 ≤ x ∧ x ≤ 10000 ∧ -10000 ≤ y ∧ y ≤ 10000
  · obtain ⟨hn, hx1, hx2, hy1, hy2⟩ := hlen
    cases hok : okp l r
    · go_enter Try.func7, Try.ntmps7
      go_wp2_with fail
      refine (head_val _).mono ?_
      rintro e w1 ⟨rfl, hb1⟩
      go_wp2_with fail
      refine (hears_bad A n c w.heap.size l r hok _ (hR.below hb1) hb1.size hl hm0).mono ?_
      rintro e w2 ⟨rfl, hb2⟩
      go_wp2_with fail
      go_ret
      exact ⟨rfl, below_trans' hb1 hb2⟩
    · have HK := Lib.hid hok; clear hok
      have HL := Lib.hid hl; clear hl
      obtain ⟨ip, hip, hz0, hz1, hz2⟩ := info_parts info_place
      go_enter Try.func7, Try.ntmps7
      go_wp2_with fail
      refine (head_val _).mono ?_
      rintro e w1 ⟨rfl, hb1⟩
      go_wp2_with fail
      refine (hears_good A n c w.heap.size l r HK.out _ (hR.below hb1) hb1.size HL.out).mono ?_
      rintro e w2 ⟨G, rfl, T, hb2⟩
      have hB2 := below_trans' hb1 hb2
      have HT := Lib.hid T; clear T hb1 hb2
      have hR2 := hR.below hB2
      have hSz := hB2.size
      go_wp2_with fail
      go_loopw [12, 13, 14] (fun vm vt i wr => ∃ (m : Nat) (X : Option Addr) (Xc : Nat) (Y : Option Addr) (Yc : Nat), m ≤ n ∧ vm = .slice X m Xc ∧ vt = .slice Y m Yc ∧ i = .int .i64 m ∧
        Hid (wr.ownsRow w2.heap.size 25 2 (.slice X m Xc) m ((l.take m).flatMap fun p => decP (mv x y p))) ∧ Hid (wr.ownsRow w2.heap.size 25 2 (.slice Y m Yc) m ((l.take m).flatMap fun p => decP (sw p))) ∧
        Hid (Apt (Value.slice X m Xc).ownBlock (Value.slice Y m Yc).ownBlock) ∧ Below w2.heap.size w2 wr) (fun _ _ i _ => n - (intOf i).toNat)
      case atStart => exact ⟨0, none, 0, none, 0, Nat.zero_le _, rfl, rfl, rfl, World.ownsRow_nil _ _ _ _, World.ownsRow_nil _ _ _ _, fun k h => (by cases h), Below.refl _ _⟩
      case round =>
        obtain ⟨m, X, Xc, Y, Yc, hm, rfl, rfl, rfl, HX, HY, HA, hb3⟩ := hrel
        by_cases hlt : m < n
        · have hml : m < l.length := by have := HL.out; omega
          obtain ⟨pb, po, rfl, hpb, hc1⟩ := rd_el (dec := decP) (fun _ => rfl) hR2 HL.out hml
          obtain ⟨⟨xi, yi⟩, hli⟩ : ∃ p, l[m] = p := ⟨_, rfl⟩
          have hvp := okp_vp HK.out hml
          rw [hli] at hc1 hvp
          obtain ⟨q1, q2, q3, q4⟩ := vp_iff.1 hvp
          dsimp only at q1 q2 q3 q4
          have f0 : wr.cell? ⟨pb, po + m * 2, none⟩ = some (i64 xi) := cell_up (hc1 0 _ rfl) hb3
          have f1 : wr.cell? ⟨pb, po + m * 2 + 1, none⟩ = some (i64 yi) := cell_up (hc1 1 _ rfl) hb3
          have eX : Hid ((l.take m).flatMap (fun p => decP (mv x y p)) ++ [i64 (xi + x), i64 (yi + y)] = (l.take (m + 1)).flatMap fun p => decP (mv x y p)) := by show _ = _; rw [flat_snoc _ hml, hli]; rfl
          have eY : Hid ((l.take m).flatMap (fun p => decP (sw p)) ++ [i64 yi, i64 xi] = (l.take (m + 1)).flatMap fun p => decP (sw p)) := by show _ = _; rw [flat_snoc _ hml, hli]; rfl
          have hC0 := Lib.hid (hc1 0 _ rfl)
          have hC1 := Lib.hid (hc1 1 _ rfl)
          clear hvp hc1 hli
          go_wp2_with fail
          have oX := (HX.out.alloc (.cells #[i64 (IntKind.i64.wrap (xi + x)), i64 (IntKind.i64.wrap (yi + y))] 25))
          have hNew : ∀ (j : Nat) (u : Value), [i64 (IntKind.i64.wrap (xi + x)), i64 (IntKind.i64.wrap (yi + y))][j]? = some u → (wr.alloc (.cells #[i64 (IntKind.i64.wrap (xi + x)), i64 (IntKind.i64.wrap (yi + y))] 25)).drew.cell? ((⟨wr.heap.size, 0, none⟩ : Addr).add j) = some u := news_fresh wr 25 #[i64 (IntKind.i64.wrap (xi + x)), i64 (IntKind.i64.wrap (yi + y))] _ rfl
          have b1 : (m + 1) ≤ maxLen := by unfold maxLen; omega
          have b2 : (m + 1) * 16 ≤ 140737488355328 := by omega
          have b3 : w2.heap.size ≤ (wr.alloc (.cells #[i64 (IntKind.i64.wrap (xi + x)), i64 (IntKind.i64.wrap (yi + y))] 25)).drew.heap.size := (hb3.alloc hb3.size _).size
          go_region_law (refine step_append_lies _ rfl (.tmp 56) (.tmp 72) _ rfl w2.heap.size 25 ip _ 2 16 Try.underlying22 hip hz0 hz1 hz2 rfl (by decide) (.slice X m Xc) m _ rfl oX _ 1 _ _ rfl rfl hNew (one2 _ _) (by decide) b1 b2 b3 _ rfl (fun g1 k1 w3 oX1 gX1 aX1 lX1 => ?_))
          all_goals
            have wr1 : IntKind.i64.wrap (xi + x) = xi + x := by rw [IntKind.wrap_i64]; omega
            have wr2 : IntKind.i64.wrap (yi + y) = yi + y := by rw [IntKind.wrap_i64]; omega
            rw [wr1, wr2] at oX1
            rw [eX.out] at oX1
            have oXd : (wr.alloc (.cells #[i64 (IntKind.i64.wrap (xi + x)), i64 (IntKind.i64.wrap (yi + y))] 25)).drew.ownsRow w2.heap.size 25 2 (.slice X m Xc) m ((l.take m).flatMap fun p => decP (mv x y p)) := oX
            have oYd : (wr.alloc (.cells #[i64 (IntKind.i64.wrap (xi + x)), i64 (IntKind.i64.wrap (yi + y))] 25)).drew.ownsRow w2.heap.size 25 2 (.slice Y m Yc) m ((l.take m).flatMap fun p => decP (sw p)) := HY.out.alloc _
            have hb4 : Below w2.heap.size w2 w3 := own_below (B := w2.heap.size) (w0 := w2) oXd gX1 (hb3.alloc hb3.size _).drew (Nat.le_refl _) b3
            have oY : w3.ownsRow w2.heap.size 25 2 (.slice Y m Yc) m ((l.take m).flatMap fun p => decP (sw p)) := oYd.kept gX1 (HA.out.sym.ne)
            have hA2 : Apt (Value.slice (some ⟨g1, 0, none⟩) (m + 1) k1).ownBlock (Value.slice Y m Yc).ownBlock := HA.out.new (s := wr.heap.size + 1) (aX1.elim (fun h => .inl h.symm) (fun h => .inr (congrArg some (h.trans (by simp))))) (fun k hk => Nat.lt_succ_of_lt (own_block HY.out k hk).2)
            clear oXd oYd oX hNew gX1 aX1 lX1 b3
            have f0' : w3.cell? ⟨pb, po + m * 2, none⟩ = some (i64 xi) := cell_up hC0.out hb4
            have f1' : w3.cell? ⟨pb, po + m * 2 + 1, none⟩ = some (i64 yi) := cell_up hC1.out hb4
            have HX1 := Lib.hid oX1; clear oX1
            have HA1 := Lib.hid hA2; clear hA2
            have oYa := (oY.alloc (.cells #[i64 yi, i64 xi] 25))
            have HY1 := Lib.hid oY; clear oY
            have hNew2 : ∀ (j : Nat) (u : Value), [i64 yi, i64 xi][j]? = some u → (w3.alloc (.cells #[i64 yi, i64 xi] 25)).drew.cell? ((⟨w3.heap.size, 0, none⟩ : Addr).add j) = some u := news_fresh w3 25 #[i64 yi, i64 xi] _ rfl
            have b3' : w2.heap.size ≤ (w3.alloc (.cells #[i64 yi, i64 xi] 25)).drew.heap.size := (hb4.alloc hb4.size _).size
            clear f0 f1 wr1 wr2
            go_wp2_with fail
            go_region_law (refine step_append_lies _ rfl (.tmp 74) (.tmp 86) _ rfl w2.heap.size 25 ip _ 2 16 Try.underlying22 hip hz0 hz1 hz2 rfl (by decide) (.slice Y m Yc) m _ rfl oYa _ 1 _ _ rfl rfl hNew2 (one2 _ _) (by decide) b1 b2 b3' _ rfl (fun g2 k2 w4 oY1 gY1 aY1 lY1 => ?_))
            all_goals
              have oYd2 : (w3.alloc (.cells #[i64 yi, i64 xi] 25)).drew.ownsRow w2.heap.size 25 2 (.slice Y m Yc) m ((l.take m).flatMap fun p => decP (sw p)) := oYa
              have oXd2 : (w3.alloc (.cells #[i64 yi, i64 xi] 25)).drew.ownsRow w2.heap.size 25 2 (.slice (some ⟨g1, 0, none⟩) (m + 1) k1) (m + 1) ((l.take (m + 1)).flatMap fun p => decP (mv x y p)) := HX1.out.alloc _
              rw [eY.out] at oY1
              have HY2 := Lib.hid oY1; clear oY1
              have hb5 : Below w2.heap.size w2 w4 := own_below (B := w2.heap.size) (w0 := w2) oYd2 gY1 (hb4.alloc hb4.size _).drew (Nat.le_refl _) b3'
              have HX2 := Lib.hid (oXd2.kept gY1 HA1.out.ne)
              have HA2 := Lib.hid ((HA1.out.sym.new (s := w3.heap.size + 1) (a' := (Value.slice (some ⟨g2, 0, none⟩) (m + 1) k2).ownBlock) (aY1.elim (fun h => .inl h.symm) (fun h => .inr (congrArg some (h.trans (by simp))))) (fun k hk => Nat.lt_succ_of_lt (own_block HX1.out k hk).2)).sym)
              clear oYd2 oXd2 gY1 aY1 lY1 hNew2 b3' oYa f0' f1'
              go_wp2_with fail
              go_roundw
              case rel => exact ⟨m + 1, _, _, _, _, by omega, rfl, rfl, by go_num, HX2, HY2, HA2, hb5⟩
              case measure => simp [intOf]; omega
        · obtain rfl : m = n := by omega
          have hln : l.take m = l := by rw [← HL.out, List.take_length]
          have rX := Rd.of_own HX.out
          have rY := Rd.of_own HY.out
          rw [hln] at rX rY
          have eX : (l.flatMap fun p => decP (mv x y p)) = (l.map (mv x y)).flatMap decP := by rw [List.flatMap_map]
          have eY : (l.flatMap fun p => decP (sw p)) = (l.map sw).flatMap decP := by rw [List.flatMap_map]
          rw [eX] at rX
          rw [eY] at rY
          have HT3 := Lib.hid (HT.out.up hb3)
          have hB3 := below_trans' hB2 hb3
          have RX := Lib.hid rX
          have RY := Lib.hid rY
          clear HX HY HA eX eY rX rY hln hR2 HT hB2 hb3
          go_wp2_with fail
          refine (hears_good Y m Yc _ (l.map sw) r (okp_sw HK.out) _ RY.out (Nat.le_refl _) (by rw [List.length_map]; exact HL.out)).mono ?_
          rintro e w4 ⟨G2, rfl, T2, hb4⟩
          have hB4 := below_trans' hB3 hb4
          have HT4 := Lib.hid (HT3.out.up hb4)
          have RX4 := Lib.hid (RX.out.up hb4)
          have HS4 := Lib.hid T2; clear T2 hb4 hB3 RX RY HT3
          go_wp2_with fail
          refine (hears_all X m Xc _ (l.map (mv x y)) r _ RX4.out (Nat.le_refl _) (by rw [List.length_map]; exact HL.out) hm0).mono ?_
          rintro e w5 ⟨Z, q5, rfl, T5, hb5⟩
          have hB5 := below_trans' hB4 hb5
          have HT5 := Lib.hid (HT4.out.up hb5)
          have HS5 := Lib.hid (HS4.out.up hb5)
          have RX5 := Lib.hid (RX4.out.up hb5)
          have HU5 := Lib.hid T5; clear T5 hb5 hB4 HT4 HS4 RX4
          obtain ⟨v, hv⟩ : ∃ v, okp (l.map (mv x y)) r = v := ⟨_, rfl⟩
          have HV := Lib.hid hv; clear hv
          have htn : tn (l.map (mv x y)) r = if v then m else 0 := by unfold tn; rw [HV.out, List.length_map, HL.out]
          have htc : tc (l.map (mv x y)) r = if v then 0 else 1 := by unfold tc; rw [HV.out]
          generalize tn (l.map (mv x y)) r = N5 at htn HU5 ⊢
          generalize tc (l.map (mv x y)) r = C5 at htc ⊢
          have HN5 := Lib.hid htn; clear htn
          have HC5 := Lib.hid htc; clear htc
          go_wp2_with fail
          refine (refPlaces_val X m Xc _ (l.map (mv x y)) r v HV.out _ RX5.out (Nat.le_refl _) (by rw [List.length_map]; exact HL.out) hm0).mono ?_
          rintro e w6 ⟨rfl, hb6⟩
          have hB6 := below_trans' hB5 hb6
          have HT6 := Lib.hid (HT5.out.up hb6)
          have HS6 := Lib.hid (HS5.out.up hb6)
          have HU6 := Lib.hid (HU5.out.up hb6)
          clear hb6 hB5 HT5 HS5 HU5 RX5
          have hts : decide (table l r m = table (l.map sw) r m) = true := by rw [← HL.out, table_sw]; simp
          cases v
          · obtain rfl : N5 = 0 := by simpa using HN5.out
            obtain rfl : C5 = 1 := by simpa using HC5.out
            go_wp2_with fail
            refine (refSame_val _ _ _ _ _ _ _ _ _ _ true hts _ HT6.out HS6.out hm0 hm0).mono ?_
            rintro e w7 ⟨rfl, hb7⟩
            go_wp2_with fail
            go_ret
            exact ⟨rfl, below_trans' hB6 hb7⟩
          · obtain rfl : m = N5 := by simpa using HN5.out.symm
            obtain rfl : C5 = 0 := by simpa using HC5.out
            have htm : decide (table l r m = tt (l.map (mv x y)) r) = true := by
              unfold tt
              rw [HV.out, if_pos rfl, List.length_map, table_mv HK.out HV.out, HL.out]
              simp
            go_wp2_with fail
            refine (refSame_val _ _ _ _ _ _ _ _ _ _ true hts _ HT6.out HS6.out hm0 hm0).mono ?_
            rintro e w7 ⟨rfl, hb7⟩
            have hB7 := below_trans' hB6 hb7
            have HT7 := Lib.hid (HT6.out.up hb7)
            have HU7 := Lib.hid (HU6.out.up hb7)
            clear hb7 hB6 HT6 HU6
            go_wp2_with fail
            refine (refSame_val _ _ _ _ _ _ _ _ _ _ true htm _ HT7.out HU7.out hm0 hm0).mono ?_
            rintro e w8 ⟨rfl, hb8⟩
            go_wp2_with fail
            go_ret
            exact ⟨rfl, below_trans' hB7 hb8⟩
  · by_cases c1 : n ≤ 60
    · by_cases c2 : -10000 ≤ x
      · by_cases c3 : x ≤ 10000
        · by_cases c4 : -10000 ≤ y
          · have c5 : ¬ y ≤ 10000 := fun h => hlen ⟨c1, c2, c3, c4, h⟩
            go_enter Try.func7, Try.ntmps7
            go_wp2_with fail
            refine (head_val _).mono ?_
            rintro e w1 ⟨rfl, hb1⟩
            go_wp2_with fail
            go_ret
            exact ⟨rfl, hb1⟩
          · go_enter Try.func7, Try.ntmps7
            go_wp2_with fail
            refine (head_val _).mono ?_
            rintro e w1 ⟨rfl, hb1⟩
            go_wp2_with fail
            go_ret
            exact ⟨rfl, hb1⟩
        · go_enter Try.func7, Try.ntmps7
          go_wp2_with fail
          refine (head_val _).mono ?_
          rintro e w1 ⟨rfl, hb1⟩
          go_wp2_with fail
          go_ret
          exact ⟨rfl, hb1⟩
      · go_enter Try.func7, Try.ntmps7
        go_wp2_with fail
        refine (head_val _).mono ?_
        rintro e w1 ⟨rfl, hb1⟩
        go_wp2_with fail
        go_ret
        exact ⟨rfl, hb1⟩
    · go_enter Try.func7, Try.ntmps7
      go_wp2_with fail
      refine (head_val _).mono ?_
      rintro e w1 ⟨rfl, hb1⟩
      go_wp2_with fail
      go_ret
      exact ⟨rfl, hb1⟩
end Go.Proofs.Yteeloebhjmmpdaa.Pl
