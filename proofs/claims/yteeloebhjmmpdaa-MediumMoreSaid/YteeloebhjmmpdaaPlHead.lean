/- The contract of Hears joined; the head of the laws of chapter 16. -/
import Derived.Test.YteeloebhjmmpdaaPlHears
import Derived.Test.YteeloebhjmmpdaaPlJam
namespace Go.Proofs.Yteeloebhjmmpdaa.Pl
open Go.RowKit
set_option linter.unusedVariables false

theorem hears_good (A : Option Addr) (n c B : Nat) (l : List Pt) (r : Int) (hv : okp l r = true) (w : World) (hR : Rd w B 2 A n (l.flatMap decP)) (hB : B ≤ w.heap.size) (hl : l.length = n) :
    Calls Try.prog 18 #[.slice A n c, i64 r] w fun e w' => ∃ G, e = .returned (.tuple #[.slice (some ⟨G, 0, none⟩) n n, i64 0]) ∧ Tab w' w'.heap.size (some ⟨G, 0, none⟩) n (table l r n) ∧ Below w.heap.size w w' :=
  callsIn_wide.1 (hears_in A n c l r hv w (hR.more hB) hl)

theorem tab3 (w : World) (G : Nat) (a0 a1 a2 b0 b1 b2 c0 c1 c2 : Bool) (B : Nat) (hB : G + 3 < B) (h0 : Blk w G 4 #[.bool a0, .bool a1, .bool a2]) (h1 : Blk w (G + 1) 4 #[.bool b0, .bool b1, .bool b2]) (h2 : Blk w (G + 2) 4 #[.bool c0, .bool c1, .bool c2])
    (h3 : Blk w (G + 3) 36 #[.slice (some ⟨G, 0, none⟩) 3 3, .slice (some ⟨G + 1, 0, none⟩) 3 3, .slice (some ⟨G + 2, 0, none⟩) 3 3]) : Tab w B (some ⟨G + 3, 0, none⟩) 3 [[a0, a1, a2], [b0, b1, b2], [c0, c1, c2]] := by
  refine ⟨rfl, fun i => (some ⟨G + i, 0, none⟩, 3), ⟨rfl, fun _ => ⟨_, 0, rfl, hB, fun j u hu => ?_⟩⟩, fun i hi => ?_⟩
  · rw [Nat.zero_add, h3.cell, List.getElem?_toArray]
    exact hu
  · match i, hi with
    | 0, _ => exact ⟨by show 3 ≤ maxLen; decide, rfl, fun _ => ⟨_, 0, rfl, by omega, fun j u hu => by rw [Nat.zero_add, Nat.add_zero, h0.cell, List.getElem?_toArray]; exact hu⟩⟩
    | 1, _ => exact ⟨by show 3 ≤ maxLen; decide, rfl, fun _ => ⟨_, 0, rfl, by omega, fun j u hu => by rw [Nat.zero_add, h1.cell, List.getElem?_toArray]; exact hu⟩⟩
    | 2, _ => exact ⟨by show 3 ≤ maxLen; decide, rfl, fun _ => ⟨_, 0, rfl, by omega, fun j u hu => by rw [Nat.zero_add, h2.cell, List.getElem?_toArray]; exact hu⟩⟩

theorem rd_fresh (w : World) (t : TypeId) (cs : Array Value) (size n : Nat) (xs : List Value) (hx : cs.toList = xs) (h : cs.size = n * size) : Rd (w.alloc (.cells cs t)) (w.heap.size + 1) size (some ⟨w.heap.size, 0, none⟩) n xs := by
  have := Rd.new w t cs (0, 0) size n h
  rw [World.size_alloc, hx] at this
  exact this

/-- What the head has laid. -/
def Hd (w : World) (G J : Nat) (W : World) : Prop :=
  Blk W w.heap.size 25 #[i64 0, i64 0] ∧ Blk W (w.heap.size + 1) 25 #[i64 3, i64 4] ∧ Blk W (J + 1) 25 #[i64 6, i64 8] ∧ Rd W W.heap.size 5 (some ⟨J, 0, none⟩) 1 [i64 0, i64 0, i64 10, i64 3, i64 20] ∧
    Tab W W.heap.size (some ⟨G, 0, none⟩) 3 (table [(0, 0), (100, 0), (250, 0)] 150 3) ∧ Below w.heap.size w W
theorem Hd.up {w W W' : World} {G J : Nat} (h : Hd w G J W) (hb : Below W.heap.size W W') : Hd w G J W' :=
  ⟨h.1.up' hb, h.2.1.up' hb, h.2.2.1.up' hb, h.2.2.2.1.up hb, h.2.2.2.2.1.up hb, below_trans' h.2.2.2.2.2 hb⟩
theorem Hd.cells {w W : World} {G J : Nat} (h : Hd w G J W) : W.cell? ⟨w.heap.size, 0, none⟩ = some (i64 0) ∧ W.cell? ⟨w.heap.size, 1, none⟩ = some (i64 0) ∧ W.cell? ⟨w.heap.size + 1, 0, none⟩ = some (i64 3) ∧ W.cell? ⟨w.heap.size + 1, 1, none⟩ = some (i64 4) ∧
    W.cell? ⟨J + 1, 0, none⟩ = some (i64 6) ∧ W.cell? ⟨J + 1, 1, none⟩ = some (i64 8) :=
  ⟨h.1.cell 0, h.1.cell 1, h.2.1.cell 0, h.2.1.cell 1, h.2.2.1.cell 0, h.2.2.1.cell 1⟩

set_option maxRecDepth 100000 in
set_option maxHeartbeats 1000000 in
theorem head_val (w : World) : Calls Try.prog 17 #[] w fun e w' => e = .returned (.bool true) ∧ Below w.heap.size w w' := by
  go_enter Try.func17, Try.ntmps17
  have hB1 := (((Below.refl w.heap.size w).alloc (Nat.le_refl _) (.cells #[i64 0, i64 0] 25)).alloc (by simp) (.cells #[i64 3, i64 4] 25)).alloc (by simp; omega) (.cells #[i64 0, i64 0, i64 100, i64 0, i64 250, i64 0] 25)
  have p1 := ((Blk.new w 25 #[i64 0, i64 0]).alloc (.cells #[i64 3, i64 4] 25)).alloc (.cells #[i64 0, i64 0, i64 100, i64 0, i64 250, i64 0] 25)
  have p2 := (Blk.new (w.alloc (.cells #[i64 0, i64 0] 25)) 25 #[i64 3, i64 4]).alloc (.cells #[i64 0, i64 0, i64 100, i64 0, i64 250, i64 0] 25)
  rw [World.size_alloc] at p2
  have P1 := Lib.hid p1; clear p1
  have P2 := Lib.hid p2; clear p2
  go_wp2_with fail
  have hok : okp [(0, 0), (100, 0), (250, 0)] 150 = true := by decide +kernel
  have hc := hears_good (some ⟨w.heap.size + 2, 0, none⟩) 3 3 (w.heap.size + 3) [(0, 0), (100, 0), (250, 0)] 150 hok (((w.alloc (.cells #[i64 0, i64 0] 25)).alloc (.cells #[i64 3, i64 4] 25)).alloc (.cells #[i64 0, i64 0, i64 100, i64 0, i64 250, i64 0] 25)) (by
    have := Rd.new ((w.alloc (.cells #[i64 0, i64 0] 25)).alloc (.cells #[i64 3, i64 4] 25)) 25 #[i64 0, i64 0, i64 100, i64 0, i64 250, i64 0] (0, 0) 2 3 rfl
    simp only [World.size_alloc] at this
    exact this) (by simp) rfl
  refine hc.mono ?_
  clear hc hok
  rintro e w1 ⟨G, rfl, T1, hb1⟩
  have HB1 := Lib.hid (hB1.trans (hb1.mono (by simp; omega))); clear hB1
  have P1 := Lib.hid (P1.out.up' hb1)
  have P2 := Lib.hid (P2.out.up' hb1)
  clear hb1
  have HT1 := Lib.hid T1; clear T1
  go_wp2_with fail
  have hok2 : okp [(-1, 0)] 5 = false := by decide +kernel
  have hc2 := hears_bad (some ⟨w1.heap.size, 0, none⟩) 1 1 (w1.heap.size + 1) [(-1, 0)] 5 hok2 (w1.alloc (.cells #[i64 (-1), i64 0] 25)) (rd_fresh _ _ _ 2 1 _ rfl rfl) (by simp) rfl (by decide)
  refine hc2.mono ?_
  clear hc2 hok2
  rintro e w2 ⟨rfl, hb2⟩
  have hB2 := ext1 HB1.out _ hb2
  have e1 : Below w1.heap.size w1 w2 := ext1 (Below.refl _ _) _ hb2
  have P1 := Lib.hid (P1.out.up' e1)
  have P2 := Lib.hid (P2.out.up' e1)
  have HT1 := Lib.hid (HT1.out.up e1)
  clear HB1 hb2 e1
  obtain ⟨J, hJ⟩ : ∃ J, J = w2.heap.size := ⟨_, rfl⟩
  have eb : Below w2.heap.size w2 ((w2.alloc (.cells #[i64 0, i64 0, i64 10, i64 3, i64 20] 43)).alloc (.cells #[i64 6, i64 8] 25)) := (((Below.refl w2.heap.size w2).alloc (Nat.le_refl _) _).alloc (by simp) _)
  have H : Hid (Hd w G J ((w2.alloc (.cells #[i64 0, i64 0, i64 10, i64 3, i64 20] 43)).alloc (.cells #[i64 6, i64 8] 25))) := by
    subst hJ
    refine ⟨P1.out.up' eb, P2.out.up' eb, ?_, ?_, HT1.out.up eb, below_trans' hB2 eb⟩
    · have := Blk.new (w2.alloc (.cells #[i64 0, i64 0, i64 10, i64 3, i64 20] 43)) 25 #[i64 6, i64 8]
      rw [World.size_alloc] at this
      exact this
    · exact ((rd_fresh w2 43 #[i64 0, i64 0, i64 10, i64 3, i64 20] 5 1 _ rfl rfl).alloc (by simp) (.cells #[i64 6, i64 8] 25)).more (by simp)
  clear P1 P2 HT1 eb hB2
  obtain ⟨c1, c2, c3, c4, _, _⟩ := H.out.cells
  go_wp2_with fail
  refine (near_val 0 0 3 4 5 true (by decide +kernel) _).mono ?_
  rintro e w3 ⟨rfl, hb⟩
  have H := Lib.hid (H.out.up hb)
  clear c1 c2 c3 c4 hb
  obtain ⟨c1, c2, c3, c4, _, _⟩ := H.out.cells
  go_wp2_with fail
  refine (near_val 0 0 3 4 4 false (by decide +kernel) _).mono ?_
  rintro e w4 ⟨rfl, hb⟩
  have H := Lib.hid (H.out.up hb)
  clear c1 c2 c3 c4 hb
  obtain ⟨c1, c2, c3, c4, _, _⟩ := H.out.cells
  go_wp2_with fail
  refine (near_val 0 0 10001 0 20000 false (by decide +kernel) _).mono ?_
  rintro e w5 ⟨rfl, hb⟩
  have H := Lib.hid (H.out.up hb)
  clear c1 c2 c3 c4 hb
  go_wp2_with fail
  subst hJ
  have eb : Below w5.heap.size w5 ((((w5.alloc (.cells #[.bool false, .bool true, .bool false] 4)).alloc (.cells #[.bool true, .bool false, .bool true] 4)).alloc (.cells #[.bool false, .bool true, .bool false] 4)).alloc (.cells #[.slice (some ⟨w5.heap.size, 0, none⟩) 3 3, .slice (some ⟨w5.heap.size + 1, 0, none⟩) 3 3, .slice (some ⟨w5.heap.size + 1 + 1, 0, none⟩) 3 3] 36)) :=
    ((((Below.refl w5.heap.size w5).alloc (Nat.le_refl _) _).alloc (by simp) _).alloc (by simp; omega) _).alloc (by simp; omega) _
  have H := Lib.hid (H.out.up eb)
  have hT : Hid (Tab ((((w5.alloc (.cells #[.bool false, .bool true, .bool false] 4)).alloc (.cells #[.bool true, .bool false, .bool true] 4)).alloc (.cells #[.bool false, .bool true, .bool false] 4)).alloc (.cells #[.slice (some ⟨w5.heap.size, 0, none⟩) 3 3, .slice (some ⟨w5.heap.size + 1, 0, none⟩) 3 3, .slice (some ⟨w5.heap.size + 1 + 1, 0, none⟩) 3 3] 36)) (w5.heap.size + 4) (some ⟨w5.heap.size + 1 + 1 + 1, 0, none⟩) 3 [[false, true, false], [true, false, true], [false, true, false]]) := by
    have b0 := Blk.new w5 4 #[.bool false, .bool true, .bool false]
    have b1 := Blk.new (w5.alloc (.cells #[.bool false, .bool true, .bool false] 4)) 4 #[.bool true, .bool false, .bool true]
    have b2 := Blk.new ((w5.alloc (.cells #[.bool false, .bool true, .bool false] 4)).alloc (.cells #[.bool true, .bool false, .bool true] 4)) 4 #[.bool false, .bool true, .bool false]
    have b3 := Blk.new (((w5.alloc (.cells #[.bool false, .bool true, .bool false] 4)).alloc (.cells #[.bool true, .bool false, .bool true] 4)).alloc (.cells #[.bool false, .bool true, .bool false] 4)) 36 #[.slice (some ⟨w5.heap.size, 0, none⟩) 3 3, .slice (some ⟨w5.heap.size + 1, 0, none⟩) 3 3, .slice (some ⟨w5.heap.size + 1 + 1, 0, none⟩) 3 3]
    simp only [World.size_alloc] at b1 b2 b3
    exact tab3 _ w5.heap.size _ _ _ _ _ _ _ _ _ _ (by omega) (((b0.alloc _).alloc _).alloc _) ((b1.alloc _).alloc _) (b2.alloc _) b3
  clear eb
  refine (refSame_val _ 3 3 _ _ _ 3 3 _ _ true (by decide +kernel) _ H.out.2.2.2.2.1 hT.out (by decide) (by decide)).mono ?_
  rintro e w6 ⟨rfl, hb⟩
  have H := Lib.hid (H.out.up hb)
  clear hb hT
  obtain ⟨_, _, _, _, c5, c6⟩ := H.out.cells
  go_wp2_with fail
  refine (jammed_val _ 1 1 _ [⟨(0, 0), 10, 3, 20⟩] 6 8 3 19 true (by decide +kernel) _ H.out.2.2.2.1 (Nat.le_refl _) rfl (by decide)).mono ?_
  rintro e w7 ⟨rfl, hb⟩
  have H := Lib.hid (H.out.up hb)
  clear c5 c6 hb
  obtain ⟨_, _, _, _, c5, c6⟩ := H.out.cells
  go_wp2_with fail
  refine (jammed_val _ 1 1 _ [⟨(0, 0), 10, 3, 20⟩] 6 8 3 20 false (by decide +kernel) _ H.out.2.2.2.1 (Nat.le_refl _) rfl (by decide)).mono ?_
  rintro e w8 ⟨rfl, hb⟩
  have H := Lib.hid (H.out.up hb)
  clear c5 c6 hb
  obtain ⟨_, _, _, _, c5, c6⟩ := H.out.cells
  go_wp2_with fail
  refine (jammed_val _ 1 1 _ [⟨(0, 0), 10, 3, 20⟩] 6 8 2 19 false (by decide +kernel) _ H.out.2.2.2.1 (Nat.le_refl _) rfl (by decide)).mono ?_
  rintro e w9 ⟨rfl, hb⟩
  have H := Lib.hid (H.out.up hb)
  clear c5 c6 hb
  go_wp2_with fail
  go_ret
  exact ⟨rfl, H.out.2.2.2.2.2⟩
end Go.Proofs.Yteeloebhjmmpdaa.Pl
