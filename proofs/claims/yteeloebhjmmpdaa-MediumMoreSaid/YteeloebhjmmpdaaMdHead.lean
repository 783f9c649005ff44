/- The head of the laws of chapter 17. -/
import Derived.Deep.RegionHeld3
import Derived.Test.YteeloebhjmmpdaaPlHead
import Derived.Test.YteeloebhjmmpdaaMdCat
namespace Go.Proofs.Yteeloebhjmmpdaa.Md
open Go.RowKit Go.Proofs.Yteeloebhjmmpdaa.Pl
set_option linter.unusedVariables false

theorem action_val (x s : Int) (w : World) :
    Calls Try.prog 42 #[i64 x, i64 s] w fun e w' => e = .returned (.agg #[i64 x, i64 2, i64 s, i64 (-9), i64 9]) ∧ Below w.heap.size w w' := by
  go_enter Try.func42, Try.ntmps42
  go_wp2_with fail
  exact bodyPost_ret (v := .agg #[i64 x, i64 2, i64 s, i64 (-9), i64 9]) (by simp [results, Try.results42, go_sem]) rfl ⟨rfl, (Below.refl _ _).alloc (Nat.le_refl _) _⟩

theorem rd_blk {W : World} {g : Nat} {t : TypeId} {cs : Array Value} (h : Blk W g t cs) (size n : Nat) (xs : List Value) (hx : cs.toList = xs) (hs : cs.size = n * size) : Rd W W.heap.size size (some ⟨g, 0, none⟩) n xs :=
  ⟨by rw [← hx]; simpa using hs, fun _ => ⟨g, 0, rfl, h.lt, fun j u hu => by rw [Nat.zero_add, h.cell]; rw [← hx] at hu; simpa using hu⟩⟩
def three : List Pt := [(0, 0), (3, 4), (6, 8)]
set_option maxRecDepth 100000 in
set_option maxHeartbeats 1000000 in
theorem gives_val (a b c : Ac) (J : Option Addr) (m e : Nat) (js : List Jm) (Y : Option Addr) (d B : Nat) (ys : List Int) (v : Bool) (hok : okm [a, b, c] three 5 7 = true) (hv : decide (catl [a, b, c] three 5 js 7 = ys) = v) (w : World)
    (hJ : Rd w B 5 J m (js.flatMap decJ)) (hj : js.length = m) (hmm : m ≤ maxLen) (hY : Rd w B 1 Y 3 (ys.map i64)) (hB : B ≤ w.heap.size) :
    Calls Try.prog 43 #[.agg #[i64 a.act, i64 a.ch, i64 a.st, i64 a.lo, i64 a.hi], .agg #[i64 b.act, i64 b.ch, i64 b.st, i64 b.lo, i64 b.hi], .agg #[i64 c.act, i64 c.ch, i64 c.st, i64 c.lo, i64 c.hi], .slice J m e, .slice Y 3 d] w fun e w' => e = .returned (.bool v) ∧ Below w.heap.size w w' := by
  have HO := Lib.hid hok; clear hok
  have HV := Lib.hid hv; clear hv
  have HJ := Lib.hid hj; clear hj
  go_enter Try.func43, Try.ntmps43
  go_wp2_with fail
  obtain ⟨U, hU⟩ : ∃ U, U = ((w.alloc (.cells #[i64 a.act, i64 a.ch, i64 a.st, i64 a.lo, i64 a.hi] 55)).alloc (.cells #[i64 b.act, i64 b.ch, i64 b.st, i64 b.lo, i64 b.hi] 55)).alloc (.cells #[i64 c.act, i64 c.ch, i64 c.st, i64 c.lo, i64 c.hi] 55) := ⟨_, rfl⟩
  have hUs : U.heap.size = w.heap.size + 1 + 1 + 1 := by rw [hU]; simp
  have hUb : Below w.heap.size w U := by rw [hU]; exact (((Below.refl _ w).alloc (Nat.le_refl _) _).alloc (by simp) _).alloc (by simp; omega) _
  rw [← hU, ← hUs]
  have b1 := (Blk.new U 55 #[i64 a.act, i64 a.ch, i64 a.st, i64 a.lo, i64 a.hi, i64 b.act, i64 b.ch, i64 b.st, i64 b.lo, i64 b.hi, i64 c.act, i64 c.ch, i64 c.st, i64 c.lo, i64 c.hi]).alloc (.cells #[i64 0, i64 0, i64 3, i64 4, i64 6, i64 8] 25)
  have b2 := Blk.new (U.alloc (.cells #[i64 a.act, i64 a.ch, i64 a.st, i64 a.lo, i64 a.hi, i64 b.act, i64 b.ch, i64 b.st, i64 b.lo, i64 b.hi, i64 c.act, i64 c.ch, i64 c.st, i64 c.lo, i64 c.hi] 55)) 25 #[i64 0, i64 0, i64 3, i64 4, i64 6, i64 8]
  rw [World.size_alloc] at b2
  have hb0 := hUb.trans ((((Below.refl U.heap.size U).alloc (Nat.le_refl _) (.cells #[i64 a.act, i64 a.ch, i64 a.st, i64 a.lo, i64 a.hi, i64 b.act, i64 b.ch, i64 b.st, i64 b.lo, i64 b.hi, i64 c.act, i64 c.ch, i64 c.st, i64 c.lo, i64 c.hi] 55)).alloc (by simp) (.cells #[i64 0, i64 0, i64 3, i64 4, i64 6, i64 8] 25)).mono hUb.size)
  refine (mdCatch_good _ 3 _ _ _ _ J m _ [a, b, c] three 5 js 7 HO.out _ (rd_blk b1 5 3 _ rfl rfl) (rd_blk b2 2 3 _ rfl rfl) ((hJ.below' hb0 hB).more (Nat.le_trans hB hb0.size)) (Nat.le_refl _) rfl rfl HJ.out hmm).mono ?_
  rintro e w1 ⟨G, rfl, hR, hb1⟩
  have hb2 := below_trans' hb0 hb1
  have HR := Lib.hid hR; clear hR b1 b2 hb0 hb1 hU hUs hUb
  go_wp2_with fail
  refine (refMSame_val _ 3 3 Y 3 _ w1.heap.size _ ys v HV.out _ HR.out ((hY.below' hb2 hB).more (Nat.le_trans hB hb2.size)) (Nat.le_refl _) (by decide) (by decide)).mono ?_
  rintro e w2 ⟨rfl, hb3⟩
  go_wp2_with fail
  go_ret
  exact ⟨rfl, below_trans' hb2 hb3⟩

/-- What the head has laid: three actions. -/
def H3 (S : Nat) (W : World) : Prop :=
  Blk W S 55 #[i64 2, i64 2, i64 0, i64 (-9), i64 9] ∧ Blk W (S + 1) 55 #[i64 1, i64 2, i64 0, i64 (-9), i64 9] ∧ Blk W (S + 1 + 1) 55 #[i64 0, i64 2, i64 0, i64 (-9), i64 9]
theorem H3.up {S : Nat} {W W' : World} (h : H3 S W) (hb : Below W.heap.size W W') : H3 S W' := ⟨h.1.up' hb, h.2.1.up' hb, h.2.2.up' hb⟩
def C3 (S : Nat) (W : World) : Prop :=
  (W.cell? ⟨S, 0, none⟩ = some (i64 2) ∧ W.cell? ⟨S, 1, none⟩ = some (i64 2) ∧ W.cell? ⟨S, 2, none⟩ = some (i64 0) ∧ W.cell? ⟨S, 3, none⟩ = some (i64 (-9)) ∧ W.cell? ⟨S, 4, none⟩ = some (i64 9)) ∧
  (W.cell? ⟨S + 1, 0, none⟩ = some (i64 1) ∧ W.cell? ⟨S + 1, 1, none⟩ = some (i64 2) ∧ W.cell? ⟨S + 1, 2, none⟩ = some (i64 0) ∧ W.cell? ⟨S + 1, 3, none⟩ = some (i64 (-9)) ∧ W.cell? ⟨S + 1, 4, none⟩ = some (i64 9)) ∧
  (W.cell? ⟨S + 1 + 1, 0, none⟩ = some (i64 0) ∧ W.cell? ⟨S + 1 + 1, 1, none⟩ = some (i64 2) ∧ W.cell? ⟨S + 1 + 1, 2, none⟩ = some (i64 0) ∧ W.cell? ⟨S + 1 + 1, 3, none⟩ = some (i64 (-9)) ∧ W.cell? ⟨S + 1 + 1, 4, none⟩ = some (i64 9))
theorem H3.cells {S : Nat} {W : World} (h : H3 S W) : C3 S W :=
  ⟨⟨h.1.cell 0, h.1.cell 1, h.1.cell 2, h.1.cell 3, h.1.cell 4⟩, ⟨h.2.1.cell 0, h.2.1.cell 1, h.2.1.cell 2, h.2.1.cell 3, h.2.1.cell 4⟩, ⟨h.2.2.cell 0, h.2.2.cell 1, h.2.2.cell 2, h.2.2.cell 3, h.2.2.cell 4⟩⟩
theorem H3.new (w : World) : H3 w.heap.size (((w.alloc (.cells #[i64 2, i64 2, i64 0, i64 (-9), i64 9] 55)).alloc (.cells #[i64 1, i64 2, i64 0, i64 (-9), i64 9] 55)).alloc (.cells #[i64 0, i64 2, i64 0, i64 (-9), i64 9] 55)) := by
  have h0 := ((Blk.new w 55 #[i64 2, i64 2, i64 0, i64 (-9), i64 9]).alloc (.cells #[i64 1, i64 2, i64 0, i64 (-9), i64 9] 55)).alloc (.cells #[i64 0, i64 2, i64 0, i64 (-9), i64 9] 55)
  have h1 := (Blk.new (w.alloc (.cells #[i64 2, i64 2, i64 0, i64 (-9), i64 9] 55)) 55 #[i64 1, i64 2, i64 0, i64 (-9), i64 9]).alloc (.cells #[i64 0, i64 2, i64 0, i64 (-9), i64 9] 55)
  have h2 := Blk.new ((w.alloc (.cells #[i64 2, i64 2, i64 0, i64 (-9), i64 9] 55)).alloc (.cells #[i64 1, i64 2, i64 0, i64 (-9), i64 9] 55)) 55 #[i64 0, i64 2, i64 0, i64 (-9), i64 9]
  simp only [World.size_alloc] at h1 h2
  exact ⟨h0, h1, h2⟩

/-- The head's own state: its three actions lie, nothing else has turned. -/
def Hx (w : World) (S : Nat) (W : World) : Prop := H3 S W ∧ Below w.heap.size w W
theorem Hx.up {w : World} {S : Nat} {W W' : World} (h : Hx w S W) (hb : Below W.heap.size W W') : Hx w S W' := ⟨h.1.up hb, below_trans' h.2 hb⟩
theorem Hx.alloc {w : World} {S : Nat} {W : World} (h : Hx w S W) (o : Obj) : Hx w S (W.alloc o) := h.up ((Below.refl _ W).alloc (Nat.le_refl _) o)
theorem Hx.drew {w : World} {S : Nat} {W : World} (h : Hx w S W) : Hx w S W.drew := ⟨h.1, h.2.drew⟩
theorem gives_h (a b c : Ac) (y0 y1 y2 : Int) (hok : okm [a, b, c] three 5 7 = true) (hv : decide (catl [a, b, c] three 5 [] 7 = [y0, y1, y2]) = true) (w : World) (S G : Nat) (W : World) (h : Hx w S W) (hG : Blk W G 3 #[i64 y0, i64 y1, i64 y2]) :
    Calls Try.prog 43 #[.agg #[i64 a.act, i64 a.ch, i64 a.st, i64 a.lo, i64 a.hi], .agg #[i64 b.act, i64 b.ch, i64 b.st, i64 b.lo, i64 b.hi], .agg #[i64 c.act, i64 c.ch, i64 c.st, i64 c.lo, i64 c.hi], .slice none 0 0, .slice (some ⟨G, 0, none⟩) 3 3] W fun e w' => e = .returned (.bool true) ∧ Hx w S w' :=
  (gives_val a b c none 0 0 [] (some ⟨G, 0, none⟩) 3 W.heap.size [y0, y1, y2] true hok hv W Rd.nil_ rfl (by decide) (rd_blk hG 1 3 _ rfl rfl) (Nat.le_refl _)).mono fun _ _ ⟨he, hb⟩ => ⟨he, h.up hb⟩
theorem gA (w : World) (S G : Nat) (W : World) (h : Hx w S W) (hG : Blk W G 3 #[i64 (-1), i64 0, i64 (-1)]) :
    Calls Try.prog 43 #[.agg #[i64 2, i64 2, i64 0, i64 (-9), i64 9], .agg #[i64 1, i64 2, i64 0, i64 (-9), i64 9], .agg #[i64 1, i64 2, i64 0, i64 (-9), i64 9], .slice none 0 0, .slice (some ⟨G, 0, none⟩) 3 3] W fun e w' => e = .returned (.bool true) ∧ Hx w S w' :=
  gives_h ⟨2, 2, 0, -9, 9⟩ ⟨1, 2, 0, -9, 9⟩ ⟨1, 2, 0, -9, 9⟩ (-1) 0 (-1) (by decide +kernel) (by decide +kernel) w S G W h hG
theorem gB (w : World) (S G : Nat) (W : World) (h : Hx w S W) (hG : Blk W G 3 #[i64 (-1), i64 (-2), i64 (-1)]) :
    Calls Try.prog 43 #[.agg #[i64 2, i64 2, i64 0, i64 (-9), i64 9], .agg #[i64 1, i64 2, i64 0, i64 (-9), i64 9], .agg #[i64 2, i64 2, i64 0, i64 (-9), i64 9], .slice none 0 0, .slice (some ⟨G, 0, none⟩) 3 3] W fun e w' => e = .returned (.bool true) ∧ Hx w S w' :=
  gives_h ⟨2, 2, 0, -9, 9⟩ ⟨1, 2, 0, -9, 9⟩ ⟨2, 2, 0, -9, 9⟩ (-1) (-2) (-1) (by decide +kernel) (by decide +kernel) w S G W h hG
theorem gC (w : World) (S G : Nat) (W : World) (h : Hx w S W) (hG : Blk W G 3 #[i64 (-1), i64 (-1), i64 (-1)]) :
    Calls Try.prog 43 #[.agg #[i64 2, i64 2, i64 10, i64 (-9), i64 9], .agg #[i64 1, i64 2, i64 0, i64 (-9), i64 9], .agg #[i64 0, i64 2, i64 0, i64 (-9), i64 9], .slice none 0 0, .slice (some ⟨G, 0, none⟩) 3 3] W fun e w' => e = .returned (.bool true) ∧ Hx w S w' :=
  gives_h ⟨2, 2, 10, -9, 9⟩ ⟨1, 2, 0, -9, 9⟩ ⟨0, 2, 0, -9, 9⟩ (-1) (-1) (-1) (by decide +kernel) (by decide +kernel) w S G W h hG
theorem act_h (x s : Int) (w : World) (S : Nat) (W : World) (h : Hx w S W) :
    Calls Try.prog 42 #[i64 x, i64 s] W fun e w' => e = .returned (.agg #[i64 x, i64 2, i64 s, i64 (-9), i64 9]) ∧ Hx w S w' ∧ Below W.heap.size W w' :=
  (action_val x s W).mono fun _ _ ⟨he, hb⟩ => ⟨he, h.up hb, hb⟩

set_option maxRecDepth 100000 in
set_option maxHeartbeats 2000000 in
theorem head_val (w : World) : Calls Try.prog 28 #[] w fun e w' => e = .returned (.bool true) ∧ Below w.heap.size w w' := by
  go_enter Try.func28, Try.ntmps28
  go_wp2_with fail
  refine (action_val 2 0 _).mono ?_
  rintro e w1 ⟨rfl, hb1⟩
  go_wp2_with fail
  refine (action_val 1 0 _).mono ?_
  rintro e w2 ⟨rfl, hb2⟩
  go_wp2_with fail
  refine (action_val 0 0 _).mono ?_
  rintro e w3 ⟨rfl, hb3⟩
  have hb := below_trans' (below_trans' hb1 hb2) hb3
  clear hb1 hb2 hb3
  have hH := H3.new w3
  have hB := ((hb.alloc hb.size (.cells #[i64 2, i64 2, i64 0, i64 (-9), i64 9] 55)).alloc (by simp; have := hb.size; omega) (.cells #[i64 1, i64 2, i64 0, i64 (-9), i64 9] 55)).alloc (by simp; have := hb.size; omega) (.cells #[i64 0, i64 2, i64 0, i64 (-9), i64 9] 55)
  obtain ⟨U, hU⟩ : ∃ U, U = ((w3.alloc (.cells #[i64 2, i64 2, i64 0, i64 (-9), i64 9] 55)).alloc (.cells #[i64 1, i64 2, i64 0, i64 (-9), i64 9] 55)).alloc (.cells #[i64 0, i64 2, i64 0, i64 (-9), i64 9] 55) := ⟨_, rfl⟩
  rw [← hU] at hH hB
  have HU := Lib.hid hU; clear hU hb
  have HH := Lib.hid hH
  obtain ⟨⟨c0, c1, c2, c3, c4⟩, ⟨d0, d1, d2, d3, d4⟩, e0, e1, e2, e3, e4⟩ := hH.cells
  clear hH
  go_wp2_with fail
  rw [← HU.out]
  generalize w3.heap.size = S at *
  have HX : Hid (Hx w S U) := Lib.hid ⟨HH.out, hB⟩
  clear HH hB
  go_region_held3 (fun W => (W.cell? ⟨S, 0, none⟩ = some (i64 2) ∧ W.cell? ⟨S, 1, none⟩ = some (i64 2) ∧ W.cell? ⟨S, 2, none⟩ = some (i64 0) ∧ W.cell? ⟨S, 3, none⟩ = some (i64 (-9)) ∧ W.cell? ⟨S, 4, none⟩ = some (i64 9)) ∧
    (W.cell? ⟨S + 1, 0, none⟩ = some (i64 1) ∧ W.cell? ⟨S + 1, 1, none⟩ = some (i64 2) ∧ W.cell? ⟨S + 1, 2, none⟩ = some (i64 0) ∧ W.cell? ⟨S + 1, 3, none⟩ = some (i64 (-9)) ∧ W.cell? ⟨S + 1, 4, none⟩ = some (i64 9)) ∧
    (W.cell? ⟨S + 1 + 1, 0, none⟩ = some (i64 0) ∧ W.cell? ⟨S + 1 + 1, 1, none⟩ = some (i64 2) ∧ W.cell? ⟨S + 1 + 1, 2, none⟩ = some (i64 0) ∧ W.cell? ⟨S + 1 + 1, 3, none⟩ = some (i64 (-9)) ∧ W.cell? ⟨S + 1 + 1, 4, none⟩ = some (i64 9))) (first | go_keep | (go_split_ands <;> assumption)) (first
    | (go_at_call 43; (with_reducible refine (gA w S _ _ ?h1 ?h2).mono ?_); (case h1 => exact (HX.out.alloc _).drew); (case h2 => exact Blk.new U _ _); rintro e wA ⟨rfl, hA⟩; obtain ⟨⟨c0, c1, c2, c3, c4⟩, ⟨d0, d1, d2, d3, d4⟩, e0, e1, e2, e3, e4⟩ := hA.1.cells; have HA := Lib.hid hA; clear hA)
    | (go_at_call 43; (with_reducible refine (gB w S _ _ ?h1 ?h2).mono ?_); (case h1 => exact HA.out.alloc _); (case h2 => exact Blk.new wA _ _); rintro e wB ⟨rfl, hB⟩; obtain ⟨⟨c0, c1, c2, c3, c4⟩, ⟨d0, d1, d2, d3, d4⟩, e0, e1, e2, e3, e4⟩ := hB.1.cells; have HB := Lib.hid hB; clear hB)
    | (go_at_call 42; (with_reducible refine (act_h 2 10 w S _ ?h1).mono ?_); (case h1 => first | exact HB.out | exact HB.out.alloc _); rintro e wC ⟨rfl, hC, hbC⟩; obtain ⟨⟨c0, c1, c2, c3, c4⟩, ⟨d0, d1, d2, d3, d4⟩, e0, e1, e2, e3, e4⟩ := hC.1.cells; have HC := Lib.hid hC; clear hC)
    | (go_at_call 43; (with_reducible refine (gC w S _ _ ?h1 ?h2).mono ?_); (case h1 => first | exact HC.out | exact HC.out.alloc _); (case h2 => first | exact Blk.new wC _ _ | exact (Blk.new wB _ _).up' hbC); rintro e wD ⟨rfl, hD⟩; obtain ⟨⟨c0, c1, c2, c3, c4⟩, ⟨d0, d1, d2, d3, d4⟩, e0, e1, e2, e3, e4⟩ := hD.1.cells; have HD := Lib.hid hD; clear hD))
  all_goals
    go_wp2_with fail
    have b0 := (Blk.new wD 43 #[i64 6, i64 8, i64 5, i64 2, i64 8]).alloc (.cells #[i64 (-1), i64 (-2), i64 (-2)] 3)
    have b1 := Blk.new (wD.alloc (.cells #[i64 6, i64 8, i64 5, i64 2, i64 8] 43)) 3 #[i64 (-1), i64 (-2), i64 (-2)]
    rw [World.size_alloc] at b1
    have hE := (HD.out.alloc (.cells #[i64 6, i64 8, i64 5, i64 2, i64 8] 43)).alloc (.cells #[i64 (-1), i64 (-2), i64 (-2)] 3)
    refine (gives_val ⟨2, 2, 0, -9, 9⟩ ⟨1, 2, 0, -9, 9⟩ ⟨1, 2, 0, -9, 9⟩ _ 1 1 [⟨(6, 8), 5, 2, 8⟩] _ 3 _ [-1, -2, -2] true (by decide +kernel) (by decide +kernel) _ (rd_blk b0 5 1 _ rfl rfl) rfl (by decide) (rd_blk b1 1 3 _ rfl rfl) (Nat.le_refl _)).mono ?_
    rintro e wE ⟨rfl, hbE⟩
    have hE2 := hE.up hbE
    obtain ⟨⟨c0, c1, c2, c3, c4⟩, ⟨d0, d1, d2, d3, d4⟩, e0, e1, e2, e3, e4⟩ := hE2.1.cells
    have HE2 := Lib.hid hE2; clear hE2 hE hbE b0 b1
    go_wp2_with fail
    have b0 := Blk.new wE 55 #[i64 2, i64 2, i64 0, i64 (-9), i64 9]
    refine (mdCatch_bad _ 1 1 none 0 0 _ none 0 0 [⟨2, 2, 0, -9, 9⟩] [] 5 7 (by decide +kernel) _ (rd_blk b0 5 1 _ rfl rfl) Rd.nil_ (Nat.le_refl _) rfl rfl (by decide) (by decide)).mono ?_
    rintro e wF ⟨rfl, hbF⟩
    have hF := (HE2.out.alloc (.cells #[i64 2, i64 2, i64 0, i64 (-9), i64 9] 55)).up hbF
    go_wp2_with fail
    go_ret
    exact ⟨rfl, hF.2⟩
end Go.Proofs.Yteeloebhjmmpdaa.Md
