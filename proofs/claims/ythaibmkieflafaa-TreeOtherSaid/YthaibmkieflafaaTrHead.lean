/- The head of the statements on the tree. -/
import Derived.Deep.RegionHeld3
import Derived.Test.YthaibmkieflafaaExt
import Derived.Test.YthaibmkieflafaaTrRef3
namespace Go.Proofs.Ythaibmkieflafaa.Tr
open Go.RowKit Go.Proofs.Ythaibmkieflafaa.Dig
set_option linter.unusedVariables false

theorem rd_blk {W : World} {g : Nat} {t : TypeId} {cs : Array Value} (h : Blk W g t cs) (size n : Nat) (xs : List Value) (hx : cs.toList = xs) (hs : cs.size = n * size) : Rd W W.heap.size size (some ⟨g, 0, none⟩) n xs :=
  ⟨by rw [← hx]; simpa using hs, fun _ => ⟨g, 0, rfl, h.lt, fun j u hu => by rw [Nat.zero_add, h.cell]; rw [← hx] at hu; simpa using hu⟩⟩
/-- The head's three pages, laid from block S on. -/
def H3 (S : Nat) (W : World) : Prop :=
  Blk W S 5 #[ub 1] ∧ Blk W (S + 1) 5 #[ub 2, ub 3] ∧ Blk W (S + 1 + 1) 22 #[.slice (some ⟨S, 0, none⟩) 1 1, .slice (some ⟨S + 1, 0, none⟩) 2 2, .slice none 0 0]
theorem H3.up {S : Nat} {W W' : World} (h : H3 S W) (hb : Below W.heap.size W W') : H3 S W' := ⟨h.1.up' hb, h.2.1.up' hb, h.2.2.up' hb⟩
def pgs (S : Nat) : List Pg := [⟨some ⟨S, 0, none⟩, 1, 1, [1]⟩, ⟨some ⟨S + 1, 0, none⟩, 2, 2, [2, 3]⟩, ⟨none, 0, 0, []⟩]
theorem H3.pages {S : Nat} {W : World} (h : H3 S W) : Pgs W W.heap.size (some ⟨S + 1 + 1, 0, none⟩) 3 (pgs S) := by
  refine ⟨rd_blk h.2.2 1 3 _ rfl rfl, fun p hp => ?_⟩
  simp only [pgs, List.mem_cons, List.mem_nil_iff, or_false] at hp
  rcases hp with rfl | rfl | rfl
  · exact ⟨rd_blk h.1 1 1 _ rfl rfl, by show 1 ≤ maxLen; decide⟩
  · exact ⟨rd_blk h.2.1 1 2 _ rfl rfl, by show 2 ≤ maxLen; decide⟩
  · exact ⟨Rd.nil_, by decide⟩
theorem H3.page {S : Nat} {W : World} (h : H3 S W) : Pgs W W.heap.size (some ⟨S + 1 + 1, 0, none⟩) 1 ((pgs S).take 1) := by
  refine ⟨?_, fun p hp => h.pages.2 p (List.mem_of_mem_take hp)⟩
  have := h.pages.1.take (k := 1) (by omega)
  simpa [pgs] using this
theorem okp3 (S : Nat) : okp (pgs S) = true := rfl
theorem okp1 (S : Nat) : okp ((pgs S).take 1) = true := rfl
theorem lvs3 (S : Nat) : lvs (pgs S) = [leaf [1], leaf [2, 3], leaf []] := rfl
theorem lvs1 (S : Nat) : lvs ((pgs S).take 1) = [leaf [1]] := rfl
def L3 : List UInt64 := [leaf [1], leaf [2, 3], leaf []]
theorem top1 : top [leaf [1]] = leaf [1] := by rw [top, dif_pos (by decide)]; rfl
theorem nxt3 (a b c : UInt64) : nxt [a, b, c] = [pair a b, c] := rfl
theorem nxt2 (a b : UInt64) : nxt [a, b] = [pair a b] := rfl
theorem top3 : top L3 = pair (pair (leaf [1]) (leaf [2, 3])) (leaf []) := by
  unfold L3
  rw [top, dif_neg (by decide), nxt3, top, dif_neg (by decide), nxt2, top, dif_pos (by decide)]
  rfl
theorem prf30 : prf L3 0 = [leaf [2, 3], leaf []] := by
  unfold L3
  rw [prf, dif_neg (by decide), nxt3, prf, dif_neg (by decide), nxt2, prf, dif_pos (by decide)]
  rfl
theorem prf31 : prf L3 1 = [leaf [1], leaf []] := by
  unfold L3
  rw [prf, dif_neg (by decide), nxt3, prf, dif_neg (by decide), nxt2, prf, dif_pos (by decide)]
  rfl
theorem prf32 : prf L3 2 = [pair (leaf [1]) (leaf [2, 3])] := by
  unfold L3
  rw [prf, dif_neg (by decide), nxt3, prf, dif_neg (by decide), nxt2, prf, dif_pos (by decide)]
  rfl
theorem upA : decide (up 3 1 (leaf [2, 3]) [leaf [1], leaf []] = some (pair (pair (leaf [1]) (leaf [2, 3])) (leaf []))) = true := by decide +kernel
theorem upB : decide (up 3 1 (leaf [2, 4]) [leaf [1], leaf []] = some (pair (pair (leaf [1]) (leaf [2, 3])) (leaf []))) = false := by decide +kernel
theorem upC : decide (up 3 1 (leaf [2, 3]) [leaf [1]] = some (pair (pair (leaf [1]) (leaf [2, 3])) (leaf []))) = false := by decide +kernel

theorem proof3 {S : Nat} {W : World} (h : H3 S W) (i : Nat) (hi : i < 3) (ys : List UInt64) (hy : prf L3 i = ys) (m : Nat) (hm : ys.length = m) (z : Int) (hz : (i : Int) = z) :
    Calls Try.prog 29 #[.slice (some ⟨S + 1 + 1, 0, none⟩) 3 3, i64 z] W fun e w' => ∃ X k, e = .returned (.tuple #[.slice X m k, i64 0]) ∧ Rd w' w'.heap.size 1 X m (ys.map u64) ∧ m ≤ k ∧ k ≤ maxLen ∧ Below W.heap.size W w' := by
  subst hz
  refine (proof_good _ 3 3 _ i (okp3 S) hi W h.pages (by decide)).mono ?_
  rintro e w' ⟨X, m', k, rfl, hm', hR, h1, h2, hb⟩
  rw [lvs3, show [leaf [1], leaf [2, 3], leaf []] = L3 from rfl, hy] at hm' hR
  rw [hm] at hm'
  subst hm'
  exact ⟨X, k, rfl, hR, h1, h2, hb⟩
theorem root_none (w : World) : Calls Try.prog 27 #[.slice none 0 0] w fun e w' => e = .returned (.tuple #[u64 0, i64 1]) ∧ Below w.heap.size w w' :=
  root_bad none 0 0 w.heap.size [] rfl w ⟨Rd.nil_, fun p hp => by cases hp⟩ (by decide)

theorem same_new {W0 : World} {X : Option Addr} {m k : Nat} {ys : List UInt64} (hR : Rd W0 W0.heap.size 1 X m (ys.map u64)) (h2 : m ≤ 9) (cs : Array Value) (hc : cs.toList = ys.map u64) (hm : cs.size = m) :
    Calls Try.prog 31 #[.slice X m k, .slice (some ⟨W0.heap.size, 0, none⟩) m m] (W0.alloc (.cells cs 23)) fun e w' => e = .returned (.bool true) ∧ Below W0.heap.size W0 w' := by
  have hB := (Below.refl W0.heap.size W0).alloc (Nat.le_refl _) (.cells cs 23)
  refine (refSame_val X m k _ m m _ ys ys true (by simp) _ (hR.up hB) (by have := rd_blk (Blk.new W0 23 cs) 1 m (ys.map u64) hc (by omega); exact this) (by unfold maxLen; omega) (by unfold maxLen; omega)).mono ?_
  rintro e w' ⟨he, hb⟩
  exact ⟨he, hB.trans (hb.mono (by simp))⟩

/-- What the head's last region holds fast. -/
def Hd (w : World) (S : Nat) (X : Option Addr) (W : World) : Prop := H3 S W ∧ Rd W W.heap.size 1 X 2 ([leaf [1], leaf []].map u64) ∧ Below S w W ∧ S + 3 ≤ W.heap.size
theorem Hd.up {w : World} {S : Nat} {X : Option Addr} {W W' : World} (h : Hd w S X W) (hb : Below W.heap.size W W') : Hd w S X W' := ⟨h.1.up hb, h.2.1.up hb, h.2.2.1.trans (hb.mono (by have := h.2.2.2; omega)), Nat.le_trans h.2.2.2 hb.size⟩
theorem Hd.alloc {w : World} {S : Nat} {X : Option Addr} {W : World} (h : Hd w S X W) (o : Obj) : Hd w S X (W.alloc o) := h.up ((Below.refl _ W).alloc (Nat.le_refl _) o)
theorem Hd.drew {w : World} {S : Nat} {X : Option Addr} {W : World} (h : Hd w S X W) : Hd w S X W.drew := ⟨h.1, h.2.1, h.2.2.1.drew, h.2.2.2⟩
theorem Hd.cell {w : World} {S : Nat} {X : Option Addr} {W : World} (h : Hd w S X W) : W.cell? ⟨S + 1 + 1, 1, none⟩ = some (.slice (some ⟨S + 1, 0, none⟩) 2 2) := h.1.2.2.cell 1
def TY : UInt64 := pair (pair (leaf [1]) (leaf [2, 3])) (leaf [])
theorem chkA (w : World) (S : Nat) (X : Option Addr) (k : Nat) (h1 : 2 ≤ k) (h2 : k ≤ maxLen) (W : World) (h : Hd w S X W) :
    Calls Try.prog 32 #[u64 TY, i64 3, i64 1, .slice (some ⟨S + 1, 0, none⟩) 2 2, .slice X 2 k] W fun e w' => e = .returned (.bool true) ∧ Hd w S X w' :=
  (check_good TY 3 1 (some ⟨S + 1, 0, none⟩) X 2 2 2 k [2, 3] [leaf [1], leaf []] true upA rfl W (rd_blk h.1.2.1 1 2 _ rfl rfl) h.2.1 h1 h2).mono fun _ _ ⟨he, hb⟩ => ⟨he, h.up hb⟩
theorem chkB (w : World) (S : Nat) (X : Option Addr) (k : Nat) (h1 : 2 ≤ k) (h2 : k ≤ maxLen) (W : World) (h : Hd w S X W) (G : Nat) (hG : Blk W G 5 #[ub 2, ub 4]) :
    Calls Try.prog 32 #[u64 TY, i64 3, i64 1, .slice (some ⟨G, 0, none⟩) 2 2, .slice X 2 k] W fun e w' => e = .returned (.bool false) ∧ Hd w S X w' :=
  (check_good TY 3 1 (some ⟨G, 0, none⟩) X 2 2 2 k [2, 4] [leaf [1], leaf []] false upB rfl W (rd_blk hG 1 2 _ rfl rfl) h.2.1 h1 h2).mono fun _ _ ⟨he, hb⟩ => ⟨he, h.up hb⟩
theorem chkC (w : World) (S : Nat) (X : Option Addr) (k : Nat) (h1 : 2 ≤ k) (h2 : k ≤ maxLen) (W : World) (h : Hd w S X W) :
    Calls Try.prog 32 #[u64 TY, i64 3, i64 1, .slice (some ⟨S + 1, 0, none⟩) 2 2, .slice X 1 k] W fun e w' => e = .returned (.bool false) ∧ Hd w S X w' :=
  (check_good TY 3 1 (some ⟨S + 1, 0, none⟩) X 2 2 1 k [2, 3] [leaf [1]] false upC rfl W (rd_blk h.1.2.1 1 2 _ rfl rfl) (by have := h.2.1.take (k := 1) (by omega); simpa using this) (by omega) h2).mono fun _ _ ⟨he, hb⟩ => ⟨he, h.up hb⟩

set_option maxRecDepth 100000 in
set_option maxHeartbeats 2000000 in
theorem head_val (w : World) : Calls Try.prog 25 #[] w fun e w' => e = .returned (.bool true) ∧ Below w.heap.size w w' := by
  go_enter Try.func25, Try.ntmps25
  go_wp2_with fail
  have h3 : H3 w.heap.size (((w.alloc (.cells #[ub 1] 5)).alloc (.cells #[ub 2, ub 3] 5)).alloc (.cells #[.slice (some ⟨w.heap.size, 0, none⟩) 1 1, .slice (some ⟨w.heap.size + 1, 0, none⟩) 2 2, .slice none 0 0] 22)) := by
    have b0 := ((Blk.new w 5 #[ub 1]).alloc (.cells #[ub 2, ub 3] 5)).alloc (.cells #[.slice (some ⟨w.heap.size, 0, none⟩) 1 1, .slice (some ⟨w.heap.size + 1, 0, none⟩) 2 2, .slice none 0 0] 22)
    have b1 := (Blk.new (w.alloc (.cells #[ub 1] 5)) 5 #[ub 2, ub 3]).alloc (.cells #[.slice (some ⟨w.heap.size, 0, none⟩) 1 1, .slice (some ⟨w.heap.size + 1, 0, none⟩) 2 2, .slice none 0 0] 22)
    have b2 := Blk.new ((w.alloc (.cells #[ub 1] 5)).alloc (.cells #[ub 2, ub 3] 5)) 22 #[.slice (some ⟨w.heap.size, 0, none⟩) 1 1, .slice (some ⟨w.heap.size + 1, 0, none⟩) 2 2, .slice none 0 0]
    simp only [World.size_alloc] at b1 b2
    exact ⟨b0, b1, b2⟩
  have hB := (((Below.refl w.heap.size w).alloc (Nat.le_refl _) (.cells #[ub 1] 5)).alloc (by simp) (.cells #[ub 2, ub 3] 5)).alloc (by simp; omega) (.cells #[.slice (some ⟨w.heap.size, 0, none⟩) 1 1, .slice (some ⟨w.heap.size + 1, 0, none⟩) 2 2, .slice none 0 0] 22)
  obtain ⟨U, hU⟩ : ∃ U, (((w.alloc (.cells #[ub 1] 5)).alloc (.cells #[ub 2, ub 3] 5)).alloc (.cells #[.slice (some ⟨w.heap.size, 0, none⟩) 1 1, .slice (some ⟨w.heap.size + 1, 0, none⟩) 2 2, .slice none 0 0] 22)) = U := ⟨_, rfl⟩
  have hU' : (((w.alloc (.cells #[.int .u8 1] 5)).alloc (.cells #[.int .u8 2, .int .u8 3] 5)).alloc (.cells #[.slice (some ⟨w.heap.size, 0, none⟩) 1 1, .slice (some ⟨w.heap.size + 1, 0, none⟩) 2 2, .slice none 0 0] 22)) = U := hU
  rw [hU] at h3 hB
  rw [hU']
  clear hU hU'
  generalize hS : w.heap.size = S at *
  have hup : ∀ a b, Below U.heap.size U a → Below a.heap.size a b → Below U.heap.size U b := fun a b h k => below_trans' h k
  have HH := Lib.hid h3
  have f0 : ∀ s : WOf (Below U.heap.size U), s.w.cell? ⟨S + 1 + 1, 0, none⟩ = some (.slice (some ⟨S, 0, none⟩) 1 1) := fun s => (h3.up s.ok).2.2.cell 0
  have f1 : ∀ s : WOf (Below U.heap.size U), s.w.cell? ⟨S + 1 + 1, 1, none⟩ = some (.slice (some ⟨S + 1, 0, none⟩) 2 2) := fun s => (h3.up s.ok).2.2.cell 1
  have f2 : ∀ s : WOf (Below U.heap.size U), s.w.cell? ⟨S + 1 + 1, 2, none⟩ = some (.slice none 0 0) := fun s => (h3.up s.ok).2.2.cell 2
  have N0 := Lib.hid (fun s : WOf (Below U.heap.size U) => lawLeaf_val (some ⟨S, 0, none⟩) 1 1 [1] s.w (rd_blk (h3.up s.ok).1 1 1 _ rfl rfl) (by decide))
  have N1 := Lib.hid (fun s : WOf (Below U.heap.size U) => lawLeaf_val (some ⟨S + 1, 0, none⟩) 2 2 [2, 3] s.w (rd_blk (h3.up s.ok).2.1 1 2 _ rfl rfl) (by decide))
  have N2 := Lib.hid (fun s : WOf (Below U.heap.size U) => lawLeaf_val none 0 0 [] s.w Rd.nil_ (by decide))
  clear h3
  refine wp_region_ext (Below U.heap.size U) (Below.refl _ _) hup (by kernel_rfl) (by kernel_rfl) (fun hne => ?_)
  repeat (go_big_quiet_step (first | with_reducible exact calls_ext hup (N0.out _) | with_reducible exact calls_ext hup (N1.out _) | with_reducible exact calls_ext hup (N2.out _)))
  refine wpQuiet_nil ?_
  clear hne
  intro wx hx'
  obtain ⟨⟨_, hx⟩, hx''⟩ := hx'
  subst hx''
  have hB1 := hB.trans (hx.mono (by have := hB.size; omega))
  have hH1 := Lib.hid (HH.out.up hx)
  clear f0 f1 f2 N0 N1 N2 HH hx hB hup
  go_wp2_with fail
  refine (root_good _ 1 _ _ (okp1 S) wx hH1.out.page (by decide)).mono ?_
  rintro e w1 ⟨rfl, hb1⟩
  rw [lvs1, top1]
  have hB2 := hB1.trans (hb1.mono (by have := hB1.size; omega))
  have hH2 := Lib.hid (hH1.out.up hb1)
  go_wp2_with fail
  refine (root_good _ 3 _ _ (okp3 S) w1 hH2.out.pages (by decide)).mono ?_
  rintro e w2 ⟨rfl, hb2⟩
  rw [lvs3, show [leaf [1], leaf [2, 3], leaf []] = L3 from rfl, top3]
  have hB3 := hB2.trans (hb2.mono (by have := hB2.size; omega))
  have hH3 := Lib.hid (hH2.out.up hb2)
  generalize hpa : leaf [1] = la at *
  generalize hpb : leaf [2, 3] = lb at *
  generalize hpc : leaf [] = lc at *
  have HPA := Lib.hid hpa
  have HPB := Lib.hid hpb
  have HPC := Lib.hid hpc
  clear hpa hpb hpc
  go_wp2_with fail
  refine (proof3 hH3.out 0 (by omega) [lb, lc] (by rw [prf30, HPB.out, HPC.out]) 2 rfl 0 rfl).mono ?_
  rintro e w3 ⟨X0, k0, rfl, hR0, hk0, hm0, hb3⟩
  have hB4 := hB3.trans (hb3.mono (by have := hB3.size; omega))
  have hH4 := Lib.hid (hH3.out.up hb3)
  go_wp2_with fail
  refine (proof3 hH4.out 1 (by omega) [la, lc] (by rw [prf31, HPA.out, HPC.out]) 2 rfl 1 rfl).mono ?_
  rintro e w4 ⟨X1, k1, rfl, hR1, hk1, hm1, hb4⟩
  have hR0 := hR0.up hb4
  have hB5 := hB4.trans (hb4.mono (by have := hB4.size; omega))
  have hH5 := Lib.hid (hH4.out.up hb4)
  go_wp2_with fail
  refine (proof3 hH5.out 2 (by omega) [pair la lb] (by rw [prf32, HPA.out, HPB.out]) 1 rfl 2 rfl).mono ?_
  rintro e w5 ⟨X2, k2, rfl, hR2, hk2, hm2, hb5⟩
  have hR0 := hR0.up hb5
  have hR1 := hR1.up hb5
  have hB6 := hB5.trans (hb5.mono (by have := hB5.size; omega))
  have hH6 := Lib.hid (hH5.out.up hb5)
  go_wp2_with fail
  refine (root_none _).mono ?_
  rintro e w6 ⟨rfl, hb6⟩
  have hR0 := Lib.hid (hR0.up hb6)
  have hR1 := Lib.hid (hR1.up hb6)
  have hR2 := Lib.hid (hR2.up hb6)
  have hB7 := hB6.trans (hb6.mono (by have := hB6.size; omega))
  have hH7 := Lib.hid (hH6.out.up hb6)
  clear hH1 hH2 hH3 hH4 hH5 hH6
  go_wp2_with fail
  refine (pair_any la lb _).mono ?_
  rintro e w7 ⟨rfl, rfl⟩
  go_wp2_with fail
  refine (pair_any (pair la lb) lc _).mono ?_
  rintro e w7 ⟨rfl, rfl⟩
  go_wp2_with fail
  refine (same_new hR0.out (by omega) _ rfl rfl).mono ?_
  rintro e w7 ⟨rfl, hb7⟩
  have hR1 := Lib.hid (hR1.out.up hb7)
  have hR2 := Lib.hid (hR2.out.up hb7)
  have hB8 := hB7.trans (hb7.mono (by have := hB7.size; omega))
  have hH8 := Lib.hid (hH7.out.up hb7)
  clear hR0 hH7
  go_wp2_with fail
  refine (same_new hR1.out (by omega) _ rfl rfl).mono ?_
  rintro e w8 ⟨rfl, hb8⟩
  have hR1 := Lib.hid (hR1.out.up hb8)
  have hR2 := Lib.hid (hR2.out.up hb8)
  have hB9 := hB8.trans (hb8.mono (by have := hB8.size; omega))
  have hH9 := Lib.hid (hH8.out.up hb8)
  clear hH8
  go_wp2_with fail
  refine (pair_any la lb _).mono ?_
  rintro e w9 ⟨rfl, rfl⟩
  go_wp2_with fail
  refine (same_new hR2.out (by omega) _ rfl rfl).mono ?_
  rintro e w9 ⟨rfl, hb9⟩
  have hR1 := Lib.hid (hR1.out.up hb9)
  have hBa := hB9.trans (hb9.mono (by have := hB9.size; omega))
  have hHa := Lib.hid (hH9.out.up hb9)
  clear hH9 hR2 hB1 hB2 hB3 hB4 hB5 hB6 hB7 hB8 hB9 hb1 hb2 hb3 hb4 hb5 hb6 hb7 hb8 hb9
  have HX : Hid (Hd w S X1 w9) := ⟨hHa.out, by have := hR1.out; rw [← HPA.out, ← HPC.out] at this; exact this, hBa, by have := hHa.out.2.2.lt; omega⟩
  have c1 := HX.out.cell
  have HT : Hid (pair (pair la lb) lc = TY) := by show _ = _; rw [← HPA.out, ← HPB.out, ← HPC.out]; rfl
  rw [HT.out]
  clear hHa hR1 hBa HPA HPB HPC HT
  go_wp2_with fail
  have hk1i : (1 : Int) ≤ (k1 : Int) := by omega
  have hk1n : ¬ k1 < 1 := by omega
  go_region_held3 (fun W => W.cell? ⟨S + 1 + 1, 1, none⟩ = some (.slice (some ⟨S + 1, 0, none⟩) 2 2)) (first | go_keep | assumption) (first
    | (go_at_call 32; (with_reducible refine (chkA w S _ _ hk1 hm1 _ ?h1).mono ?_); (case h1 => exact HX.out.drew); rintro e wA ⟨rfl, hA⟩; have c1 := hA.cell; have HA := Lib.hid hA; clear hA)
    | (go_at_call 32; (with_reducible refine (chkB w S _ _ hk1 hm1 _ ?h1 _ ?h2).mono ?_); (case h1 => exact HA.out.alloc _); (case h2 => exact Blk.new wA _ _); rintro e wB ⟨rfl, hB⟩; have c1 := hB.cell; have HB := Lib.hid hB; clear hB)
    | (go_at_call 32; (with_reducible refine (chkC w S _ _ hk1 hm1 _ ?h1).mono ?_); (case h1 => exact HB.out); rintro e wC ⟨rfl, hC⟩; have c1 := hC.cell; have HC := Lib.hid hC; clear hC))
  all_goals
    go_wp2_with fail
    go_ret
    exact ⟨rfl, by rw [hS]; exact HC.out.2.2.1⟩

end Go.Proofs.Ythaibmkieflafaa.Tr
