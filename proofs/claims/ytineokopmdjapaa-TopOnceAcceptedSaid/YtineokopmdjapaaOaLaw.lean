/- The walk of the law TopOnceAccepted. -/
import Derived.Test.YtineokopmdjapaaOaArgs
namespace Go.Proofs.Ytineokopmdjapaa.Oa
open Go.RowKit
set_option linter.unusedVariables false

/-- A frame that was sealed: its sender, its slot, its key. -/
structure Fr where
  fr : Nat
  at_ : Nat
  key : Nat
def decF (p : Fr) : List Value := [i64 1, i64 (p.fr : Nat), i64 (-1), i64 (p.at_ : Nat), i64 (p.key : Nat), .slice none 0 0]
theorem one_decF (a : Fr) : ∀ u ∈ decF a, u.oneCell' = true := by
  intro u hu
  unfold decF at hu
  simp only [List.mem_cons, List.not_mem_nil, or_false] at hu
  rcases hu with rfl | rfl | rfl | rfl | rfl | rfl <;> rfl
def okf (a : Nat) (p : Fr) : Prop := p.at_ ≤ a ∧ p.key = p.at_ / 2000 + 1
theorem info_frame : (Try.prog.info? 31).map (fun i => (i.zero, i.size, i.bytes)) = some (some (.agg #[.int .i64 0, .int .i64 0, .int .i64 0, .int .i64 0, .int .i64 0, .slice none 0 0]), 6, 64) := by kernel_rfl

/-- Between two slots. -/
def Out (w : World) (F : Nat) (a l s i : Value) (wr : World) : Prop :=
  ∃ (k x : Nat) (A : Option Addr) (c : Nat) (L : List (Nat × Nat)) (S : List Fr), i = i64 (k : Nat) ∧ k ≤ 100 ∧ a = i64 (x : Nat) ∧ x ≤ 500000000 + 256 * k ∧ l = .slice A 4 c ∧ Win wr A 4 c L ∧ L.length = 4 ∧ (∀ p ∈ L, okw (x + 1) p) ∧
    (∃ D d, s = .slice D S.length d) ∧ wr.ownsRow F 31 6 s S.length (S.flatMap decF) ∧ S.length = S.length ∧ S.length ≤ k ∧ (∀ p ∈ S, okf x p) ∧ Below F w wr

theorem frame_cells {W : World} {F g cap n : Nat} {S : List Fr} (h : W.ownsRow F 31 6 (.slice (some ⟨g, 0, none⟩) n cap) n (S.flatMap decF)) {m : Nat} (hm : m < S.length) :
    W.cell? ⟨g, m * 6, none⟩ = some (i64 1) ∧ W.cell? ⟨g, m * 6 + 1, none⟩ = some (i64 (S[m].fr : Nat)) ∧ W.cell? ⟨g, m * 6 + 2, none⟩ = some (i64 (-1)) ∧ W.cell? ⟨g, m * 6 + 3, none⟩ = some (i64 (S[m].at_ : Nat)) ∧
      W.cell? ⟨g, m * 6 + 4, none⟩ = some (i64 (S[m].key : Nat)) ∧ W.cell? ⟨g, m * 6 + 5, none⟩ = some (.slice none 0 0) := by
  have hl := h.1
  rw [flat_len (k := 6) (fun _ => rfl)] at hl
  have H : ∀ i u, i < 6 → (decF S[m])[i]? = some u → W.cell? ⟨g, m * 6 + i, none⟩ = some u := fun i u hi hu => by
    rw [h.cellAt (m * 6 + i) (by omega), flat_get (k := 6) (fun _ => rfl) S m i _ (List.getElem?_eq_getElem hm) hi]
    exact hu
  exact ⟨H 0 _ (by decide) rfl, H 1 _ (by decide) rfl, H 2 _ (by decide) rfl, H 3 _ (by decide) rfl, H 4 _ (by decide) rfl, H 5 _ (by decide) rfl⟩
theorem own_apart {w w' : World} {base base' size size' n n' : Nat} {e e' : TypeId} {v v' : Value} {xs xs' : List Value} (h : w.ownsRow base e size v n xs) (k : w.ownsRow base' e' size' v' n' xs') (hne : e ≠ e') (hg : w.grownBy w' v'.ownBlock) : w'.ownsRow base e size v n xs := by
  refine h.kept hg ?_
  rcases h.2 with ⟨rfl, _⟩ | ⟨g, cap, cur, rfl, _, hgb, _⟩
  · exact .inl rfl
  · refine .inr fun e' => ?_
    rcases k.2 with ⟨rfl, _⟩ | ⟨g2, cap2, cur2, rfl, _, hgb2, _⟩
    · simp [Value.ownBlock] at e'
    · have e3 : g = g2 := by simpa [Value.ownBlock] using e'
      subst e3
      rw [hgb] at hgb2
      simp at hgb2
      exact hne hgb2.2
theorem blk_apart {w w' : World} {B n s : Nat} {e t : TypeId} {v : Value} {xs : List Value} {cs : Array Value} (h : Blk w B t cs) (k : w.ownsRow 0 e s v n xs) (hne : v.ownBlock ≠ some B) (hg : w.grownBy w' v.ownBlock) : Blk w' B t cs := h.grown hg (fun e => hne e.symm)
theorem own_not {w : World} {base n s : Nat} {e t : TypeId} {v : Value} {xs : List Value} (k : w.ownsRow base e s v n xs) {B : Nat} (hB : w.heap.size ≤ B) : v.ownBlock ≠ some B := by
  intro h
  have := (own_block k B h).2
  omega
theorem own_type {w : World} {base n s : Nat} {e t : TypeId} {v : Value} {xs : List Value} (k : w.ownsRow base e s v n xs) {B : Nat} {cs : Array Value} (hB : Blk w B t cs) (hne : e ≠ t) : v.ownBlock ≠ some B := by
  intro h
  rcases k.2 with ⟨rfl, _⟩ | ⟨g, cap, cur, rfl, _, hgb, _⟩
  · simp [Value.ownBlock] at h
  · have e3 : g = B := by simpa [Value.ownBlock] using h
    subst e3
    unfold Blk at hB
    rw [hgb] at hB
    simp at hB
    exact hne hB.2
theorem w64_byte (x : UInt8) : wrap64 (x.toNat : Int) = (x.toNat : Int) := Go.IntWalk.wrap64_in _ (by have := UInt8.toNat_lt x; omega)
theorem mod4_byte (x : UInt8) : (wrap64 (x.toNat : Int)).tmod 4 = ((x.toNat % 4 : Nat) : Int) := by
  rw [w64_byte, Int.tmod_eq_emod_of_nonneg (by omega)]; exact (Int.natCast_emod _ _).symm
theorem modn_byte (x : UInt8) (n : Nat) : (wrap64 (x.toNat : Int)).tmod (n : Int) = ((x.toNat % n : Nat) : Int) := by
  rw [w64_byte, Int.tmod_eq_emod_of_nonneg (by omega)]; exact (Int.natCast_emod _ _).symm
theorem okw_LL {old : Bool} {L : List (Nat × Nat)} {j y q : Nat} (hok : ∀ p ∈ L, okw y p) (hj : j < L.length) (hy : y ≤ 999999999) : ∀ p ∈ LL old L j y q, okw (y + 1) p := by
  intro p hp
  unfold LL at hp
  split at hp
  · exact (hok p hp).mono (by omega)
  · have hD : L.getD j (0, 0) = L[j] := by rw [List.getD_eq_getElem?_getD, List.getElem?_eq_getElem hj]; rfl
    rw [hD] at hp
    have hm := hok _ (List.getElem_mem hj)
    rcases List.mem_or_eq_of_mem_set hp with h | h
    · exact (hok p h).mono (by omega)
    · subst h
      have hlt : L[j].1 < y + 1 := by have := hm.2.2; omega
      exact ⟨vw_nb hm.1 hlt (by omega), nb_lt _ _ _ hlt, Nat.le_refl _⟩
theorem LL_len {old : Bool} {L : List (Nat × Nat)} {j y q : Nat} : (LL old L j y q).length = L.length := by
  unfold LL
  split <;> simp
theorem okf_mono {a b : Nat} {p : Fr} (h : okf a p) (hab : a ≤ b) : okf b p := ⟨Nat.le_trans h.1 hab, h.2⟩

/-- The frame that is heard in a slot: in block T, and the frames that were sealed. -/
def Pick (w0 : World) (k T j y : Nat) (old : Bool) (s : Value) (wx : World) : Prop :=
  ∃ (S : List Fr) (f : Fr), (∃ D d, s = .slice D S.length d) ∧ wx.ownsRow w0.heap.size 31 6 s S.length (S.flatMap decF) ∧ Blk wx T 31 #[i64 1, i64 (f.fr : Nat), i64 (-1), i64 (f.at_ : Nat), i64 (f.key : Nat), .slice none 0 0] ∧ S.length ≤ k + 1 ∧ (∀ p ∈ S, okf y p) ∧ okf y f ∧
    (old = true → f.at_ ≠ y) ∧ (old = false → f.fr = j ∧ f.at_ = y) ∧ Below w0.heap.size w0 wx
theorem six {w : World} {T : Nat} {t : TypeId} {a0 a1 a2 a3 a4 a5 v0 v1 v2 v3 v4 v5 : Value} (h : Blk w T t #[a0, a1, a2, a3, a4, a5]) :
    Blk ((((((w.setCell ⟨T, 0, none⟩ v0).setCell ⟨T, 1, none⟩ v1).setCell ⟨T, 2, none⟩ v2).setCell ⟨T, 3, none⟩ v3).setCell ⟨T, 4, none⟩ v4).setCell ⟨T, 5, none⟩ v5) T t #[v0, v1, v2, v3, v4, v5] := by
  simpa using (((((h.set_ 0 v0).set_ 1 v1).set_ 2 v2).set_ 3 v3).set_ 4 v4).set_ 5 v5
theorem six_below {w0 w : World} {B T : Nat} {v0 v1 v2 v3 v4 v5 : Value} (h : Below B w0 w) (hT : B ≤ T) :
    Below B w0 ((((((w.setCell ⟨T, 0, none⟩ v0).setCell ⟨T, 1, none⟩ v1).setCell ⟨T, 2, none⟩ v2).setCell ⟨T, 3, none⟩ v3).setCell ⟨T, 4, none⟩ v4).setCell ⟨T, 5, none⟩ v5) :=
  (((((h.setCell (p := ⟨T, 0, none⟩) hT v0).setCell (p := ⟨T, 1, none⟩) hT v1).setCell (p := ⟨T, 2, none⟩) hT v2).setCell (p := ⟨T, 3, none⟩) hT v3).setCell (p := ⟨T, 4, none⟩) hT v4).setCell (p := ⟨T, 5, none⟩) hT v5

set_option maxRecDepth 100000 in
set_option maxHeartbeats 1000000 in
theorem topOnceAccepted_walk (x0 : Nat) (A : Option Addr) (n c : Nat) (air : List Air) (w : World) (g0 : x0 < 4294967296) (g1 : IsAir w A n c air) :
    Calls Try.prog 3 #[.int .u32 (x0 : Nat), .slice A n c] w fun e w' => e = .returned (.bool true) ∧ Below w.heap.size w w' := by
  obtain ⟨hl, hR, hnc, hcm, _⟩ := g1
  have hn9 : n ≤ maxLen := Nat.le_trans hnc hcm
  unfold maxLen at hn9
  clear hnc hcm
  have HR := Lib.hid hR; clear hR
  have HL := Lib.hid hl; clear hl
  have HO := Lib.hid once_val
  by_cases hn : n ≤ 100
  · obtain ⟨a0, ha0⟩ : ∃ a0, x0 % 500000000 = a0 := ⟨_, rfl⟩
    have ha0' : a0 < 500000000 := by omega
    have hr0 : (x0 : Int) % 500000000 = (a0 : Int) := by omega
    clear ha0
    have hmk : ∀ W : World, (Instr.makeSlice 25 (.int .i64 4) (.int .i64 4)).run Try.prog W = .ok (.slice (some ⟨W.heap.size, 0, none⟩) 4 4) (W.alloc (.cells #[.int .i64 0, .int .u64 0, .int .i64 0, .int .u64 0, .int .i64 0, .int .u64 0, .int .i64 0, .int .u64 0] 49)) := fun _ => by kernel_rfl
    go_enter Try.func3, Try.ntmps3
    go_wp2_with fail
    refine (HO.out _).mono ?_
    rintro e w1 ⟨rfl, hb1⟩
    go_wp2_with fail
    have hB0 : Below w.heap.size w (w1.alloc (.cells #[.int .i64 0, .int .u64 0, .int .i64 0, .int .u64 0, .int .i64 0, .int .u64 0, .int .i64 0, .int .u64 0] 49)) := hb1.alloc hb1.size _
    have hW0 : Win (w1.alloc (.cells #[.int .i64 0, .int .u64 0, .int .i64 0, .int .u64 0, .int .i64 0, .int .u64 0, .int .i64 0, .int .u64 0] 49)) (some ⟨w1.heap.size, 0, none⟩) 4 4 [(0, 0), (0, 0), (0, 0), (0, 0)] :=
      ⟨World.ownsRow_lit (base := 0) (e := 49) (size := 2) w1 #[.int .i64 0, .int .u64 0, .int .i64 0, .int .u64 0, .int .i64 0, .int .u64 0, .int .i64 0, .int .u64 0] 4 (Nat.zero_le _) (by decide) rfl, rfl⟩
    have hS0 : (w1.alloc (.cells #[.int .i64 0, .int .u64 0, .int .i64 0, .int .u64 0, .int .i64 0, .int .u64 0, .int .i64 0, .int .u64 0] 49)).ownsRow w.heap.size 31 6 (.slice none 0 0) 0 [] := ⟨rfl, .inl ⟨rfl, rfl⟩⟩
    have HB0 := Lib.hid hB0; clear hB0
    have HW0 := Lib.hid hW0; clear hW0
    have HS0 := Lib.hid hS0; clear hS0
    clear hmk hb1
    have HO1 : Hid (Out w w.heap.size (.int .i64 (a0 : Int)) (.slice (some ⟨w1.heap.size, 0, none⟩) 4 4) (.slice none 0 0) (.int .i64 0) (w1.alloc (.cells #[.int .i64 0, .int .u64 0, .int .i64 0, .int .u64 0, .int .i64 0, .int .u64 0, .int .i64 0, .int .u64 0] 49))) :=
      Lib.hid ⟨0, a0, _, 4, _, [], rfl, by omega, rfl, by omega, rfl, HW0.out, rfl, fun p hp => by
        simp only [List.mem_cons, List.not_mem_nil, or_false, or_self] at hp
        subst hp
        exact ⟨vw_zero, by decide, by omega⟩, ⟨none, 0, rfl⟩, HS0.out, rfl, Nat.le_refl _, fun p hp => by (cases hp), HB0.out⟩
    go_loopw [5, 6, 7, 8, 9] (fun up a l s i wr => up = .bool true ∧ Out w w.heap.size a l s i wr) (fun _ _ _ _ i _ => n - (intOf i).toNat)
    case atStart => exact ⟨rfl, by rw [hr0]; exact HO1.out⟩
    case round =>
      obtain ⟨rfl, k, x, A1, cw, L, S, rfl, hk, rfl, hx, rfl, hW, hL4, hok, ⟨D, d, rfl⟩, hS, _, hSk, hfs, hB⟩ := hrel
      clear HB0 HW0 HS0 HO1 hr0
      have HOK := Lib.hid hok; clear hok
      have HF := Lib.hid hfs; clear hfs
      have HL4 := Lib.hid hL4; clear hL4
      have HW := Lib.hid hW; clear hW
      have HS := Lib.hid hS; clear hS
      by_cases hlt : k < n
      · have hka : k < air.length := by have := HL.out; omega
        obtain ⟨b, off, rfl, hb, hc⟩ := rd_el (dec := decAir) (s := 5) (fun _ => rfl) (HR.out.below hB) HL.out hka
        obtain ⟨⟨x1, x2, x3, x4, x5⟩, hx5⟩ : ∃ p, air[k] = p := ⟨_, rfl⟩
        rw [hx5] at hc
        have c0 := hc 0 _ rfl
        have c1 := hc 1 _ rfl
        have c2 := hc 2 _ rfl
        have c3 := hc 3 _ rfl
        have c4 := hc 4 _ rfl
        rw [Nat.add_zero] at c0
        dsimp only [decAir] at c0 c1 c2 c3 c4
        clear hc hx5
        obtain ⟨y, hy⟩ : ∃ y, x + (1 + x1.toNat) = y := ⟨_, rfl⟩
        have hxy : (x : Int) + (1 + (x1.toNat : Int)) = (y : Int) := by omega
        have hx1 := UInt8.toNat_lt x1
        have hy1 : x < y := by omega
        have hy2 : y ≤ 500000000 + 256 * (k + 1) := by omega
        clear hy
        have BX := Lib.hid (Blk.new wr 28 #[ub x1, ub x2, .bool x3, ub x4, ub x5])
        have hBX : Hid (Below wr.heap.size wr (wr.alloc (.cells #[ub x1, ub x2, .bool x3, ub x4, ub x5] 28))) := Lib.hid ((Below.refl _ wr).alloc (Nat.le_refl _) _)
        have HB := Lib.hid hB; clear hB
        go_upto_region 12 with fail
        go_cut [11] (fun s11 wx => ∃ old : Bool, s11 = .bool old ∧ (old = true → 0 < S.length) ∧ wx = wr.alloc (.cells #[ub x1, ub x2, .bool x3, ub x4, ub x5] 28))
        case first =>
          cases x3 with
          | false =>
            go_wp2_with fail
            go_meet
            exact ⟨false, rfl, fun h => (by cases h), rfl⟩
          | true =>
            go_wp2_with fail
            go_meet
            exact ⟨_, rfl, fun h => of_decide_eq_true h, rfl⟩
        case rest =>
          obtain ⟨old, rfl, hold, hwc⟩ := hcut
          obtain ⟨wv, hwv⟩ : ∃ wv : World, wv = wc := ⟨_, rfl⟩
          subst hwv
          have hBc : Below wr.heap.size wr wv := by rw [hwc]; exact hBX.out
          have BXc : Blk wv wr.heap.size 28 #[ub x1, ub x2, .bool x3, ub x4, ub x5] := by rw [hwc]; exact BX.out
          have BX := Lib.hid BXc
          clear hwc hBX BXc c0 c1 c2 c3 c4
          have HWc := Lib.hid (HW.out.up hBc)
          have HSc := Lib.hid (own_keep HS.out hBc)
          have HBc := Lib.hid (HB.out.trans (hBc.mono HB.out.size))
          clear HW HS
          clear hBc HB
          have HOLD := Lib.hid hold; clear hold
          obtain ⟨j, hj⟩ : ∃ j, x2.toNat % 4 = j := ⟨_, rfl⟩
          have hj4 : j < 4 := by omega
          have hjm : ((x2.toNat : Int)).tmod 4 = (j : Int) := by rw [Int.tmod_eq_emod_of_nonneg (by omega)]; omega
          have hjw : IntKind.i64.wrap (x2.toNat : Int) = (x2.toNat : Int) := Go.IntWalk.i64_in _ (by have := UInt8.toNat_lt x2; omega)
          have hjv : IntKind.i64.wrap (j : Int) = (j : Int) := Go.IntWalk.i64_in _ (by omega)
          clear hj
          have NS := seal_val 1 (j : Int) (-1) 0 y none 0 0 (by omega)
          unfold fv at NS
          obtain ⟨ky, hky⟩ : ∃ ky, y / 2000 + 1 = ky := ⟨_, rfl⟩
          rw [hky] at NS
          have HKY := Lib.hid hky; clear hky
          have NS := Lib.hid NS
          have NR := Lib.hid (root_val y (by omega))
          have e1 : wv.cell? ⟨wr.heap.size, 1, none⟩ = some (ub x2) := BX.out.cell 1
          have y1 := World.new_ne wv _ e1
          have hWa : Below wv.heap.size wv wv.drew := (Below.refl _ wv).drew
          have hWb : Below wv.heap.size wv (wv.alloc (.cells #[.int .i64 0, .int .i64 0, .int .i64 0, .int .i64 0, .int .i64 0, .slice none 0 0] 31)).drew := ((Below.refl _ wv).alloc (Nat.le_refl _) _).drew
          have BB : Blk (wv.alloc (.cells #[.int .i64 0, .int .i64 0, .int .i64 0, .int .i64 0, .int .i64 0, .slice none 0 0] 31)).drew wv.heap.size 31 #[.int .i64 0, .int .i64 0, .int .i64 0, .int .i64 0, .int .i64 0, .slice none 0 0] := Blk.new wv _ _
          have HWa := Lib.hid hWa; clear hWa
          have HWb := Lib.hid hWb; clear hWb
          have BB := Lib.hid BB
          have HSv := Lib.hid (own_block HSc.out)
          go_upto_region 13 with fail
          go_cut [12, 13] (fun s12 s13 wx => ∃ T, s12 = .pointer (some ⟨T, 0, none⟩) ∧ s13 = .int .i64 0 ∧ Hid (Blk wx T 31 #[i64 1, i64 (j : Nat), i64 (-1), i64 (y : Nat), i64 (ky : Nat), .slice none 0 0]) ∧ Below wv.heap.size wv wx ∧ wv.heap.size ≤ T)
          case first =>
            go_region_held3 (fun W => W.cell? ⟨wr.heap.size, 1, none⟩ = some (ub x2)) (first | go_keep | assumption) (first
              | (go_at_call 6; refine (NR.out _).mono ?_; rintro e w5 ⟨rfl, hb5⟩; have hD5 : Below wv.heap.size wv w5 := (by first | exact HWa.out.trans (hb5.mono HWa.out.size) | exact HWb.out.trans (hb5.mono HWb.out.size)); (try have BX5 := Lib.hid (BB.out.up' hb5)); have e5 := (BX.out.up' hD5).cell 1; simp at e5; have y5 := World.new_ne w5 _ e5; clear hb5)
              | (go_at_call 5; refine (NS.out _).mono ?_; rintro e w6 ⟨rfl, hb6⟩; have hD6 : Below wv.heap.size wv w6 := (by first | exact below_trans' hD5 hb6 | exact (hD5.alloc hD5.size _).trans (hb6.mono (hD5.alloc hD5.size _).size)); (try (first | (have BX6 := Lib.hid ((BX5.out.up' hb6)); have q0 := BX6.out.cell 0; have q1 := BX6.out.cell 1; have q2 := BX6.out.cell 2; have q3 := BX6.out.cell 3; have q4 := BX6.out.cell 4; have q5 := BX6.out.cell 5; have z0 := BX6.out.frozen 0; have z1 := BX6.out.frozen 1; have z2 := BX6.out.frozen 2; have z3 := BX6.out.frozen 3; have z4 := BX6.out.frozen 4; have z5 := BX6.out.frozen 5; simp at q0 q1 q2 q3 q4 q5) | (have BX6 := Lib.hid ((Blk.new w5 31 #[.int .i64 0, .int .i64 0, .int .i64 0, .int .i64 0, .int .i64 0, .slice none 0 0]).up' hb6); have q0 := BX6.out.cell 0; have q1 := BX6.out.cell 1; have q2 := BX6.out.cell 2; have q3 := BX6.out.cell 3; have q4 := BX6.out.cell 4; have q5 := BX6.out.cell 5; have z0 := BX6.out.frozen 0; have z1 := BX6.out.frozen 1; have z2 := BX6.out.frozen 2; have z3 := BX6.out.frozen 3; have z4 := BX6.out.frozen 4; have z5 := BX6.out.frozen 5; simp at q0 q1 q2 q3 q4 q5))); have e6 := (BX.out.up' hD6).cell 1; simp at e6; have y6 := World.new_ne w6 _ e6; clear hb6)
              | fail)
            all_goals
              go_wp2_with fail
              go_meet
              refine ⟨_, rfl, rfl, ?_, ?_, ?_⟩
              · first | with_reducible exact Lib.hid (Blk.new w6 _ _) | with_reducible exact Lib.hid (six BX6.out)
              · first | with_reducible exact hD6.alloc hD6.size _ | with_reducible exact six_below hD6 hD5.size | with_reducible exact six_below hD6 (Nat.le_refl _)
              · first | with_reducible exact hD6.size | with_reducible exact hD5.size | with_reducible exact Nat.le_refl _
          case rest =>
            obtain ⟨T, rfl, rfl, HT, hbd, hTl⟩ := hcut
            obtain ⟨wd, hwd⟩ : ∃ wd : World, wd = wc := ⟨_, rfl⟩
            subst hwd
            have HSd := Lib.hid (own_keep HSc.out hbd)
            have HBd := Lib.hid (below_trans' HBc.out hbd)
            have Hbd := Lib.hid hbd; clear hbd
            have HTl := Lib.hid hTl; clear hTl
            have t0 : wd.cell? ⟨T, 0, none⟩ = some (i64 1) := HT.out.cell 0
            have t1 : wd.cell? ⟨T, 1, none⟩ = some (i64 (j : Nat)) := HT.out.cell 1
            have t2 : wd.cell? ⟨T, 2, none⟩ = some (i64 (-1)) := HT.out.cell 2
            have t3 : wd.cell? ⟨T, 3, none⟩ = some (i64 (y : Nat)) := HT.out.cell 3
            have t4 : wd.cell? ⟨T, 4, none⟩ = some (i64 (ky : Nat)) := HT.out.cell 4
            have t5 : wd.cell? ⟨T, 5, none⟩ = some (.slice none 0 0) := HT.out.cell 5
            have z0 := HT.out.frozen 0
            have z1 := HT.out.frozen 1
            have z2 := HT.out.frozen 2
            have z3 := HT.out.frozen 3
            have z4 := HT.out.frozen 4
            have z5 := HT.out.frozen 5
            have e3 : wd.cell? ⟨wr.heap.size, 3, none⟩ = some (ub x4) := (BX.out.up' Hbd.out).cell 3
            have e4 : wd.cell? ⟨wr.heap.size, 4, none⟩ = some (ub x5) := (BX.out.up' Hbd.out).cell 4
            clear HWa HWb BB y1 e1 hjm hjw hjv
            go_upto_if 64 with fail
            go_cut [8] (fun s8 wx => Hid (Pick w k T j y old s8 wx) ∧ Win wx A1 4 cw L ∧ Blk wx wr.heap.size 28 #[ub x1, ub x2, .bool x3, ub x4, ub x5])
            case first =>
              cases old with
              | true =>
                have h0 : 0 < S.length := HOLD.out rfl
                have hne : ¬ (S.length : Int) = 0 := by omega
                obtain ⟨g, cap, hDe, hgb, hglt⟩ := HSd.out.form h0
                obtain ⟨rfl, rfl⟩ : D = some ⟨g, 0, none⟩ ∧ d = cap := by simpa using hDe
                clear hDe
                obtain ⟨m, hm⟩ : ∃ m, x4.toNat % S.length = m := ⟨_, rfl⟩
                have hml : m < S.length := by rw [← hm]; exact Nat.mod_lt _ h0
                obtain ⟨f, hf⟩ : ∃ f, S[m] = f := ⟨_, rfl⟩
                have hfm : f ∈ S := by rw [← hf]; exact List.getElem_mem hml
                obtain ⟨g0, g1, g2, g3, g4, g5⟩ := frame_cells HSd.out hml
                rw [hf] at g1 g3 g4
                have hml2 : (m : Int) < (S.length : Int) := by omega
                have hm2 := modn_byte x4 S.length
                rw [hm] at hm2
                clear hf hm
                go_wp2_with fail
                go_meet
                clear hm2
                have hfx := HF.out f hfm
                have hb7 := six_below (v0 := .int .i64 1) (v1 := .int .i64 (f.fr : Int)) (v2 := .int .i64 (-1)) (v3 := .int .i64 (f.at_ : Int)) (v4 := .int .i64 (f.key : Int)) (v5 := .slice none 0 0) Hbd.out HTl.out
                exact ⟨Lib.hid ⟨S, f, ⟨_, _, rfl⟩, own_keep HSc.out hb7, six HT.out, by omega, fun p hp => okf_mono (HF.out p hp) (by omega), okf_mono hfx (by omega), fun _ h => by have := hfx.1; omega, fun h => (by cases h), below_trans' HBc.out hb7⟩, HWc.out.up hb7, BX.out.up' hb7⟩
              | false =>
                obtain ⟨i0, hi, hz0, hz1, hz2⟩ := info_parts info_frame
                have hRf := rd_fresh wd 31 #[i64 1, i64 (j : Nat), i64 (-1), i64 (y : Nat), i64 (ky : Nat), .slice none 0 0] 6 1 (decF ⟨j, y, ky⟩) rfl rfl
                have hownA := HSd.out.kept (World.grownBy_alloc wd (.cells #[i64 1, i64 (j : Nat), i64 (-1), i64 (y : Nat), i64 (ky : Nat), .slice none 0 0] 31) none) (by cases (Value.slice D S.length d).ownBlock <;> simp)
                have hBn : Below w.heap.size w (wd.alloc (.cells #[i64 1, i64 (j : Nat), i64 (-1), i64 (y : Nat), i64 (ky : Nat), .slice none 0 0] 31)) := HBd.out.alloc HBd.out.size _
                have HRf := Lib.hid hRf; clear hRf
                have HA := Lib.hid hownA; clear hownA
                have HBn := Lib.hid hBn; clear hBn
                have HSk := Lib.hid hSk
                go_wp2_with (first
                  | (at_builtin; refine wpList_append_rd _ rfl (.tmp 74) (.tmp 76) _ rfl w.heap.size 31 i0 _ 6 64 Try.underlying26 hi hz0 hz1 hz2 rfl (by omega) _ S.length _ rfl HA.out _ (some ⟨wd.heap.size, 0, none⟩) 1 1 _ rfl HRf.out (one_decF _) (by simp only [maxLen]; omega) (by omega) HBn.out.size ?_
                     intro Aa ca w3 hown1 hfm hg1; have HO1 := Lib.hid hown1; have HG1 := Lib.hid hg1; clear hown1 hfm hg1))
                go_meet
                have hbA : Below wd.heap.size wd (wd.alloc (.cells #[i64 1, i64 (j : Nat), i64 (-1), i64 (y : Nat), i64 (ky : Nat), .slice none 0 0] 31)) := (Below.refl _ wd).alloc (Nat.le_refl _) _
                have hWd := (HWc.out.up Hbd.out).up hbA
                have hXd := (BX.out.up' Hbd.out).up' hbA
                have hTd := HT.out.up' hbA
                have hwv := HSc.out
                refine ⟨Lib.hid ⟨S ++ [⟨j, y, ky⟩], ⟨j, y, ky⟩, ⟨Aa, ca, by rw [List.length_append]; rfl⟩, ?_, hTd.grown HG1.out (fun e => ?_), by rw [List.length_append]; exact Nat.succ_le_succ HSk.out, fun p hp => ?_, ⟨Nat.le_refl _, HKY.out.symm⟩, fun h => (by cases h), fun _ => ⟨rfl, rfl⟩, own_below HA.out HG1.out HBn.out (Nat.le_refl _) HBn.out.size⟩, ⟨own_apart hWd.1 HA.out (by decide) HG1.out, hWd.2⟩, hXd.grown HG1.out (fun e => own_type HA.out hXd (by decide) e.symm)⟩
                · have := HO1.out
                  rw [List.length_append, List.flatMap_append]
                  exact this
                · have h1 := (own_block hwv T e.symm).2
                  have h2 := HTl.out
                  omega
                · rcases List.mem_append.1 hp with h | h
                  · exact okf_mono (HF.out p h) (by omega)
                  · simp only [List.mem_singleton] at h
                    subst h
                    exact ⟨Nat.le_refl _, HKY.out.symm⟩
            case rest =>
              obtain ⟨we, hwe⟩ : ∃ we : World, we = wc := ⟨_, rfl⟩
              subst hwe
              obtain ⟨HP, hWe, hXe⟩ := hcut
              obtain ⟨S', f, ⟨D', d', rfl⟩, hS', hT', hSl, hfs', hff, hold1, hold2, hBe⟩ := HP.out
              have NA := fun A c q => acc_any old A c L j f.fr f.at_ y q HL4.out (fun p hp => (HOK.out p hp).mono (by omega)) (by omega) hj4 hold1 hold2
              unfold fv at NA
              rw [← hff.2] at NA
              have NA := Lib.hid NA
              have HS' := Lib.hid hS'
              have HT' := Lib.hid hT'
              have HF' := Lib.hid hfs'
              have HBe := Lib.hid hBe
              have HWe := Lib.hid hWe
              have HXe := Lib.hid hXe
              have HSl := Lib.hid hSl
              clear HP hS' hT' hfs' hff hold1 hold2 hBe hWe hXe hSl HSd HSc HBd Hbd HTl t0 t1 t2 t3 t4 t5 z0 z1 z2 z3 z4 z5 e3 e4 HT BX HWc HF HKY NS HOLD HSv HBc
              obtain ⟨f1, f2, f3⟩ := f
              obtain ⟨o, ho⟩ : ∃ o, x5.toNat % 4 = o := ⟨_, rfl⟩
              have ho4 : o < 4 := by omega
              have hom0 := mod4_byte x5
              rw [ho] at hom0
              have HOM := Lib.hid hom0
              clear ho hom0
              obtain ⟨wo, hwo⟩ : ∃ wo : World, wo = wr := ⟨_, rfl⟩
              subst hwo
              go_wp2_with fail
              go_loopw [7, 14, 15] (fun l acc kk wr2 => ∃ (q : Nat) (z : Int) (A2 : Option Addr) (c2 : Nat), kk = i64 (q : Nat) ∧ q ≤ 4 ∧ acc = i64 z ∧ z = (acn old q : Nat) ∧ l = .slice A2 4 c2 ∧ Hid (Win wr2 A2 4 c2 (LL old L j y q)) ∧ Below we.heap.size we wr2) (fun _ _ kk _ => 5 - (intOf kk).toNat)
              case atStart => exact ⟨0, 0, _, _, rfl, by omega, rfl, by cases old <;> rfl, rfl, Lib.hid (by rw [LL_zero]; exact HWe.out), Below.refl _ _⟩
              case round =>
                obtain ⟨q, z, A2, c2, rfl, hq4, rfl, hz, rfl, HW2, hb2⟩ := hrel
                have HZ := Lib.hid hz; clear hz
                have T2 := Lib.hid (HT'.out.up' hb2)
                have X2 := Lib.hid (HXe.out.up' hb2)
                have Hb2 := Lib.hid hb2; clear hb2
                have t0 : wr.cell? ⟨T, 0, none⟩ = some (i64 1) := T2.out.cell 0
                have t1 : wr.cell? ⟨T, 1, none⟩ = some (i64 (f1 : Nat)) := T2.out.cell 1
                have t2 : wr.cell? ⟨T, 2, none⟩ = some (i64 (-1)) := T2.out.cell 2
                have t3 : wr.cell? ⟨T, 3, none⟩ = some (i64 (f2 : Nat)) := T2.out.cell 3
                have t4 : wr.cell? ⟨T, 4, none⟩ = some (i64 (f3 : Nat)) := T2.out.cell 4
                have t5 : wr.cell? ⟨T, 5, none⟩ = some (.slice none 0 0) := T2.out.cell 5
                have e4 : wr.cell? ⟨wo.heap.size, 4, none⟩ = some (ub x5) := X2.out.cell 4
                by_cases hqo : q ≤ o
                · have hqi : (q : Int) ≤ (o : Int) := by omega
                  have hom := HOM.out
                  go_upto_region 23 with fail
                  clear hom
                  go_cut [16, 17] (fun s16 s17 wx => ∃ A' c', s16 = .slice A' 4 c' ∧ s17 = .bool (!old && decide (q = 0)) ∧ Hid (Win wx A' 4 c' (LL old L j y (q + 1))) ∧ Below wr.heap.size wr wx)
                  case first =>
                    go_region_held3 (fun W => W.cell? ⟨T, 0, none⟩ = some (i64 1) ∧ W.cell? ⟨T, 1, none⟩ = some (i64 (f1 : Nat)) ∧ W.cell? ⟨T, 2, none⟩ = some (i64 (-1)) ∧ W.cell? ⟨T, 3, none⟩ = some (i64 (f2 : Nat)) ∧ W.cell? ⟨T, 4, none⟩ = some (i64 (f3 : Nat)) ∧ W.cell? ⟨T, 5, none⟩ = some (.slice none 0 0)) (first | go_keep | (go_split_ands <;> assumption)) (first
                      | (go_at_call 6; refine (NR.out _).mono ?_; rintro e w5 ⟨rfl, hb5⟩; have hD5 : Below wr.heap.size wr w5 := ((Below.refl _ wr).drew).trans (hb5.mono (Nat.le_refl _)); have X5 := Lib.hid (T2.out.up' hD5); have b0 := X5.out.cell 0; have b1 := X5.out.cell 1; have b2 := X5.out.cell 2; have b3 := X5.out.cell 3; have b4 := X5.out.cell 4; have b5 := X5.out.cell 5; simp at b0 b1 b2 b3 b4 b5; clear hb5)
                      | (go_at_call 7; refine (NA.out _ _ _ _ (HW2.out.up hD5)).mono ?_; rintro e w6 ⟨⟨A6, c6, rfl, hw6⟩, hb6⟩; have hD6 := below_trans' hD5 hb6; have X6 := Lib.hid (T2.out.up' hD6); have d0 := X6.out.cell 0; have d1 := X6.out.cell 1; have d2 := X6.out.cell 2; have d3 := X6.out.cell 3; have d4 := X6.out.cell 4; have d5 := X6.out.cell 5; simp at d0 d1 d2 d3 d4 d5; have HW6 := Lib.hid hw6; clear hw6 hb6)
                      | fail)
                    all_goals
                      go_wp2_with fail
                      go_meet
                      exact ⟨_, _, rfl, rfl, HW6, hD6⟩
                  case rest =>
                    obtain ⟨wg, hwg⟩ : ∃ wg : World, wg = wc := ⟨_, rfl⟩
                    subst hwg
                    obtain ⟨A3, c3, rfl, rfl, HW3, hb3⟩ := hcut
                    have Hb3 := Lib.hid (below_trans' Hb2.out hb3)
                    clear hb3 t0 t1 t2 t3 t4 t5 e4
                    obtain ⟨v, hv⟩ : ∃ v, (!old && decide (q = 0)) = v := ⟨_, rfl⟩
                    rw [hv]
                    have hacn : ((acn old (q + 1) : Nat) : Int) = if v = true then z + 1 else z := by
                      rw [HZ.out, ← hv]
                      unfold acn
                      cases old <;> by_cases h0 : q = 0 <;> simp [h0]
                    have hzb : z ≤ 1 ∧ 0 ≤ z := by
                      rw [HZ.out]
                      unfold acn
                      split <;> simp
                    have HAC := Lib.hid hacn
                    clear hacn hv
                    cases v with
                    | true =>
                      go_wp2_with fail
                      go_roundw
                      case rel => exact ⟨q + 1, z + 1, _, _, by go_num, by omega, rfl, by rw [HAC.out]; rfl, rfl, HW3, Hb3.out⟩
                      case measure => simp [intOf]; omega
                    | false =>
                      go_wp2_with fail
                      go_roundw
                      case rel => exact ⟨q + 1, z, _, _, by go_num, by omega, rfl, by rw [HAC.out]; rfl, rfl, HW3, Hb3.out⟩
                      case measure => simp [intOf]; omega
                · have hq1 : ¬ q = 0 := by omega
                  have hqi : ¬ (q : Int) ≤ (o : Int) := by omega
                  have hz2 : z = if old = true then 0 else 1 := by
                    rw [HZ.out]
                    unfold acn
                    cases old <;> simp [hq1]
                  have HS2 := Lib.hid (own_keep HS'.out Hb2.out)
                  have HB2 := Lib.hid (below_trans' HBe.out Hb2.out)
                  have HOUT : Hid (Out w w.heap.size (.int .i64 (y : Nat)) (.slice A2 4 c2) (.slice D' S'.length d') (.int .i64 ((k + 1 : Nat) : Int)) wr) :=
                    Lib.hid ⟨k + 1, y, A2, c2, _, S', rfl, by omega, rfl, hy2, rfl, HW2.out, by rw [LL_len]; exact HL4.out, okw_LL (fun p hp => (HOK.out p hp).mono (by omega)) (by rw [HL4.out]; exact hj4) (by omega), ⟨D', d', rfl⟩, HS2.out, rfl, HSl.out, HF'.out, HB2.out⟩
                  clear HZ
                  cases old with
                  | true =>
                    rw [if_pos rfl] at hz2
                    subst hz2
                    have hom := HOM.out
                    go_wp2_with fail
                    clear hom
                    go_roundw
                    case rel => exact ⟨rfl, HOUT.out⟩
                    case measure => simp [intOf]; omega
                  | false =>
                    rw [if_neg (by decide)] at hz2
                    subst hz2
                    have hom := HOM.out
                    go_wp2_with fail
                    clear hom
                    go_roundw
                    case rel => exact ⟨rfl, HOUT.out⟩
                    case measure => simp [intOf]; omega
      · go_wp2_with fail
        go_ret
        exact ⟨rfl, hB⟩
  · go_enter Try.func3, Try.ntmps3
    go_wp2_with fail
    refine (HO.out _).mono ?_
    rintro e w1 ⟨rfl, hb1⟩
    go_wp2_with fail
    go_ret
    exact ⟨rfl, hb1⟩
end Go.Proofs.Ytineokopmdjapaa.Oa
