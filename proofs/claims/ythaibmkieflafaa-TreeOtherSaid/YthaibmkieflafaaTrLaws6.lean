/- The law TreeOther. -/
import Derived.Deep.RegionHeld3
import Derived.Deep.DeepCutAuto
import Derived.Deep.RegionLaw
import Derived.Test.YthaibmkieflafaaFl2
import Derived.Test.YthaibmkieflafaaTrLaws5
namespace Go.Proofs.Ythaibmkieflafaa.Tr
open Go.RowKit Go.Proofs.Ythaibmkieflafaa.Dig
set_option linter.unusedVariables false

section
variable {P : Program} (w : World)
/-- At a guarded step of a region that draws its order. -/
theorem step_append_rd3 {ops : Array Oper} {o : Oper} {a : Act} {K : Act → World → Prop} {Q : Exit → Act → World → Prop} {E : Prop} (hw : Region.wanted o (yielded ops a.tmps) = true) (s x : Operand) (t : TypeId)
    (ho : o.op = .call { callee := .builtin .append, args := #[s, x], argTypes := #[t, t] })
    (base : Nat) (e : TypeId) (i : TypeInfo) (z : Value) (size bytes : Nat) (ht : P.underlying t = some (.slice e)) (hi : P.info? e = some i) (hz : i.zero = some z)
    (hsize : i.size = size) (hby : i.bytes = bytes) (hzs : z.cells.size = size) (hsz : 0 < size)
    (v : Value) (n : Nat) (xs : List Value) (hs : a.eval s = v) (hown : w.ownsRow base e size v n xs)
    (B : Nat) (A : Option Addr) (m c : Nat) (news : List Value) (hx : a.eval x = .slice A m c) (hr : Rd w B size A m news) (h1 : ∀ u ∈ news, u.oneCell' = true)
    (h63 : n + m ≤ maxLen) (hbytes : (n + m) * bytes ≤ 140737488355328) (hbase : base ≤ w.heap.size)
    (h : ∀ A' c' w', w'.ownsRow base e size (.slice A' (n + m) c') (n + m) (xs ++ news) → (0 < n + m → ∃ g, A' = some ⟨g, 0, none⟩) → w.grownBy w' v.ownBlock → ((Value.slice A' (n + m) c').ownBlock = v.ownBlock ∨ (Value.slice A' (n + m) c').ownBlock = some w.heap.size) → K (a.put o.dst (.slice A' (n + m) c')) w') :
    if Region.wanted o (yielded ops a.tmps) = true then Oper.wp P o a w K Q else E := by
  rw [if_pos hw]
  obtain ⟨v', w', hrun, h2, h3, h5⟩ := run_append_rd2 (P := P) w base t o.type e i z size bytes ht hi hz hsize hby hzs hsz v n xs hown B A m c news hr h1 h63 hbytes hbase
  obtain ⟨A', c', rfl, hf⟩ := own_form h2
  unfold Oper.wp execOp
  simp only [ho, resolve, invoke, builtin, Sem.run_bind, Sem.run_pure, Result.andThen_ok, List.map_toArray, List.map_cons, List.map_nil, hs, hx, hrun]
  exact h A' c' w' h2 hf h3 h5
end

theorem u64_zero (b : UInt64) (h : b ≠ 0) : ((b.toNat : Int) == 0) = false := by
  rw [beq_eq_false_iff_ne]
  exact fun e => h (UInt64.toNat_inj.1 (by simpa using e))
theorem chk_len {r : UInt64} {n i : Int} {p : List UInt8} {pf : List UInt64} (h : checkv r n i p pf = true) : pf.length = want n.toNat i.toNat := by
  have := up_some n.toNat i.toNat (leaf p) pf
  rw [checkv_up h] at this
  simpa using this.symm
theorem chk_wrong {r : UInt64} {n i : Int} {p : List UInt8} {pf qf : List UInt64} (h : checkv r n i p pf = true) (hl : qf.length ≠ pf.length) : checkv r n i p qf = false := by
  cases hq : checkv r n i p qf with
  | false => rfl
  | true => exact absurd ((chk_len hq).trans (chk_len h).symm) hl
theorem xor_ne {a x : UInt64} (hx : x ≠ 0) : a ^^^ x ≠ a := by
  intro h
  have e : a ^^^ (a ^^^ x) = a ^^^ a := by rw [h]
  rw [← UInt64.xor_assoc, UInt64.xor_self, UInt64.zero_xor] at e
  exact hx e
theorem chk_root {r x : UInt64} {n i : Int} {p : List UInt8} {pf : List UInt64} (h : checkv r n i p pf = true) (hx : x ≠ 0) : checkv (r ^^^ x) n i p pf = false := by
  cases hq : checkv (r ^^^ x) n i p pf with
  | false => rfl
  | true =>
    have := (checkv_up h).symm.trans (checkv_up hq)
    exact absurd (Option.some.inj this).symm (xor_ne hx)
theorem chk_one {r x : UInt64} {n i : Int} {p : List UInt8} {pf : List UInt64} {j : Nat} (h : checkv r n i p pf = true) (hj : j < pf.length) (hx : x ≠ 0) : checkv r n i p (pf.set j (pf[j] ^^^ x)) = false := by
  cases hq : checkv r n i p (pf.set j (pf[j] ^^^ x)) with
  | false => rfl
  | true => exact absurd (checkv_up hq) (up_one _ _ _ _ j hj _ (by rw [List.getD_eq_getElem?_getD, List.getElem?_eq_getElem hj]; exact xor_ne hx) (checkv_up h))
theorem own_caps {w : World} {base size n c : Nat} {e : TypeId} {A : Option Addr} {xs : List Value} (h : w.ownsRow base e size (.slice A n c) n xs) : n ≤ c ∧ c ≤ maxLen := by
  rcases h.2 with ⟨h', h0⟩ | ⟨g, cap, cur, h', hb, hg, hnc, hcm, _⟩
  · injection h' with _ h2 h3
    subst h3
    exact ⟨by omega, by decide⟩
  · injection h' with _ h2 h3
    subst h3
    exact ⟨hnc, hcm⟩
theorem rd_fresh (w : World) (t : TypeId) (cs : Array Value) (size n : Nat) (xs : List Value) (hx : cs.toList = xs) (h : cs.size = n * size) : Rd (w.alloc (.cells cs t)) (w.heap.size + 1) size (some ⟨w.heap.size, 0, none⟩) n xs := by
  subst hx
  have := Rd.new w t cs (0, 0) size n h
  simpa using this

set_option maxRecDepth 100000 in
set_option maxHeartbeats 4000000 in
theorem treeOther_walk (A : Option Addr) (n c : Nat) (l : List Pg) (pk : UInt8) (at_ : UInt8) (x3 : UInt64) (W : World) (g0 : IsPages W A n c l) :
    Calls Try.prog 13 #[.slice A n c, ub pk, ub at_, u64 x3] W fun e w' => e = .returned (.bool true) ∧ Below W.heap.size W w' := by
  obtain ⟨hR, hnc, hcm, _⟩ := g0
  have HR := Lib.hid hR; clear hR
  have hn : n ≤ maxLen := by omega
  obtain ⟨ij, hij, hz0, hz1, hz2⟩ := info_parts info_u64
  go_enter Try.func13, Try.ntmps13
  go_wp2_with fail
  refine (head_val _).mono ?_
  rintro e w1 ⟨rfl, hb1⟩
  have hR1 := Lib.hid (HR.out.up hb1)
  go_wp2_with fail
  refine (proved_val A n c l pk w1 hR1.out hn).mono ?_
  rintro e w2 ⟨hb2, rfl | ⟨hok, X, m, q, rfl, hm, hX, h1, h2⟩⟩
  · have hB2 := below_trans' hb1 hb2
    go_wp2_with fail
    go_ret
    exact ⟨rfl, hB2⟩
  · have hB2 := below_trans' hb1 hb2
    have HR2 := Lib.hid (hR1.out.up hb2)
    clear hR1
    obtain ⟨hn1, hn16⟩ := okp_le hok
    rw [HR.out.len] at hn1 hn16
    have hlt : pk.toNat % n < n := Nat.mod_lt _ (by omega)
    obtain ⟨i, hi'⟩ : ∃ i, pk.toNat % n = i := ⟨_, rfl⟩
    rw [hi'] at hm hX hlt
    rw [hi']
    clear hi'
    obtain ⟨b, off, rfl, hbB, hkl, hc⟩ := HR2.out.at_ hlt
    have HI := Lib.hid (HR2.out.2 l[i] (List.getElem_mem hkl))
    have HC := Lib.hid (chk_ok HR.out hok i hkl)
    have hm4 : m ≤ 4 := by
      rw [hm, prf_length]
      refine want_pow 4 _ _ ?_
      rw [lvs_length, HR.out.len]; omega
    obtain ⟨pf, hpf⟩ : ∃ pf, prf (lvs l) i = pf := ⟨_, rfl⟩
    rw [hpf] at hm hX HC
    clear hpf
    have HL := Lib.hid hm; clear hm
    have HX := Lib.hid hX; clear hX
    clear hok
    have own1 : (w2.alloc (.cells #[] 23)).ownsRow w2.heap.size 23 1 (.slice (some ⟨w2.heap.size, 0, none⟩) 0 0) 0 [] := World.ownsRow_lit (base := w2.heap.size) (e := 23) (size := 1) w2 #[] 0 (Nat.le_refl _) (by decide) rfl
    have own2 := World.ownsRow_lit (base := w2.heap.size) (e := 23) (size := 1) (w2.alloc (.cells #[u64 x3] 23)) #[] 0 (by simp) (by decide) rfl
    rw [World.size_alloc] at own2
    have own1a : (w2.alloc (.cells #[] 23)).drew.ownsRow w2.heap.size 23 1 (.slice (some ⟨w2.heap.size, 0, none⟩) 0 0) 0 [] := own1
    have own1b : ((w2.alloc (.cells #[] 23)).alloc (.cells #[u64 x3] 23)).drew.ownsRow w2.heap.size 23 1 (.slice (some ⟨w2.heap.size, 0, none⟩) 0 0) 0 [] := (own1.kept (World.grownBy_alloc (w2.alloc (.cells #[] 23)) (.cells #[u64 x3] 23) none) (Classical.em _)).drew
    have own2a : ((w2.alloc (.cells #[u64 x3] 23)).alloc (.cells #[] 23)).drew.ownsRow w2.heap.size 23 1 (.slice (some ⟨w2.heap.size + 1, 0, none⟩) 0 0) 0 [] := own2
    have OW1 := Lib.hid own1a; clear own1 own1a
    have OW1b := Lib.hid own1b; clear own1b
    have OW2 := Lib.hid own2a; clear own2 own2a
    have HWa := Lib.hid (show Below w2.heap.size w2 (w2.alloc (.cells #[] 23)).drew from ((Below.refl _ w2).alloc (Nat.le_refl _) _).drew)
    have HWb := Lib.hid (show Below w2.heap.size w2 ((w2.alloc (.cells #[] 23)).alloc (.cells #[u64 x3] 23)).drew from (((Below.refl _ w2).alloc (Nat.le_refl _) _).alloc (by simp) _).drew)
    have HWc := Lib.hid (show Below w2.heap.size w2 ((w2.alloc (.cells #[u64 x3] 23)).alloc (.cells #[] 23)).drew from (((Below.refl _ w2).alloc (Nat.le_refl _) _).alloc (by simp) _).drew)
    have BB : Hid (Blk ((w2.alloc (.cells #[] 23)).alloc (.cells #[u64 x3] 23)).drew (w2.heap.size + 1) 23 #[u64 x3]) := by
      have := Blk.new (w2.alloc (.cells #[] 23)) 23 #[u64 x3]
      rw [World.size_alloc] at this
      exact this
    have BC : Hid (Blk ((w2.alloc (.cells #[u64 x3] 23)).alloc (.cells #[] 23)).drew w2.heap.size 23 #[u64 x3]) := (Blk.new w2 _ _).alloc _
    have HN5 := Lib.hid (chk_wrong (qf := pf ++ [x3]) HC.out (by simp))
    have hi0 : (0 : Int) ≤ (i : Int) := by omega
    have hid0 : decide ((i : Int) < 0) = false := by simp
    go_wp2_with fail
    go_upto_region 5 with fail
    go_cut [45] (fun s45 wx => s45 = .bool false ∧ Below w2.heap.size w2 wx)
    case first =>
      go_region_held3 (fun W => W.cell? ⟨b, off + i, none⟩ = some (.slice l[i].A l[i].n l[i].c)) (first | go_keep | assumption) (first
        | ((refine step_append_rd3 _ (by first | rfl | (simp [Region.wanted, yielded]; done)) (.tmp 38) (.tmp 39) _ (by rfl) w2.heap.size 23 ij _ 1 8 Try.underlying39 hij hz0 hz1 hz2 rfl (by decide) _ 0 [] (by rfl) ?ho w2.heap.size _ _ _ _ (by rfl) ?hr (one_u64 pf) (by simp only [maxLen]; omega) (by omega) ?hb ?_); (case ho => first | exact OW1.out | exact OW1b.out | exact OW2.out); (case hr => first | exact HX.out.below HWa.out | exact HX.out.below HWb.out | exact HX.out.below HWc.out); (case hb => first | exact HWa.out.size | exact HWb.out.size | exact HWc.out.size); intro X1 q1 wj1 hown1 _ hg1 _; rw [Nat.zero_add]; simp only [Nat.zero_add, List.nil_append] at hown1; have HO1 := Lib.hid hown1; have hbj1 : Below w2.heap.size w2 wj1 := (by first | exact own_below OW1.out hg1 HWa.out (Nat.le_refl _) HWa.out.size | exact own_below OW1b.out hg1 HWb.out (Nat.le_refl _) HWb.out.size | exact own_below OW2.out hg1 HWc.out (Nat.le_refl _) HWc.out.size); (try have BX := Lib.hid (BB.out.grown hg1 (show some (w2.heap.size + 1) ≠ some w2.heap.size by simp))); (try have BX := Lib.hid (BC.out.grown hg1 (show some w2.heap.size ≠ some (w2.heap.size + 1) by simp))); have k0 := (hbj1.cell (p := ⟨b, off + i, none⟩) hbB).trans hc; clear hown1 hg1)
        | (have _t := BX; (refine step_append_rd3 _ (by first | rfl | (simp [Region.wanted, yielded]; done)) (.tmp 40) (.tmp 42) _ (by rfl) w2.heap.size 23 ij _ 1 8 Try.underlying39 hij hz0 hz1 hz2 rfl (by decide) _ m (pf.map u64) (by rfl) HO1.out wj1.heap.size _ _ _ [u64 x3] (by rfl) (rd_blk BX.out 1 1 _ rfl rfl) (one_u64 [x3]) (by simp only [maxLen]; omega) (by omega) hbj1.size ?_); intro X2 q2 wj2 hown2 _ hg2 _; have hbj2 : Below w2.heap.size w2 wj2 := own_below HO1.out hg2 hbj1 (Nat.le_refl _) hbj1.size; have HO2 := Lib.hid (Rd.of_own hown2); obtain ⟨hq2, hq3⟩ := own_caps hown2; have l0 := (hbj2.cell (p := ⟨b, off + i, none⟩) hbB).trans hc; clear hown2 hg2)
        | ((refine step_append_rd3 _ (by first | rfl | (simp [Region.wanted, yielded]; done)) (.tmp 40) (.tmp 42) _ (by rfl) w2.heap.size 23 ij _ 1 8 Try.underlying39 hij hz0 hz1 hz2 rfl (by decide) _ m (pf.map u64) (by rfl) (HO1.out.kept (World.grownBy_alloc wj1 (.cells #[u64 x3] 23) none) (Classical.em _)) (wj1.heap.size + 1) _ _ _ [u64 x3] (by rfl) (rd_fresh wj1 23 #[u64 x3] 1 1 _ rfl rfl) (one_u64 [x3]) (by simp only [maxLen]; omega) (by omega) (hbj1.alloc hbj1.size (.cells #[u64 x3] 23)).size ?_); intro X2 q2 wj2 hown2 _ hg2 _; have hbj2 : Below w2.heap.size w2 wj2 := own_below (HO1.out.kept (World.grownBy_alloc wj1 (.cells #[u64 x3] 23) none) (Classical.em _)) hg2 (hbj1.alloc hbj1.size (.cells #[u64 x3] 23)) (Nat.le_refl _) (hbj1.alloc hbj1.size (.cells #[u64 x3] 23)).size; have HO2 := Lib.hid (Rd.of_own hown2); obtain ⟨hq2, hq3⟩ := own_caps hown2; have l0 := (hbj2.cell (p := ⟨b, off + i, none⟩) hbB).trans hc; clear hown2 hg2)
        | ((go_at_call 32; refine (check_any _ _ _ l[i].A X2 l[i].n l[i].c (m + 1) q2 l[i].b (pf ++ [x3]) false HN5.out _ ?h1 ?h2 HI.out.2 hq2 hq3).mono ?_); (case h1 => exact HI.out.1.up hbj2); (case h2 => rw [List.map_append]; exact HO2.out); rintro e w5 ⟨rfl, hb5⟩; have hbj5 := hbj2.trans (hb5.mono hbj2.size); have n0 := (hbj5.cell (p := ⟨b, off + i, none⟩) hbB).trans hc; clear hb5)
        | fail)
      all_goals
        go_wp2_with fail
        go_meet
        exact ⟨rfl, hbj5⟩
    case rest =>
      obtain ⟨rfl, hbc⟩ := hcut
      clear OW1 OW1b OW2 HWa HWb HWc BB BC HN5 hid0
      have hBc := hB2.trans (hbc.mono hB2.size)
      have cc := (hbc.cell (p := ⟨b, off + i, none⟩) hbB).trans hc
      have HIc := Lib.hid (HI.out.1.up hbc)
      have HXc := Lib.hid (HX.out.up hbc)
      have hIm := HI.out.2
      have hbw : b < wc.heap.size := by have := hbc.size; omega
      have hup : ∀ a b, Below wc.heap.size wc a → Below a.heap.size a b → Below wc.heap.size wc b := fun a b h k => below_trans' h k
      have f1 : ∀ s : WOf (Below wc.heap.size wc), s.w.cell? ⟨b, off + i, none⟩ = some (.slice l[i].A l[i].n l[i].c) := fun s => (s.ok.cell (p := ⟨b, off + i, none⟩) hbw).trans cc
      by_cases hm0 : m = 0
      · subst hm0
        go_wp2_with fail
        refine wp_region_ext (Below wc.heap.size wc) (Below.refl _ _) hup (by kernel_rfl) (by kernel_rfl) (fun hne => ?_)
        repeat (go_big_quiet_step (fail))
        refine wpQuiet_nil ?_
        clear hne
        intro wx hx'
        obtain ⟨⟨_, hx⟩, hx''⟩ := hx'
        subst hx''
        have hBx := hBc.trans (hx.mono hBc.size)
        have cx := (hx.cell (p := ⟨b, off + i, none⟩) hbw).trans cc
        have HIx := Lib.hid (HIc.out.up hx)
        have HXx := Lib.hid (HXc.out.up hx)
        clear f1 hx cc hup
        by_cases hx0 : x3 = 0
        · have ex : ((x3.toNat : Int) == 0) = true := by rw [hx0]; rfl
          clear hx0
          go_wp2_with fail
          go_ret
          exact ⟨rfl, hBx⟩
        · have ex := u64_zero x3 hx0
          have hxr := u64_xor (top (lvs l)) x3
          have HN := Lib.hid (chk_root HC.out hx0)
          go_wp2_with fail
          refine (check_any (top (lvs l) ^^^ x3) _ _ _ X l[i].n l[i].c 0 q l[i].b pf false HN.out wx HIx.out HXx.out hIm h1 h2).mono ?_
          rintro e w5 ⟨rfl, hb5⟩
          have hB5 := hBx.trans (hb5.mono hBx.size)
          go_wp2_with fail
          go_ret
          exact ⟨rfl, hB5⟩
      · obtain ⟨k, rfl⟩ : ∃ k, m = k + 1 := ⟨m - 1, by omega⟩
        have N7 := Lib.hid (fun s : WOf (Below wc.heap.size wc) => check_any (top (lvs l)) (n : Nat) (i : Nat) l[i].A X l[i].n l[i].c k q l[i].b (pf.take k) false (chk_wrong HC.out (by rw [List.length_take, ← HL.out]; omega)) s.w (HIc.out.up s.ok) (by have := (HXc.out.take (show k ≤ k + 1 by omega)).up s.ok; rw [Nat.mul_one, ← List.map_take] at this; exact this) hIm (by omega) h2)
        have hwk : IntKind.i64.wrap (((k + 1 : Nat) : Int) - 1) = (k : Int) := by rw [Go.IntWalk.i64_in _ (by omega)]; omega
        have hwk2 : IntKind.i64.wrap ((k : Int) + 1 - 1) = (k : Int) := by rw [Go.IntWalk.i64_in _ (by omega)]; omega
        have hkq : k ≤ q := by omega
        have hkm : q ≤ 9223372036854775807 := by unfold maxLen at h2; omega
        go_wp2_with fail
        refine wp_region_ext (Below wc.heap.size wc) (Below.refl _ _) hup (by kernel_rfl) (by kernel_rfl) (fun hne => ?_)
        repeat (go_big_quiet_step (with_reducible exact calls_ext hup (N7.out _)))
        refine wpQuiet_nil ?_
        clear hne
        intro wx hx'
        obtain ⟨⟨_, hx⟩, hx''⟩ := hx'
        subst hx''
        have hBx := hBc.trans (hx.mono hBc.size)
        have cx := (hx.cell (p := ⟨b, off + i, none⟩) hbw).trans cc
        have hbx : b < wx.heap.size := by have := hx.size; omega
        have HIx := Lib.hid (HIc.out.up hx)
        have HXx := Lib.hid (HXc.out.up hx)
        clear f1 hx cc hup N7 hwk hwk2
        by_cases hx0 : x3 = 0
        · have ex : ((x3.toNat : Int) == 0) = true := by rw [hx0]; rfl
          clear hx0
          go_wp2_with fail
          go_ret
          exact ⟨rfl, hBx⟩
        · have ex := u64_zero x3 hx0
          have hxr := u64_xor (top (lvs l)) x3
          have HN := Lib.hid (chk_root HC.out hx0)
          go_wp2_with fail
          refine (check_any (top (lvs l) ^^^ x3) _ _ _ X l[i].n l[i].c (k + 1) q l[i].b pf false HN.out wx HIx.out HXx.out hIm h1 h2).mono ?_
          rintro e w5 ⟨rfl, hb5⟩
          have hB5 := hBx.trans (hb5.mono hBx.size)
          have c5 := (hb5.cell (p := ⟨b, off + i, none⟩) hbx).trans cx
          have HI5 := Lib.hid (HIx.out.up hb5)
          have HX5 := Lib.hid (HXx.out.up hb5)
          clear cx hxr HN
          have hown0 := World.ownsRow_lit (base := w5.heap.size) (e := 23) (size := 1) w5 #[] 0 (Nat.le_refl _) (by decide) rfl
          have hC6 : Below w5.heap.size w5 (w5.alloc (.cells #[] 23)) := (Below.refl _ _).alloc (Nat.le_refl _) _
          have HX6 := Lib.hid (HX5.out.below' hC6 (Nat.le_refl _))
          obtain ⟨j, hj⟩ : ∃ j : Nat, (at_.toNat : Int) % ((k : Int) + 1) = j := ⟨((at_.toNat : Int) % ((k : Int) + 1)).toNat, by have := Int.emod_nonneg (at_.toNat : Int) (b := ((k : Int) + 1)) (by omega); omega⟩
          have hjn : j < k + 1 := by have := Int.emod_lt_of_pos (at_.toNat : Int) (b := ((k : Int) + 1)) (by omega); omega
          have hjl : j < pf.length := by have := HL.out; omega
          have ha0 : (0 : Int) ≤ (at_.toNat : Int) := by omega
          have ha1 : (at_.toNat : Int) ≤ 255 := by have := UInt8.toNat_lt at_; omega
          have hbw5 : b < w5.heap.size := by have := hb5.size; omega
          go_wp2_with (at_builtin; refine wpList_append_rd _ rfl (.tmp 84) (.tmp 85) _ rfl w5.heap.size 23 ij _ 1 8 Try.underlying39 hij hz0 hz1 hz2 rfl (by omega) _ 0 [] rfl hown0 _ X (k + 1) q _ rfl HX6.out (one_u64 pf) (by simp only [maxLen]; omega) (by omega) hC6.size ?_; intro Aa ca w7 hown1 hfm hg1; simp only [Nat.zero_add, List.nil_append] at hown1 hfm; have hC7 := own_below hown0 hg1 hC6 (Nat.le_refl _) hC6.size; obtain ⟨g, rfl⟩ := hfm (by omega); have hcell := hown1.cellAt j (by omega); have hfr := hown1.frozenAt j; rw [List.getElem?_map, List.getElem?_eq_getElem hjl] at hcell; simp only [Option.map_some] at hcell; have c7 := (hC7.cell (p := ⟨b, off + i, none⟩) hbw5).trans c5; have hgb0 := own_block hown1 g rfl; have hgne2 : b ≠ g := Nat.ne_of_lt (Nat.lt_of_lt_of_le hbw5 hgb0.1); have hgne : g ≠ b := fun e => hgne2 e.symm)
          obtain ⟨hown2, hg2⟩ := hown1.stored j (.int .u64 (bits .xor .u64 (pf[j].toNat : Int) (x3.toNat : Int)))
          have hgb := own_block hown1 g rfl
          have hC8 := hC7.setCell (p := ⟨g, j, none⟩) (show w5.heap.size ≤ g by omega) (.int .u64 (bits .xor .u64 (pf[j].toNat : Int) (x3.toNat : Int)))
          have hcaps := own_caps hown2
          have hRd := Rd.of_own hown2
          have heq : (pf.map Go.Proofs.Ythaibmkieflafaa.u64).set j (.int .u64 (bits .xor .u64 (pf[j].toNat : Int) (x3.toNat : Int))) = (pf.set j (pf[j] ^^^ x3)).map Go.Proofs.Ythaibmkieflafaa.u64 := by rw [Go.Proofs.Ythaibmkieflafaa.u64_xor, List.map_set]
          rw [heq] at hRd
          clear heq
          have HN := Lib.hid (chk_one HC.out hjl hx0)
          refine (check_any (top (lvs l)) _ _ _ _ l[i].n l[i].c (k + 1) _ l[i].b (pf.set j (pf[j] ^^^ x3)) false HN.out _ (HI5.out.up hC8) hRd hIm hcaps.1 hcaps.2).mono ?_
          rintro e w9 ⟨rfl, hb9⟩
          have hB9 := hB5.trans ((below_trans' hC8 hb9).mono hB5.size)
          go_wp2_with fail
          go_ret
          exact ⟨rfl, hB9⟩
end Go.Proofs.Ythaibmkieflafaa.Tr
