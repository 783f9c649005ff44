/- The law TreePages. -/
import Derived.Test.YthaibmkieflafaaTrLaws4
import Derived.StillTailTactics
namespace Go.Proofs.Ythaibmkieflafaa.Tr
open Go.RowKit Go.Proofs.Ythaibmkieflafaa.Dig
set_option linter.unusedVariables false

theorem okp_set {l : List Pg} {i : Nat} {p : Pg} (h : okp l = true) (hp : p.n ≤ 256) : okp (l.set i p) = true := by
  unfold okp at h ⊢
  simp only [Bool.and_eq_true, decide_eq_true_eq, List.all_eq_true, List.length_set] at h ⊢
  refine ⟨h.1, h.2.1, fun q hq => ?_⟩
  rcases List.mem_or_eq_of_mem_set hq with hq | rfl
  · exact h.2.2 q hq
  · exact hp
theorem lvs_set (l : List Pg) (i : Nat) (p : Pg) : lvs (l.set i p) = (lvs l).set i (leaf p.b) := by
  unfold lvs
  rw [List.map_set]
theorem chk_set {w : World} {B : Nat} {A : Option Addr} {n : Nat} {l : List Pg} (hR : Pgs w B A n l) (h : okp l = true) (k : Nat) (hk : k < l.length) (b : List UInt8) (hb : b.length ≤ 256) : checkv (top ((lvs l).set k (leaf b))) (n : Nat) (k : Nat) b (prf (lvs l) k) = true := by
  obtain ⟨h1, h2⟩ := okp_le h
  have hn := hR.len
  have hu := up_set (lvs l) k (by rw [lvs_length]; exact hk) (leaf b)
  rw [lvs_length, hn] at hu
  unfold checkv okc
  simp only [Int.toNat_natCast, hu]
  simp
  omega

set_option maxRecDepth 100000 in
set_option maxHeartbeats 4000000 in
theorem treePages_walk (A : Option Addr) (n c : Nat) (l : List Pg) (pk : UInt8) (x2 : Int) (x3 : UInt8) (W : World) (g0 : IsPages W A n c l) (g2 : (Lit.int .u16 x2).wf = true) :
    Calls Try.prog 12 #[.slice A n c, ub pk, .int .u16 x2, ub x3] W fun e w' => e = .returned (.bool true) ∧ Below W.heap.size W w' := by
  obtain ⟨hR, hnc, hcm, _⟩ := g0
  have HR := Lib.hid hR; clear hR
  have hn : n ≤ maxLen := by omega
  obtain ⟨hx0, hx1⟩ := bounds_u16 g2
  obtain ⟨i0, hi, hz0, hz1, hz2⟩ := info_parts info_u8
  obtain ⟨i1, hj, hy0, hy1, hy2⟩ := info_parts info_bs
  go_enter Try.func12, Try.ntmps12
  go_wp2_with fail
  refine (head_val _).mono ?_
  rintro e w1 ⟨rfl, hb1⟩
  have hR1 := Lib.hid (HR.out.up hb1)
  go_wp2_with fail
  refine (proved_val A n c l pk w1 hR1.out hn).mono ?_
  rintro e w2 ⟨hb2, rfl | ⟨hok, X, m, q, rfl, hm, hX, h1, h2⟩⟩
  · have hB2 := below_trans' hb1 hb2
    go_wp2_with fail
    go_ret
    exact ⟨rfl, hB2⟩
  · have hB2 := below_trans' hb1 hb2
    have HR2 := Lib.hid (hR1.out.up hb2)
    clear hR1
    obtain ⟨hn1, hn16⟩ := okp_le hok
    rw [HR.out.len] at hn1 hn16
    have hlt : pk.toNat % n < n := Nat.mod_lt _ (by omega)
    obtain ⟨i, hi'⟩ : ∃ i, pk.toNat % n = i := ⟨_, rfl⟩
    rw [hi'] at hm hX hlt
    rw [hi']
    clear hi'
    obtain ⟨b, off, rfl, hbB, hkl, hc⟩ := HR2.out.at_ hlt
    have HI := Lib.hid (HR2.out.2 l[i] (List.getElem_mem hkl))
    have HC := Lib.hid (chk_ok HR.out hok i hkl)
    have hp256 := okp_len hok (List.getElem_mem hkl)
    have HX := Lib.hid hX; clear hX hm
    have HOk := Lib.hid hok; clear hok
    by_cases hx : x3 = 0
    · have ex : ((x3.toNat : Int) == 0) = true := by rw [hx]; rfl
      clear hx
      go_wp2_with fail
      go_ret
      exact ⟨rfl, hB2⟩
    · have ex := u8_zero x3 hx
      obtain ⟨n1, hn1e⟩ : ∃ n1, l[i].n = n1 := ⟨_, rfl⟩
      have hI := HI.out
      rw [hn1e] at hc hp256
      have hIn := hI.len
      rw [hn1e] at hIn
      by_cases h0 : n1 = 0
      · have e0 : ((n1 : Int) == 0) = true := by rw [beq_iff_eq]; omega
        go_wp2_with fail
        go_ret
        exact ⟨rfl, hB2⟩
      · have e0 : ((n1 : Int) == 0) = false := by rw [beq_eq_false_iff_ne]; omega
        have hp : 0 < n1 := by omega
        clear h0
        have hI1 := Lib.hid hI.1
        rw [hn1e] at hI1
        clear hI
        have HIn := Lib.hid hIn; clear hIn
        have HNe := Lib.hid hn1e; clear hn1e
        have hown0 := World.ownsRow_lit (base := w2.heap.size) (e := 22) (size := 1) w2 #[] 0 (Nat.le_refl _) (by decide) rfl
        have hC3 : Below w2.heap.size w2 (w2.alloc (.cells #[] 22)) := (Below.refl _ _).alloc (Nat.le_refl _) _
        have hRa := Lib.hid (HR2.out.1.below' hC3 (Nat.le_refl _))
        obtain ⟨j, hjj⟩ : ∃ j : Nat, x2 % (n1 : Int) = j := ⟨(x2 % (n1 : Int)).toNat, by have := Int.emod_nonneg x2 (b := (n1 : Int)) (by omega); omega⟩
        have hjn : j < n1 := by have := Int.emod_lt_of_pos x2 (b := (n1 : Int)) (by omega); omega
        have hjl : j < l[i].b.length := by have := HIn.out; omega
        go_wp2_with (first
          | (at_builtin; refine wpList_append_rd _ rfl (.tmp 47) (.tmp 48) _ rfl w2.heap.size 22 i1 _ 1 24 Try.underlying38 hj hy0 hy1 hy2 rfl (by omega) _ 0 [] rfl hown0 _ (some ⟨b, off, none⟩) n c _ rfl hRa.out (one_pg _) (by simp only [maxLen]; omega) (by omega) hC3.size ?_
             intro Aa ca w3 hown1 hfm hg1; simp only [Nat.zero_add, List.nil_append] at hown1 hfm
             have hC4 := own_below hown0 hg1 hC3 (Nat.le_refl _) hC3.size
             obtain ⟨g, rfl⟩ := hfm (by omega)
             have hgb := own_block hown1 g rfl
             have hownA := hown1.kept (World.grownBy_alloc w3 (.cells #[] 5) none) (Classical.em _)
             have hownB := World.ownsRow_lit (base := w3.heap.size) (e := 5) (size := 1) w3 #[] 0 (Nat.le_refl _) (by decide) rfl
             have hC5 : Below w2.heap.size w2 (w3.alloc (.cells #[] 5)) := hC4.alloc hC4.size _
             have hc5 := (hC5.cell (p := ⟨b, off + i, none⟩) hbB).trans hc
             have hIa := Lib.hid (hI1.out.below' hC5 (Nat.le_refl _)))
          | (at_builtin; refine wpList_append_rd _ rfl (.tmp 52) (.tmp 56) _ rfl w3.heap.size 5 i0 _ 1 1 Try.underlying22 hi hz0 hz1 hz2 rfl (by omega) _ 0 [] rfl hownB _ _ n1 _ _ rfl hIa.out (one_ub _) (by simp only [maxLen]; omega) (by omega) (by simp) ?_
             intro Ab cb w5 hown2 hfm2 hg2; simp only [Nat.zero_add, List.nil_append] at hown2 hfm2
             have hC6 := own_below hownB hg2 hC5 hC4.size hC5.size
             obtain ⟨g2, rfl⟩ := hfm2 hp
             have hgb2 := own_block hown2 g2 rfl
             have hne : g ≠ g2 := by omega
             have hownC := hownA.kept hg2 (.inr (fun e => by have : g = w3.heap.size := Option.some.inj e; omega))
             have hcell := hownC.cellAt i (by omega); have hfr := hownC.frozenAt i
             rw [List.getElem?_map, List.getElem?_eq_getElem hkl] at hcell; simp only [Option.map_some, Pg.v] at hcell))
        obtain ⟨hown3, hg3⟩ := hownC.stored i (.slice (some ⟨g2, 0, none⟩) n1 cb)
        have hC7 := hC6.setCell (p := ⟨g, i, none⟩) hgb.1 (.slice (some ⟨g2, 0, none⟩) n1 cb)
        have hown4 := hown2.kept hg3 (.inr (fun e => hne (Option.some.inj e).symm))
        have hcO := hown3.cellAt i (by omega)
        rw [List.getElem?_set_self (by simpa using hkl)] at hcO
        have hcP := hown4.cellAt j (by omega); have hfP := hown4.frozenAt j
        rw [List.getElem?_map, List.getElem?_eq_getElem hjl] at hcP
        simp only [Option.map_some] at hcP
        obtain ⟨w6, hw6⟩ : ∃ w6, w5.setCell ⟨g, i, none⟩ (.slice (some ⟨g2, 0, none⟩) n1 cb) = w6 := ⟨_, rfl⟩
        rw [hw6] at hown3 hown4 hC7 hcO hcP hfP
        rw [hw6]
        clear hw6 hg3 hg2 hg1 hcell hfr hownA hownB hownC hown0 hown1 hown2 hC3 hC4 hC5 hC6 hRa hIa hc5
        have hq0 : ¬ n1 = 0 := by omega
        have hwj : (IntKind.i64.wrap x2).tmod (n1 : Int) = (j : Int) := by
          rw [show IntKind.i64.wrap x2 = x2 from Go.IntWalk.i64_in _ (by omega), Int.tmod_eq_emod_of_nonneg hx0, hjj]
        go_still_tail 17, (by kernel_rfl)
        go_wp2_with fail
        have hgs := own_block hown3 g rfl
        have hgs2 := own_block hown4 g2 rfl
        obtain ⟨hown5, hg5⟩ := hown4.stored j (.int .u8 (bits .xor .u8 (l[i].b[j].toNat : Int) (x3.toNat : Int)))
        have hC8 := (hC7.setCell (p := ⟨g2, j, none⟩) (show w2.heap.size ≤ g2 by omega) (.int .u8 (bits .xor .u8 (l[i].b[j].toNat : Int) (x3.toNat : Int)))).drew
        have hown6 := hown3.kept hg5 (.inr (fun e => hne (Option.some.inj e)))
        have hcO6 := hown6.cellAt i (by omega)
        rw [List.getElem?_set_self (by simpa using hkl)] at hcO6
        obtain ⟨w7, hw7⟩ : ∃ w7, (w6.setCell ⟨g2, j, none⟩ (.int .u8 (bits .xor .u8 (l[i].b[j].toNat : Int) (x3.toNat : Int)))).drew = w7 := ⟨_, rfl⟩
        have hown7 : w7.ownsRow w2.heap.size 22 1 (.slice (some ⟨g, 0, none⟩) n ca) n ((l.set i ⟨some ⟨g2, 0, none⟩, n1, cb, l[i].b.set j (l[i].b[j] ^^^ x3)⟩).map Pg.v) := by
          rw [← hw7, List.map_set]; exact hown6.drew
        have hown8 : w7.ownsRow w3.heap.size 5 1 (.slice (some ⟨g2, 0, none⟩) n1 cb) n1 ((l[i].b.set j (l[i].b[j] ^^^ x3)).map ub) := by
          rw [← hw7, List.map_set, ← show (.int .u8 (bits .xor .u8 (l[i].b[j].toNat : Int) (x3.toNat : Int))) = ub (l[i].b[j] ^^^ x3) by rw [xor_u8]]; exact hown5.drew
        have hcO7 : w7.cell? ⟨g, i, none⟩ = some (.slice (some ⟨g2, 0, none⟩) n1 cb) := by rw [← hw7]; exact hcO6
        rw [hw7] at hC8
        rw [hw7]
        clear hw7 hown6 hcO6 hown5 hg5 hown3 hown4 hcO hcP hfP hC7
        have hg7 : g < w7.heap.size := (own_block hown7 g rfl).2
        obtain ⟨b', hb'⟩ : ∃ b', l[i].b.set j (l[i].b[j] ^^^ x3) = b' := ⟨_, rfl⟩
        have hle : leaf l[i].b ≠ leaf b' := by rw [← hb']; exact leaf_xor hjl hx
        have hbl : b'.length = n1 := by rw [← hb', List.length_set, HIn.out]
        rw [hb'] at hown7 hown8
        clear hb'
        have hIn' : Pg.In w7 w7.heap.size ⟨some ⟨g2, 0, none⟩, n1, cb, b'⟩ := ⟨Rd.of_own hown8, by show n1 ≤ maxLen; simp only [maxLen]; omega⟩
        have hPg : Pgs w7 w7.heap.size (some ⟨g, 0, none⟩) n (l.set i ⟨some ⟨g2, 0, none⟩, n1, cb, b'⟩) := by
          refine ⟨Rd.of_own hown7, fun p hp => ?_⟩
          rcases List.mem_or_eq_of_mem_set hp with hp | rfl
          · exact ((HR2.out.2 p hp).below' hC8 (Nat.le_refl _)).more hC8.size
          · exact hIn'
        have hokn : okp (l.set i ⟨some ⟨g2, 0, none⟩, n1, cb, b'⟩) = true := okp_set HOk.out (by show n1 ≤ 256; omega)
        refine (root_good (some ⟨g, 0, none⟩) n ca _ hokn w7 hPg hn).mono ?_
        rintro e w8 ⟨rfl, hb8⟩
        rw [lvs_set]
        have hC9 := hC8.trans (hb8.mono hC8.size)
        have hc8 := (hb8.cell (p := ⟨g, i, none⟩) hg7).trans hcO7
        have hI8 := Lib.hid ((Rd.of_own hown8).up hb8)
        have HX8 := Lib.hid (HX.out.up hC9)
        have hne1 : (((top ((lvs l).set i (leaf b'))).toNat : Int) != ((top (lvs l)).toNat : Int)) = true := by
          rw [bne_iff_ne]
          intro h
          exact top_set (l := lvs l) (i := i) (by rw [lvs_length]; exact hkl) (x := leaf b') (by rw [lvs_getD hkl]; exact fun e => hle e.symm) (UInt64.toNat_inj.1 (Int.natCast_inj.1 h))
        have HN := Lib.hid (checkv_not HC.out hle)
        have HY := Lib.hid (chk_set HR.out HOk.out i hkl b' (by omega))
        clear hokn hPg hIn' hown7 hown8 hcO7
        go_wp2_with fail
        refine (check_any _ _ _ _ X n1 cb m q b' (prf (lvs l) i) false HN.out w8 hI8.out HX8.out (by simp only [maxLen]; omega) h1 h2).mono ?_
        rintro e w9 ⟨rfl, hb9⟩
        have hC10 := hC9.trans (hb9.mono hC9.size)
        have hc9 := (hb9.cell (p := ⟨g, i, none⟩) (show g < w8.heap.size by have := hb8.size; omega)).trans hc8
        have hI9 := Lib.hid (hI8.out.up hb9)
        have HX9 := Lib.hid (HX8.out.up hb9)
        go_wp2_with fail
        refine (check_any _ _ _ _ X n1 cb m q b' (prf (lvs l) i) true HY.out w9 hI9.out HX9.out (by simp only [maxLen]; omega) h1 h2).mono ?_
        rintro e w10 ⟨rfl, hb10⟩
        have hC11 := hC10.trans (hb10.mono hC10.size)
        go_wp2_with fail
        go_ret
        exact ⟨rfl, hB2.trans (hC11.mono hB2.size)⟩
end Go.Proofs.Ythaibmkieflafaa.Tr
