/- The reference's functions on the tree of pages. -/
import Derived.Test.YthaibmkieflafaaApp2
import Derived.Test.YthaibmkieflafaaFl
import Derived.Test.YthaibmkieflafaaTrCheck
namespace Go.Proofs.Ythaibmkieflafaa.Tr
open Go.RowKit Go.Proofs.Ythaibmkieflafaa.Dig
set_option linter.unusedVariables false

theorem el_take (ls : List UInt64) (k : Nat) (h : k < prs ls.length) : (nxt ls).take (k + 1) = (nxt ls).take k ++ [el ls k] := by
  refine take_snoc _ _ _ ?_
  unfold el
  by_cases h2 : 2 * k + 1 < ls.length
  · rw [nxt_at2 ls k h2, if_pos h2]
  · rw [nxt_at1 ls k (by unfold prs at h; omega), if_neg h2]

set_option maxRecDepth 100000 in
set_option maxHeartbeats 1000000 in
theorem refNext_val (A : Option Addr) (n c B : Nat) (ls : List UInt64) (w : World) (hR : Rd w B 1 A n (ls.map u64)) (hB : B ≤ w.heap.size) (hn : n ≤ 16) :
    Calls Try.prog 43 #[.slice A n c] w fun e w' => ∃ X m k, e = .returned (.slice X m k) ∧ m = (nxt ls).length ∧ w'.ownsRow w.heap.size 23 1 (.slice X m k) m ((nxt ls).map u64) ∧ Below w.heap.size w w' := by
  have hl : ls.length = n := by simpa using hR.1
  have HL := Lib.hid hl; clear hl
  obtain ⟨ib, hib, hz0, hz1, hz2⟩ := info_parts info_u64
  go_enter Try.func43, Try.ntmps43
  go_wp2_with fail
  go_loopw [3, 4] (fun v i wr => ∃ (k : Nat) (X : Option Addr) (q : Nat), k ≤ prs n ∧ v = .slice X k q ∧ i = .int .i64 (2 * k : Nat) ∧ Hid (wr.ownsRow w.heap.size 23 1 (.slice X k q) k (((nxt ls).take k).map u64)) ∧ Below w.heap.size w wr) (fun _ i _ => 2 * prs n - (intOf i).toNat)
  case atStart => exact ⟨0, none, 0, Nat.zero_le _, rfl, rfl, ⟨rfl, .inl ⟨rfl, rfl⟩⟩, Below.refl _ _⟩
  case round =>
    obtain ⟨k, X, q, hk, rfl, rfl, HO, hB1⟩ := hrel
    by_cases hlt : 2 * k < n
    · have hkp : k < prs n := by unfold prs; omega
      have hp8 : prs n ≤ 8 := by unfold prs; omega
      have hlt' : ((2 * k : Nat) : Int) < n := by omega
      have HX : Hid (((nxt ls).take k).map u64 ++ [u64 (el ls k)] = ((nxt ls).take (k + 1)).map u64) := by show _ = _; rw [el_take ls k (by rw [HL.out]; exact hkp), List.map_append]; rfl
      obtain ⟨b, off, u, rfl, hbB, hx, hc⟩ := (hR.below' hB1 hB).at_ (k := 2 * k) hlt
      obtain rfl : u = u64 (ls.getD (2 * k) 0) := by
        rw [List.getElem?_map, List.getElem?_eq_getElem (by rw [HL.out]; exact hlt)] at hx
        rw [List.getD_eq_getElem?_getD, List.getElem?_eq_getElem (by rw [HL.out]; exact hlt)]
        simpa using hx.symm
      clear hx
      have hbw : b < wr.heap.size := by have := hB1.size; omega
      by_cases h2 : 2 * k + 1 < n
      · have h2' : ((2 * k : Nat) : Int) + 1 < n := by omega
        obtain ⟨b', off', u, e', hbB', hx, hc'⟩ := (hR.below' hB1 hB).at_ (k := 2 * k + 1) h2
        simp only [Option.some.injEq, Addr.mk.injEq, and_true] at e'
        obtain ⟨rfl, rfl⟩ := e'
        obtain rfl : u = u64 (ls.getD (2 * k + 1) 0) := by
          rw [List.getElem?_map, List.getElem?_eq_getElem (by rw [HL.out]; exact h2)] at hx
          rw [List.getD_eq_getElem?_getD, List.getElem?_eq_getElem (by rw [HL.out]; exact h2)]
          simpa using hx.symm
        clear hx
        have HEl : Hid (pair (ls.getD (2 * k) 0) (ls.getD (2 * k + 1) 0) = el ls k) := by show _ = _; unfold el; rw [if_pos (by rw [HL.out]; exact h2)]
        generalize ls.getD (2 * k) 0 = y0 at *
        generalize ls.getD (2 * k + 1) 0 = y1 at *
        have f0 : ∀ s : WOf (Below wr.heap.size wr), s.w.cell? ⟨b, off + 2 * k, none⟩ = some (u64 y0) := fun s => (s.ok.cell (p := ⟨b, off + 2 * k, none⟩) hbw).trans hc
        have f1 : ∀ s : WOf (Below wr.heap.size wr), s.w.cell? ⟨b, off + (2 * k + 1), none⟩ = some (u64 y1) := fun s => (s.ok.cell (p := ⟨b, off + (2 * k + 1), none⟩) hbw).trans hc'
        have NP := Lib.hid (fun W => ref_pair_any y0 y1 W)
        clear hc hc'
        have hup : ∀ a b, Below wr.heap.size wr a → Below a.heap.size a b → Below wr.heap.size wr b := fun a b h k => below_trans' h k
        go_wp2_with fail
        refine wp_region_fl (Below wr.heap.size wr) 11 (Below.refl _ _) hup (by kernel_rfl) (by kernel_rfl) (fun hnn => ?_)
        simp only [List.take_succ_cons, List.take_zero, List.drop_succ_cons, List.drop_zero]
        repeat (go_big_quiet_step (with_reducible exact calls_ext_same (NP.out _)))
        refine wpQuiet_nil ?_
        intro s
        refine ⟨fun o ho => ?_, ?_⟩
        · obtain rfl := Option.some.inj ho
          exact ⟨_, _, build_runs 39 23 _ (u64 (pair y0 y1)) rfl ib _ Try.underlying39 hib hz0 hz1 rfl rfl, s.ok.alloc s.ok.size _⟩
        obtain ⟨wx, hwx⟩ := s
        clear f0 f1 NP
        have hwx' := hwx
        have hn7 := (own_keep HO.out hwx).alloc (.cells #[u64 (pair y0 y1)] 23)
        have hB6 := (hB1.trans (hwx.mono hB1.size)).alloc (by have := hwx.size; have := hB1.size; omega) (.cells #[u64 (pair y0 y1)] 23)
        go_wp2_with (at_builtin; refine wpList_append_rd _ rfl (.tmp 16) (.tmp 27) _ rfl w.heap.size 23 ib _ 1 8 Try.underlying39 hib hz0 hz1 hz2 rfl (by omega) _ _ _ rfl hn7 _ _ 1 _ _ rfl (Rd.new wx _ _ _ 1 1 rfl) (by simp [Value.oneCell']) (by simp only [maxLen]; omega) (by omega) hB6.size ?_; intro Yb qb w7 hown2 _ hg2; have hB7 := own_below hn7 hg2 hB6 (Nat.le_refl _) hB6.size; clear hg2; rw [HEl.out, HX.out] at hown2; have HO7 := Lib.hid hown2; clear hown2)
        go_roundw
        case rel => exact ⟨k + 1, _, _, by omega, rfl, by go_num, HO7, hB7⟩
        case measure => simp [intOf]; omega
      · have h2' : ((n : Nat) : Int) ≤ ((2 * k : Nat) : Int) + 1 := by omega
        have HEl : Hid (ls.getD (2 * k) 0 = el ls k) := by show _ = _; unfold el; rw [if_neg (by rw [HL.out]; exact h2)]
        generalize ls.getD (2 * k) 0 = y0 at *
        have hn7 := HO.out.alloc (.cells #[u64 y0] 23)
        have hB6 := hB1.alloc hB1.size (.cells #[u64 y0] 23)
        go_wp2_with (at_builtin; refine wpList_append_rd _ rfl (.tmp 29) (.tmp 34) _ rfl w.heap.size 23 ib _ 1 8 Try.underlying39 hib hz0 hz1 hz2 rfl (by omega) _ _ _ rfl hn7 _ _ 1 _ _ rfl (Rd.new wr _ _ _ 1 1 rfl) (by simp [Value.oneCell']) (by simp only [maxLen]; omega) (by omega) hB6.size ?_; intro Yb qb w7 hown2 _ hg2; have hB7 := own_below hn7 hg2 hB6 (Nat.le_refl _) hB6.size; clear hg2; rw [HEl.out, HX.out] at hown2; have HO7 := Lib.hid hown2; clear hown2)
        go_roundw
        case rel => exact ⟨k + 1, _, _, by omega, rfl, by go_num, HO7, hB7⟩
        case measure => simp [intOf]; omega
    · have hkp : k = (nxt ls).length := by rw [nxt_length, HL.out]; unfold prs at hk; omega
      have hlt' : ((n : Nat) : Int) ≤ ((2 * k : Nat) : Int) := by omega
      have HR : Hid (wr.ownsRow w.heap.size 23 1 (.slice X k q) k ((nxt ls).map u64)) := by
        have := HO.out
        rw [hkp, List.take_length, ← hkp] at this
        exact this
      have HK := Lib.hid hkp
      clear HO hkp
      go_wp2_with fail
      go_ret
      exact ⟨_, _, _, rfl, HK.out, HR.out, hB1⟩

theorem refOther_val (i n : Nat) (hi : i < 64) (hn : n ≤ 64) (z : Int) (hz : (if sib i < n then ((sib i : Nat) : Int) else -1) = z) (w : World) :
    Calls Try.prog 44 #[i64 (i : Nat), i64 (n : Nat)] w fun e w' => e = .returned (i64 z) ∧ w = w' := by
  have hs : ((i : Int) + 1 - 2 * ((i : Int) % 2)) = ((sib i : Nat) : Int) := by rw [sib_of]; split <;> omega
  by_cases h : sib i < n
  · rw [if_pos h] at hz
    subst hz
    have h' : ((sib i : Nat) : Int) < n := by omega
    go_enter Try.func44, Try.ntmps44
    go_wp2_with fail
    go_ret
    exact ⟨rfl, rfl⟩
  · rw [if_neg h] at hz
    subst hz
    have h' : ((n : Nat) : Int) ≤ ((sib i : Nat) : Int) := by omega
    go_enter Try.func44, Try.ntmps44
    go_wp2_with fail
    go_ret
    exact ⟨rfl, rfl⟩

set_option maxRecDepth 100000 in
set_option maxHeartbeats 1000000 in
theorem refLeaves_val (A : Option Addr) (n c B : Nat) (l : List Pg) (w : World) (hP : Pgs w B A n l) (hB : B ≤ w.heap.size) (hn : n ≤ 16) :
    Calls Try.prog 42 #[.slice A n c] w fun e w' => ∃ X k, e = .returned (.slice X n k) ∧ w'.ownsRow w.heap.size 23 1 (.slice X n k) n ((lvs l).map u64) ∧ Below w.heap.size w w' := by
  have HP := Lib.hid hP; clear hP
  obtain ⟨ib, hib, hz0, hz1, hz2⟩ := info_parts info_u64
  go_enter Try.func42, Try.ntmps42
  go_wp2_with fail
  go_loopw [3, 4] (fun v i wr => ∃ (k : Nat) (X : Option Addr) (q : Nat), k ≤ n ∧ v = .slice X k q ∧ i = .int .i64 k ∧ Hid (wr.ownsRow w.heap.size 23 1 (.slice X k q) k (((lvs l).take k).map u64)) ∧ Below w.heap.size w wr) (fun _ i _ => n - (intOf i).toNat)
  case atStart => exact ⟨0, none, 0, Nat.zero_le _, rfl, rfl, ⟨rfl, .inl ⟨rfl, rfl⟩⟩, Below.refl _ _⟩
  case round =>
    obtain ⟨k, X, q, hk, rfl, rfl, HO, hB1⟩ := hrel
    by_cases hlt : k < n
    · obtain ⟨b, off, rfl, hbB, hkl, hc⟩ := (HP.out.below' hB1 hB).at_ hlt
      have HI := Lib.hid ((HP.out.below' hB1 hB).2 l[k] (List.getElem_mem hkl))
      have HX := Lib.hid (lvs_snoc l k hkl)
      go_wp2_with fail
      refine (refLeaf_val _ _ _ B l[k].b _ HI.out.1 (Nat.le_trans hB hB1.size) HI.out.2).mono ?_
      rintro e w2 ⟨rfl, hb2⟩
      have hB2 := below_trans' hB1 hb2
      have hO2 := own_keep HO.out hb2
      have hB3 := hB2.alloc hB2.size (.cells #[u64 (leaf l[k].b)] 23)
      clear HO HI hb2
      go_wp2_with (at_builtin; refine wpList_append_rd _ rfl (.tmp 11) (.tmp 17) _ rfl w.heap.size 23 ib _ 1 8 Try.underlying39 hib hz0 hz1 hz2 rfl (by omega) _ _ _ rfl (hO2.alloc _) _ _ 1 _ _ rfl (Rd.new w2 _ _ _ 1 1 rfl) (by simp [Value.oneCell']) (by simp only [maxLen]; omega) (by omega) hB3.size ?_; intro Yb qb w4 hown2 _ hg2; have hB4 := own_below (hO2.alloc _) hg2 hB3 (Nat.le_refl _) hB3.size; clear hg2; rw [HX.out] at hown2; have HO4 := Lib.hid hown2; clear hown2)
      go_roundw
      case rel => exact ⟨k + 1, _, _, by omega, rfl, by go_num, HO4, hB4⟩
      case measure => simp [intOf]; omega
    · obtain rfl : k = n := by omega
      have HR : Hid (wr.ownsRow w.heap.size 23 1 (.slice X k q) k ((lvs l).map u64)) := by
        have := HO.out
        rwa [← HP.out.len, ← lvs_length, List.take_length, lvs_length, HP.out.len] at this
      clear HO
      go_wp2_with fail
      go_ret
      exact ⟨_, _, rfl, HR.out, hB1⟩

theorem refRoot_bad (A : Option Addr) (n c B : Nat) (l : List Pg) (hv : okp l = false) (w : World) (hR : Pgs w B A n l) (hn : n ≤ maxLen) :
    Calls Try.prog 28 #[.slice A n c] w fun e w' => e = .returned (.tuple #[u64 0, i64 1]) ∧ w = w' := by
  go_enter Try.func28, Try.ntmps28
  go_wp2_with fail
  refine (refPages_val A n c B l false hv w hR hn).mono ?_
  rintro e w1 ⟨rfl, rfl⟩
  go_wp2_with fail
  go_ret2
  exact ⟨rfl, rfl⟩

theorem okp_le {l : List Pg} (h : okp l = true) : 1 ≤ l.length ∧ l.length ≤ 16 := by
  unfold okp at h
  simp only [Bool.and_eq_true, decide_eq_true_eq] at h
  omega

set_option maxRecDepth 100000 in
set_option maxHeartbeats 1000000 in
theorem refRoot_good (A : Option Addr) (n c : Nat) (l : List Pg) (hv : okp l = true) (w : World) (hR : Pgs w w.heap.size A n l) :
    Calls Try.prog 28 #[.slice A n c] w fun e w' => e = .returned (.tuple #[u64 (top (lvs l)), i64 0]) ∧ Below w.heap.size w w' := by
  obtain ⟨hn1, hn⟩ := okp_le hv
  rw [hR.len] at hn1 hn
  have hln : (lvs l).length = n := by rw [lvs_length, hR.len]
  have HLn := Lib.hid hln; clear hln
  go_enter Try.func28, Try.ntmps28
  go_wp2_with fail
  refine (refPages_val A n c _ l true hv w hR (by unfold maxLen; omega)).mono ?_
  rintro e w1 ⟨rfl, rfl⟩
  go_wp2_with fail
  refine (refLeaves_val A n c _ l w hR (Nat.le_refl _) hn).mono ?_
  rintro e w1 ⟨X, q, rfl, hO, hb1⟩
  have HR := Lib.hid (Rd.of_own hO); clear hO
  go_wp2_with fail
  go_loopw [4] (fun v wr => ∃ (k m : Nat) (X : Option Addr) (q : Nat), v = .slice X m q ∧ Hid (k < hgt (lvs l)) ∧ Hid (m = (lev (lvs l) k).length) ∧ Hid (Rd wr wr.heap.size 1 X m ((lev (lvs l) k).map u64)) ∧ Below w.heap.size w wr) (fun v _ => lenV v)
  case atStart => exact ⟨0, n, X, q, rfl, hgt_pos _, HLn.out.symm, HR, hb1⟩
  case round =>
    obtain ⟨k, m, X, q, rfl, Hk, Hm, HRk, hB⟩ := hrel
    have hm1 : 1 ≤ m := by rw [Hm.out]; exact lev_pos (by rw [HLn.out]; omega) _
    have hm16 : m ≤ 16 := by rw [Hm.out]; exact lev_le _ (by rw [HLn.out]; omega) _
    by_cases h1 : m ≤ 1
    · obtain rfl : m = 1 := by omega
      have hk1 := lev_len1 _ _ (by rw [← Hm.out]; exact Nat.le_refl _) Hk.out
      obtain ⟨b, off, u, rfl, hb, hx, hc⟩ := HRk.out.at_ (k := 0) (by omega)
      have hu : u = u64 (top (lvs l)) := by
        rw [← top_last (lvs l) k hk1]
        have hl1 : 0 < (lev (lvs l) k).length := by rw [← Hm.out]; omega
        rw [List.getElem?_map, List.getElem?_eq_getElem hl1] at hx
        cases hlv : lev (lvs l) k with
        | nil => rw [hlv] at hl1; simp at hl1
        | cons a t => simp [hlv] at hx; rw [← hx]; rfl
      subst hu
      rw [Nat.add_zero] at hc
      clear hx
      go_wp2_with fail
      go_ret2
      exact ⟨rfl, hB⟩
    · have h2 : (1 : Int) < m := by omega
      have HN := Lib.hid (refNext_val X m q _ (lev (lvs l) k) wr HRk.out (Nat.le_refl _) hm16)
      have Hk2 := Lib.hid (lev_more _ _ (by rw [← Hm.out]; exact h1) Hk.out)
      have hlt : (nxt (lev (lvs l) k)).length < m := by rw [nxt_length, ← Hm.out]; omega
      clear HRk
      go_wp2_with fail
      refine HN.out.mono ?_
      rintro e w2 ⟨X2, m2, q2, rfl, hm2, hO2, hb2⟩
      have HR2 := Lib.hid (Rd.of_own hO2); clear hO2
      have Hm2 := Lib.hid hm2; clear hm2
      have hB2 := below_trans' hB hb2
      go_wp2_with fail
      go_roundw
      case rel => exact ⟨k + 1, m2, X2, q2, rfl, Hk2, Hm2, HR2, hB2⟩
      case measure => show m2 < m; rw [Hm2.out]; exact hlt

/-- want, unfolded once. -/
theorem want_one {n i : Nat} (h : n ≤ 1) : want n i = 0 := by rw [want.eq_def, dif_pos h]
theorem want_more {n i : Nat} (h : ¬ n ≤ 1) : want n i = (if sib i < n then 1 else 0) + want ((n + 1) / 2) (i / 2) := by rw [want.eq_def, dif_neg h]
theorem refLength_val (n i : Nat) (hn : n ≤ 16) (hi : i < 16) (w : World) :
    Calls Try.prog 47 #[i64 (n : Nat), i64 (i : Nat)] w fun e w' => e = .returned (i64 (want n i : Nat)) ∧ w = w' := by
  go_enter Try.func47, Try.ntmps47
  go_wp2_with fail
  go_loopw [0, 1, 5] (fun a b c wr => ∃ nk ik mk : Nat, a = i64 (nk : Nat) ∧ b = i64 (ik : Nat) ∧ c = i64 (mk : Nat) ∧ nk ≤ 16 ∧ ik < 16 ∧ mk ≤ 40 - nk ∧ Hid (want n i = mk + want nk ik) ∧ w = wr) (fun a _ _ _ => (intOf a).toNat)
  case atStart => exact ⟨n, i, 0, rfl, rfl, rfl, hn, hi, by omega, by show _ = _; omega, rfl⟩
  case round =>
    obtain ⟨nk, ik, mk, rfl, rfl, rfl, hnk, hik, hmk, HW, rfl⟩ := hrel
    by_cases h1 : nk ≤ 1
    · have h1' : ((nk : Nat) : Int) ≤ 1 := by omega
      have HE : Hid (want n i = mk) := by show _ = _; rw [HW.out, want_one h1]; omega
      go_wp2_with fail
      go_ret
      exact ⟨by rw [HE.out]; rfl, rfl⟩
    · have h1' : (1 : Int) < ((nk : Nat) : Int) := by omega
      by_cases hs : sib ik < nk
      · have HE : Hid (want n i = (mk + 1) + want ((nk + 1) / 2) (ik / 2)) := by show _ = _; rw [HW.out, want_more h1, if_pos hs]; omega
        have HO := Lib.hid (refOther_val ik nk (by omega) (by omega) _ (if_pos hs) w)
        have h0 : (0 : Int) ≤ ((sib ik : Nat) : Int) := by omega
        go_wp2_with fail
        refine HO.out.mono ?_
        rintro e w1 ⟨rfl, rfl⟩
        go_wp2_with fail
        go_roundw
        case rel => exact ⟨(nk + 1) / 2, ik / 2, mk + 1, by go_num, by go_num, by go_num, by omega, by omega, by omega, HE, trivial⟩
        case measure => simp [intOf]; omega
      · have HE : Hid (want n i = mk + want ((nk + 1) / 2) (ik / 2)) := by show _ = _; rw [HW.out, want_more h1, if_neg hs]; omega
        have HO := Lib.hid (refOther_val ik nk (by omega) (by omega) _ (if_neg hs) w)
        go_wp2_with fail
        refine HO.out.mono ?_
        rintro e w1 ⟨rfl, rfl⟩
        go_wp2_with fail
        go_roundw
        case rel => exact ⟨(nk + 1) / 2, ik / 2, mk, by go_num, by go_num, rfl, by omega, by omega, by omega, HE, trivial⟩
        case measure => simp [intOf]; omega
end Go.Proofs.Ythaibmkieflafaa.Tr
