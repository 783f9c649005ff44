/- The reference's Proof, Check and Same. -/
import Derived.Test.YthaibmkieflafaaTrRef
namespace Go.Proofs.Ythaibmkieflafaa.Tr
open Go.RowKit Go.Proofs.Ythaibmkieflafaa.Dig
set_option linter.unusedVariables false

theorem refProof_bad (A : Option Addr) (n c B : Nat) (l : List Pg) (i : Int) (hv : okp l = false ∨ (okp l = true ∧ (i < 0 ∨ (n : Int) ≤ i))) (w : World) (hR : Pgs w B A n l) (hn : n ≤ maxLen) :
    Calls Try.prog 30 #[.slice A n c, i64 i] w fun e w' => e = .returned (.tuple #[.slice none 0 0, i64 1]) ∧ w = w' := by
  rcases hv with hv | ⟨hv, h1⟩
  · go_enter Try.func30, Try.ntmps30
    go_wp2_with fail
    refine (refPages_val A n c B l false hv w hR hn).mono ?_
    rintro e w1 ⟨rfl, rfl⟩
    go_wp2_with fail
    go_ret2
    exact ⟨rfl, rfl⟩
  · by_cases h0 : i < 0
    · go_enter Try.func30, Try.ntmps30
      go_wp2_with fail
      refine (refPages_val A n c B l true hv w hR hn).mono ?_
      rintro e w1 ⟨rfl, rfl⟩
      go_wp2_with fail
      go_ret2
      exact ⟨rfl, rfl⟩
    · have h2 : (n : Int) ≤ i := by omega
      go_enter Try.func30, Try.ntmps30
      go_wp2_with fail
      refine (refPages_val A n c B l true hv w hR hn).mono ?_
      rintro e w1 ⟨rfl, rfl⟩
      go_wp2_with fail
      go_ret2
      exact ⟨rfl, rfl⟩

theorem own_ne {w : World} {b n s : Nat} {e : TypeId} {v v' : Value} {xs : List Value} (h : w.ownsRow b e s v n xs) (h' : ∀ k, v'.ownBlock = some k → k < b) : v.ownBlock = none ∨ v.ownBlock ≠ v'.ownBlock := by
  cases hv : v.ownBlock with
  | none => exact .inl rfl
  | some k =>
    refine .inr (fun e => ?_)
    have h1 := (own_block h k hv).1
    have h2 := h' k e.symm
    omega

theorem lev_idx {l : List UInt64} {i : Nat} (h : i < l.length) : ∀ k, i / 2 ^ k < (lev l k).length
  | 0 => by simpa [lev] using h
  | k + 1 => by
    have := lev_idx h k
    show _ < (nxt (lev l k)).length
    rw [nxt_length, Nat.pow_succ, ← Nat.div_div_eq_div_mul]
    omega
theorem own_base {w : World} {b b' n s : Nat} {e : TypeId} {v : Value} {xs : List Value} (h : w.ownsRow b e s v n xs) (hb : b' ≤ b) : w.ownsRow b' e s v n xs :=
  ⟨h.1, h.2.imp id (fun ⟨g, cap, cur, h1, h2, h3⟩ => ⟨g, cap, cur, h1, Nat.le_trans hb h2, h3⟩)⟩
/-- The reference's Proof between two rounds. -/
def RP (l : List Pg) (i : Nat) (w : World) (a o v : Value) (wr : World) : Prop :=
  ∃ (k m : Nat) (X Y : Option Addr) (q p : Nat), a = i64 (i / 2 ^ k : Nat) ∧ o = .slice Y (prk (lvs l) i k).length p ∧ v = .slice X m q ∧ k < hgt (lvs l) ∧ m = (lev (lvs l) k).length ∧
    wr.ownsRow w.heap.size 23 1 (.slice X m q) m ((lev (lvs l) k).map u64) ∧ wr.ownsRow w.heap.size 23 1 (.slice Y (prk (lvs l) i k).length p) (prk (lvs l) i k).length ((prk (lvs l) i k).map u64) ∧
    ((Value.slice X m q).ownBlock = none ∨ (Value.slice X m q).ownBlock ≠ (Value.slice Y (prk (lvs l) i k).length p).ownBlock) ∧ Below w.heap.size w wr

set_option maxRecDepth 100000 in
set_option maxHeartbeats 2000000 in
theorem refProof_good (A : Option Addr) (n c : Nat) (l : List Pg) (i : Nat) (hv : okp l = true) (hi : i < n) (w : World) (hR : Pgs w w.heap.size A n l) :
    Calls Try.prog 30 #[.slice A n c, i64 (i : Nat)] w fun e w' => ∃ X m k, e = .returned (.tuple #[.slice X m k, i64 0]) ∧ m = (prf (lvs l) i).length ∧ Rd w' w'.heap.size 1 X m ((prf (lvs l) i).map u64) ∧ Below w.heap.size w w' := by
  obtain ⟨hn1, hn⟩ := okp_le hv
  rw [hR.len] at hn1 hn
  have hln : (lvs l).length = n := by rw [lvs_length, hR.len]
  have HLn := Lib.hid hln; clear hln
  obtain ⟨ib, hib, hz0, hz1, hz2⟩ := info_parts info_u64
  have g1 : (0 : Int) ≤ ((i : Nat) : Int) := by omega
  have g2 : ((i : Nat) : Int) < (n : Nat) := by omega
  go_enter Try.func30, Try.ntmps30
  go_wp2_with fail
  refine (refPages_val A n c _ l true hv w hR (by unfold maxLen; omega)).mono ?_
  rintro e w1 ⟨rfl, rfl⟩
  go_wp2_with fail
  refine (refLeaves_val A n c _ l w hR (Nat.le_refl _) hn).mono ?_
  rintro e w1 ⟨X, q, rfl, hO, hb1⟩
  have HS : Hid (RP l i w (i64 (i : Nat)) (.slice none 0 0) (.slice X n q) w1) :=
    ⟨0, n, X, none, q, 0, by simp, rfl, rfl, hgt_pos _, HLn.out.symm, hO, ⟨rfl, .inl ⟨rfl, rfl⟩⟩, by cases X with | none => exact .inl rfl | some a => exact .inr (by simp [Value.ownBlock]), hb1⟩
  clear hO
  go_wp2_with fail
  go_loopw [1, 6, 7] (fun a o v wr => Hid (RP l i w a o v wr)) (fun _ _ v _ => lenV v)
  case atStart => exact HS
  case round =>
    obtain ⟨k, m, X, Y, q, p, rfl, rfl, rfl, hk, hm, hX, hY, hne, hB⟩ := hrel.out
    clear hrel
    have hls : 0 < (lvs l).length := by rw [HLn.out]; omega
    have hm1 : 1 ≤ m := by rw [hm]; exact lev_pos hls _
    have hm16 : m ≤ 16 := by rw [hm]; exact lev_le _ (by rw [HLn.out]; omega) _
    by_cases h1 : m ≤ 1
    · have hk1 := lev_len1 _ _ (by rw [← hm]; exact h1) hk
      have h1' : (m : Int) ≤ 1 := by omega
      have HE : Hid (prk (lvs l) i k = prf (lvs l) i) := by
        show _ = _
        rw [← prk_all (lvs l) i (by rw [HLn.out]; exact hi), ← hk1, prk]
        have hb := lev_idx (l := lvs l) (by rw [HLn.out]; exact hi) k
        have h0 : i / 2 ^ k = 0 := Nat.lt_one_iff.1 (Nat.lt_of_lt_of_le hb (by rw [← hm]; exact h1))
        rw [if_neg (by rw [← hm, h0, sib_of]; simp; omega), List.append_nil]
      have HR : Hid (Rd wr wr.heap.size 1 Y (prf (lvs l) i).length ((prf (lvs l) i).map u64)) := by
        have := Rd.of_own hY
        rw [HE.out] at this
        exact this
      rw [HE.out]
      clear hX hY hne hm
      go_wp2_with fail
      go_ret2
      exact ⟨_, _, _, rfl, rfl, HR.out, hB⟩
    · have h2 : (1 : Int) < m := by omega
      have hk2 := lev_more _ _ (by rw [← hm]; exact h1) hk
      have ha : i / 2 ^ k ≤ i := Nat.div_le_self _ _
      have hpw : i / 2 ^ k / 2 = i / 2 ^ (k + 1) := by rw [Nat.pow_succ, Nat.div_div_eq_div_mul]
      have hpk : prk (lvs l) i (k + 1) = prk (lvs l) i k ++ (if sib (i / 2 ^ k) < (lev (lvs l) k).length then [(lev (lvs l) k).getD (sib (i / 2 ^ k)) 0] else []) := rfl
      have hpl : (prk (lvs l) i k).length ≤ 20 := by
        have h1 := prk_le (lvs l) i k
        have h2 := hgt_le (lvs l)
        rw [HLn.out] at h2
        omega
      have hlt : (nxt (lev (lvs l) k)).length < m := by rw [nxt_length, ← hm]; omega
      by_cases hs : sib (i / 2 ^ k) < m
      · have HO := Lib.hid (refOther_val (i / 2 ^ k) m (by omega) (by omega) _ (if_pos hs) wr)
        have hs0 : (0 : Int) ≤ ((sib (i / 2 ^ k) : Nat) : Int) := by omega
        rw [if_pos (by rw [← hm]; exact hs)] at hpk
        obtain ⟨b, off, u, rfl, hb, hx, hc⟩ := (Rd.of_own hX).at_ hs
        obtain rfl : u = u64 ((lev (lvs l) k).getD (sib (i / 2 ^ k)) 0) := by
          rw [List.getElem?_map, List.getElem?_eq_getElem (by rw [← hm]; exact hs)] at hx
          rw [List.getD_eq_getElem?_getD, List.getElem?_eq_getElem (by rw [← hm]; exact hs)]
          simpa using hx.symm
        clear hx
        have HX := Lib.hid hX
        have HY := Lib.hid hY
        have Hm := Lib.hid hm
        have Hpw := Lib.hid hpw
        have HPk : Hid ((prk (lvs l) i k).map u64 ++ [u64 ((lev (lvs l) k).getD (sib (i / 2 ^ k)) 0)] = (prk (lvs l) i (k + 1)).map u64 ∧ (prk (lvs l) i (k + 1)).length = (prk (lvs l) i k).length + 1) := by
          refine ⟨?_, ?_⟩
          · rw [hpk, List.map_append]; rfl
          · rw [hpk, List.length_append]; rfl
        clear hX hY hm hpw hpk
        generalize (lev (lvs l) k).getD (sib (i / 2 ^ k)) 0 = y at *
        generalize sib (i / 2 ^ k) = sb at *
        generalize i / 2 ^ k = a at *
        generalize hos : prk (lvs l) i k = os at *
        generalize hoo : prk (lvs l) i (k + 1) = oo at *
        generalize hln : os.length = kk at *
        have hsl : (sb : Int) < m := by omega
        go_wp2_with fail
        refine HO.out.mono ?_
        rintro e w2 ⟨rfl, rfl⟩
        have hn7 := HY.out.alloc (.cells #[u64 y] 23)
        have hx7 := HX.out.alloc (.cells #[u64 y] 23)
        have hB6 := hB.alloc hB.size (.cells #[u64 y] 23)
        clear HO
        go_wp2_with (at_builtin; refine wpList_append_rd _ rfl (.tmp 33) (.tmp 38) _ rfl w.heap.size 23 ib _ 1 8 Try.underlying39 hib hz0 hz1 hz2 rfl (by omega) _ _ _ rfl hn7 _ _ 1 _ _ rfl (Rd.new wr _ _ _ 1 1 rfl) (by simp [Value.oneCell']) (by simp only [maxLen]; omega) (by omega) hB6.size ?_; intro Yb qb w7 hown2 _ hg2; have hB7 := own_below hn7 hg2 hB6 (Nat.le_refl _) hB6.size; have hx8 := hx7.kept hg2 hne; clear hg2; rw [HPk.out.1] at hown2; have HO7 := Lib.hid hown2; clear hown2)
        have HN := Lib.hid (refNext_val _ m q _ (lev (lvs l) k) w7 (Rd.of_own hx8) (Nat.le_refl _) hm16)
        clear hx8 hx7 hn7 hB6
        refine HN.out.mono ?_
        rintro e w8 ⟨X2, m2, q2, rfl, hm2, hO2, hb2⟩
        have hY8 := own_keep HO7.out hb2
        have hB8 := hB7.trans (hb2.mono hB7.size)
        have hne2 := own_ne hO2 (v' := .slice Yb (kk + 1) qb) (fun j hj => (own_block HO7.out j hj).2)
        have hX2 : w8.ownsRow w.heap.size 23 1 (.slice X2 m2 q2) m2 ((nxt (lev (lvs l) k)).map u64) := own_base hO2 hB7.size
        have HRP : Hid (RP l i w (i64 (a / 2 : Nat)) (.slice Yb (kk + 1) qb) (.slice X2 m2 q2) w8) := ⟨k + 1, m2, X2, Yb, q2, qb, by rw [Hpw.out], by rw [hoo, HPk.out.2], rfl, hk2, hm2, hX2, by rw [hoo, HPk.out.2]; exact hY8, by rw [hoo, HPk.out.2]; exact hne2, hB8⟩
        have hm2lt : m2 < m := by rw [hm2]; exact hlt
        clear hO2 hY8 hne2 hX2 hm2 HN
        go_wp2_with fail
        have e2 : ((a : Int) / 2) = ((a / 2 : Nat) : Int) := by omega
        rw [e2]
        go_roundw
        case rel => exact HRP
        case measure => exact hm2lt
      · have HO := Lib.hid (refOther_val (i / 2 ^ k) m (by omega) (by omega) _ (if_neg hs) wr)
        rw [if_neg (by rw [← hm]; exact hs), List.append_nil] at hpk
        have HY := Lib.hid hY
        have Hm := Lib.hid hm
        have Hpw := Lib.hid hpw
        have HN := Lib.hid (refNext_val _ m q _ (lev (lvs l) k) wr (Rd.of_own hX) (Nat.le_refl _) hm16)
        have HPk : Hid (prk (lvs l) i (k + 1) = prk (lvs l) i k) := hpk
        clear hX hY hm hpw hpk
        generalize i / 2 ^ k = a at *
        generalize hos : prk (lvs l) i k = os at *
        generalize hoo : prk (lvs l) i (k + 1) = oo at *
        go_wp2_with fail
        refine HO.out.mono ?_
        rintro e w2 ⟨rfl, rfl⟩
        go_wp2_with fail
        refine HN.out.mono ?_
        rintro e w8 ⟨X2, m2, q2, rfl, hm2, hO2, hb2⟩
        have hY8 := own_keep HY.out hb2
        have hB8 := below_trans' hB hb2
        have hne2 := own_ne hO2 (v' := .slice Y os.length p) (fun j hj => (own_block HY.out j hj).2)
        have hX2 : w8.ownsRow w.heap.size 23 1 (.slice X2 m2 q2) m2 ((nxt (lev (lvs l) k)).map u64) := own_base hO2 hB.size
        have HRP : Hid (RP l i w (i64 (a / 2 : Nat)) (.slice Y os.length p) (.slice X2 m2 q2) w8) := ⟨k + 1, m2, X2, Y, q2, p, by rw [Hpw.out], by rw [hoo, HPk.out], rfl, hk2, hm2, hX2, by rw [hoo, HPk.out]; exact hY8, by rw [hoo, HPk.out]; exact hne2, hB8⟩
        have hm2lt : m2 < m := by rw [hm2]; exact hlt
        clear hO2 hY8 hne2 hX2 hm2 HN
        go_wp2_with fail
        have e2 : ((a : Int) / 2) = ((a / 2 : Nat) : Int) := by omega
        rw [e2]
        go_roundw
        case rel => exact HRP
        case measure => exact hm2lt

/-- The reference's Same. -/
theorem refSame_val (A : Option Addr) (n c : Nat) (A' : Option Addr) (n' c' B : Nat) (xs ys : List UInt64) (v : Bool) (hv : decide (xs = ys) = v) (w : World) (hR : Rd w B 1 A n (xs.map u64)) (hR' : Rd w B 1 A' n' (ys.map u64)) (hn : n ≤ maxLen) (hn' : n' ≤ maxLen) :
    Calls Try.prog 31 #[.slice A n c, .slice A' n' c'] w fun e w' => e = .returned (.bool v) ∧ Below w.heap.size w w' := by
  unfold maxLen at hn hn'
  have hl : xs.length = n := by simpa using hR.1
  have hl' : ys.length = n' := by simpa using hR'.1
  have HV := Lib.hid hv; clear hv
  have HL := Lib.hid hl
  have HL' := Lib.hid hl'
  clear hl hl'
  by_cases hnn : n = n'
  · subst hnn
    go_enter Try.func31, Try.ntmps31
    go_wp2_with fail
    go_loopw [5] (fun i wr => ∃ k : Nat, k ≤ n ∧ i = .int .i64 k ∧ Hid (xs.take k = ys.take k) ∧ Below w.heap.size w wr ∧ (∀ p, wr.cell? p = w.cell? p)) (fun i _ => n - (intOf i).toNat)
    case atStart => exact ⟨0, Nat.zero_le _, rfl, rfl, Below.refl _ _, fun _ => rfl⟩
    case round =>
      obtain ⟨k, hk, rfl, HK, hb, hcc⟩ := hrel
      by_cases hlt : k < n
      · obtain ⟨b, off, u, rfl, hbB, hx, hc⟩ := hR.at_ hlt
        obtain ⟨b', off', u', rfl, hbB', hx', hc'⟩ := hR'.at_ hlt
        have hkx : k < xs.length := by rw [HL.out]; exact hlt
        have hky : k < ys.length := by rw [HL'.out]; exact hlt
        obtain rfl : u = u64 xs[k] := by rw [List.getElem?_map, List.getElem?_eq_getElem hkx] at hx; simpa using hx.symm
        obtain rfl : u' = u64 ys[k] := by rw [List.getElem?_map, List.getElem?_eq_getElem hky] at hx'; simpa using hx'.symm
        rw [← hcc] at hc hc'
        have f0 : ∀ q, (wr.drewN q).cell? ⟨b, off + k, none⟩ = some (u64 xs[k]) := fun _ => hc
        have f1 : ∀ q, (wr.drewN q).cell? ⟨b', off' + k, none⟩ = some (u64 ys[k]) := fun _ => hc'
        by_cases he : xs[k] = ys[k]
        · have HK2 : Hid (xs.take (k + 1) = ys.take (k + 1)) := by
            show _ = _
            rw [List.take_succ_eq_append_getElem hkx, List.take_succ_eq_append_getElem hky, HK.out, he]
          have he' : ((xs[k].toNat : Int) != (ys[k].toNat : Int)) = false := by rw [he]; simp
          have hcc' := Lib.hid hcc
          clear hcc hx hx' HL HL' he
          go_wp2_with fail
          go_region
          go_wp2_with fail
          go_roundw
          case rel => exact ⟨k + 1, by omega, by go_num, HK2, hb.drew, fun p => hcc'.out p⟩
          case measure => simp [intOf]; omega
        · have he' : ((xs[k].toNat : Int) != (ys[k].toNat : Int)) = true := by
            rw [bne_iff_ne]
            intro h
            exact he (UInt64.toNat_inj.1 (by omega))
          have hvf : v = false := by
            rw [← HV.out, decide_eq_false_iff_not]
            rintro rfl
            exact he rfl
          subst hvf
          clear hcc hx hx' HL HL' he
          go_wp2_with fail
          go_region
          go_wp2_with fail
          go_ret
          exact ⟨rfl, hb.drew⟩
      · have hkn : k = n := by omega
        have hvt : v = true := by
          rw [← HV.out, decide_eq_true_eq]
          have h := HK.out
          rwa [hkn, show xs.take n = xs by rw [← HL.out, List.take_length], show ys.take n = ys by rw [← HL'.out, List.take_length]] at h
        subst hvt
        clear hcc
        go_wp2_with fail
        go_ret
        exact ⟨rfl, hb⟩
  · have hvf : v = false := by
      rw [← HV.out, decide_eq_false_iff_not]
      rintro rfl
      exact hnn (by rw [← HL.out, HL'.out])
    subst hvf
    have hne : ((n : Int) != (n' : Int)) = true := by rw [bne_iff_ne]; omega
    go_enter Try.func31, Try.ntmps31
    go_wp2_with fail
    go_ret
    exact ⟨rfl, Below.refl _ _⟩

theorem refCheck_bad (r : UInt64) (n i : Int) (A P : Option Addr) (m c k d : Nat) (hv : okc n i m = false) (w : World) :
    Calls Try.prog 33 #[u64 r, i64 n, i64 i, .slice A m c, .slice P k d] w fun e w' => e = .returned (.bool false) ∧ w = w' := by
  have hcase : n < 1 ∨ (1 ≤ n ∧ 16 < n) ∨ (1 ≤ n ∧ n ≤ 16 ∧ i < 0) ∨ (1 ≤ n ∧ n ≤ 16 ∧ 0 ≤ i ∧ n ≤ i) ∨ (1 ≤ n ∧ n ≤ 16 ∧ 0 ≤ i ∧ i < n ∧ (256 : Int) < m) := by
    unfold okc at hv
    apply Classical.byContradiction
    intro h
    have : (decide (1 ≤ n) && (decide (n ≤ 16) && (decide (0 ≤ i) && (decide (i < n) && decide (m ≤ 256))))) = true := by
      simp only [Bool.and_eq_true, decide_eq_true_eq]
      omega
    rw [this] at hv
    cases hv
  clear hv
  rcases hcase with h1 | ⟨h1, h2⟩ | ⟨h1, h2, h3⟩ | ⟨h1, h2, h3, h4⟩ | ⟨h1, h2, h3, h4, h5⟩
  all_goals
    go_enter Try.func33, Try.ntmps33
    go_wp2_with fail
    go_ret
    exact ⟨rfl, rfl⟩
end Go.Proofs.Ythaibmkieflafaa.Tr
