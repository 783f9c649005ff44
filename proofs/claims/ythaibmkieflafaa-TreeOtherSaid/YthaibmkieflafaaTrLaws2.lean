/- The laws TreeProofs, TreeLength. -/
import Derived.Test.YthaibmkieflafaaTrPlain3
import Derived.Test.YthaibmkieflafaaTrLaws
namespace Go.Proofs.Ythaibmkieflafaa.Tr
open Go.RowKit Go.Proofs.Ythaibmkieflafaa.Dig
set_option linter.unusedVariables false

theorem okp_len {l : List Pg} (h : okp l = true) {p : Pg} (hp : p ∈ l) : p.n ≤ 256 := by
  unfold okp at h
  simp only [Bool.and_eq_true, decide_eq_true_eq, List.all_eq_true] at h
  exact h.2.2 p hp
theorem lvs_getD {l : List Pg} {k : Nat} (hk : k < l.length) : (lvs l).getD k 0 = leaf l[k].b := by
  unfold lvs
  rw [List.getD_eq_getElem?_getD, List.getElem?_map, List.getElem?_eq_getElem hk]
  rfl
theorem chk_ok {w : World} {B : Nat} {A : Option Addr} {n : Nat} {l : List Pg} (hR : Pgs w B A n l) (h : okp l = true) (k : Nat) (hk : k < l.length) : checkv (top (lvs l)) (n : Nat) (k : Nat) l[k].b (prf (lvs l) k) = true := by
  obtain ⟨h1, h2⟩ := okp_le h
  have hp : l[k] ∈ l := List.getElem_mem hk
  have hl := (hR.2 _ hp).len
  have h3 := okp_len h hp
  have hn := hR.len
  have hu := up_prf (lvs l) k (by rw [lvs_length]; exact hk)
  rw [lvs_getD hk, lvs_length, hn] at hu
  unfold checkv okc
  rw [hl]
  simp only [Int.toNat_natCast, hu]
  simp
  omega

set_option maxRecDepth 100000 in
set_option maxHeartbeats 2000000 in
theorem treeProofs_walk (A : Option Addr) (n c : Nat) (l : List Pg) (W : World) (g0 : IsPages W A n c l) :
    Calls Try.prog 11 #[.slice A n c] W fun e w' => e = .returned (.bool true) ∧ Below W.heap.size W w' := by
  obtain ⟨hR, hnc, hcm, _⟩ := g0
  have HR := Lib.hid hR; clear hR
  have hn : n ≤ maxLen := by omega
  have hn' : n ≤ 9223372036854775807 := by unfold maxLen at hn; omega
  go_enter Try.func11, Try.ntmps11
  go_wp2_with fail
  refine (head_val _).mono ?_
  rintro e w1 ⟨rfl, hb1⟩
  go_wp2_with fail
  go_loopw [12] (fun i wr => ∃ k : Nat, k ≤ n ∧ i = .int .i64 k ∧ Below W.heap.size W wr) (fun i _ => n - (intOf i).toNat)
  case atStart => exact ⟨0, Nat.zero_le _, rfl, hb1⟩
  case round =>
    obtain ⟨k, hk, rfl, hB⟩ := hrel
    by_cases hlt : k < n
    · have hRk := Lib.hid (HR.out.up hB)
      obtain ⟨pk, hpk⟩ : ∃ pk : UInt8, (k : Int) % 256 = (pk.toNat : Int) ∧ pk.toNat = k % 256 := ⟨UInt8.ofNat k, by simp, by simp⟩
      have HPk := Lib.hid hpk.1
      have hpk2 := hpk.2
      clear hpk
      go_wp2_with fail
      rw [HPk.out]
      refine (proved_val A n c l pk wr hRk.out hn).mono ?_
      rintro e w2 ⟨hb2, rfl | ⟨hok, X, m, q, rfl, hm, hX, h1, h2⟩⟩
      · have hB2 := below_trans' hB hb2
        go_wp2_with fail
        go_ret
        exact ⟨rfl, hB2⟩
      · have hB2 := below_trans' hB hb2
        have hn16 := (okp_le hok).2
        rw [HR.out.len] at hn16
        have hpn : pk.toNat % n = k := by rw [hpk2, Nat.mod_eq_of_lt (show k < 256 by omega), Nat.mod_eq_of_lt hlt]
        rw [hpn] at hm hX
        rw [hpn]
        have HX := Lib.hid hX
        have hR2 := Lib.hid (hRk.out.up hb2)
        obtain ⟨b, off, rfl, hbB, hkl, hc⟩ := hR2.out.at_ hlt
        have HI := Lib.hid (hR2.out.2 l[k] (List.getElem_mem hkl))
        have HC := Lib.hid (chk_ok HR.out hok k hkl)
        clear hm hX hpn hpk2 HPk
        have hmm : m ≤ maxLen := by omega
        go_wp2_with fail
        refine (check_any _ _ _ _ _ _ _ _ _ l[k].b (prf (lvs l) k) true HC.out w2 HI.out.1 HX.out HI.out.2 h1 h2).mono ?_
        rintro e w3 ⟨rfl, hb3⟩
        have hB3 := below_trans' hB2 hb3
        go_wp2_with fail
        go_roundw
        case rel => exact ⟨k + 1, by omega, by go_num, hB3⟩
        case measure => simp [intOf]; omega
    · go_wp2_with fail
      go_ret
      exact ⟨rfl, hB⟩

set_option maxRecDepth 100000 in
set_option maxHeartbeats 2000000 in
theorem treeLength_walk (A : Option Addr) (n c : Nat) (l : List Pg) (pk : UInt8) (W : World) (g0 : IsPages W A n c l) :
    Calls Try.prog 15 #[.slice A n c, ub pk] W fun e w' => e = .returned (.bool true) ∧ Below W.heap.size W w' := by
  obtain ⟨hR, hnc, hcm, _⟩ := g0
  have HR := Lib.hid hR; clear hR
  have hn : n ≤ maxLen := by omega
  go_enter Try.func15, Try.ntmps15
  go_wp2_with fail
  refine (head_val _).mono ?_
  rintro e w1 ⟨rfl, hb1⟩
  have hR1 := Lib.hid (HR.out.up hb1)
  go_wp2_with fail
  refine (proved_val A n c l pk w1 hR1.out hn).mono ?_
  rintro e w2 ⟨hb2, rfl | ⟨hok, X, m, q, rfl, hm, hX, h1, h2⟩⟩
  · have hB2 := below_trans' hb1 hb2
    go_wp2_with fail
    go_ret
    exact ⟨rfl, hB2⟩
  · have hB2 := below_trans' hb1 hb2
    obtain ⟨hn1, hn16⟩ := okp_le hok
    rw [HR.out.len] at hn1 hn16
    have hlt : pk.toNat % n < n := Nat.mod_lt _ (by omega)
    obtain ⟨i, hi⟩ : ∃ i, pk.toNat % n = i := ⟨_, rfl⟩
    rw [hi] at hm hX hlt
    rw [hi]
    have hmw : m = want n i := by rw [hm, prf_length, lvs_length, HR.out.len]
    have hw4 : want n i ≤ 4 := want_pow 4 n i (by omega)
    clear hi hX hm
    have HM := Lib.hid hmw; clear hmw
    go_wp2_with fail
    go_loop [10, 11, 12] (fun a b s => ∃ ak ik nk : Nat, a = i64 (ak : Nat) ∧ b = i64 (ik : Nat) ∧ s = i64 (nk : Nat) ∧ ak ≤ 40 - nk ∧ 1 ≤ nk ∧ nk ≤ 16 ∧ ik < nk ∧ Hid (want n i = ak + want nk ik)) (fun _ _ s => (intOf s).toNat)
    case atStart => exact ⟨0, i, n, rfl, rfl, rfl, by omega, hn1, hn16, hlt, by show _ = _; omega⟩
    case round =>
      obtain ⟨ak, ik, nk, rfl, rfl, rfl, hak, hnk1, hnk, hik, HW⟩ := hrel
      by_cases h1 : nk ≤ 1
      · have h1' : ((nk : Nat) : Int) ≤ 1 := by omega
        have hE : ak = want n i := by rw [HW.out, want_one h1]; omega
        have hma : ((m : Int) == (ak : Int)) = true := by rw [beq_iff_eq, HM.out, hE]
        have ha4 : (ak : Int) ≤ 4 := by omega
        have hi0 : (0 : Int) ≤ (i : Int) := by omega
        clear hE
        go_wp2_with fail
        go_ret
        exact ⟨rfl, hB2⟩
      · have h1' : (1 : Int) < ((nk : Nat) : Int) := by omega
        have ht := sib_test hik
        by_cases he : nk % 2 = 0
        · have hs : sib ik < nk := by
            rw [← decide_eq_true_eq (p := sib ik < nk), ht]; simp [he]
          have HE : Hid (want n i = (ak + 1) + want ((nk + 1) / 2) (ik / 2)) := by show _ = _; rw [HW.out, want_more h1, if_pos hs]; omega
          have he' : (((nk : Int) % 2) == 0) = true := by rw [beq_iff_eq]; omega
          clear ht
          go_wp2_with fail
          go_round
          case rel => exact ⟨ak + 1, ik / 2, (nk + 1) / 2, by go_num, by go_num, by go_num, by omega, by omega, by omega, by omega, HE⟩
          case measure => simp [intOf]; omega
        · have he' : (((nk : Int) % 2) == 0) = false := by rw [beq_eq_false_iff_ne]; omega
          by_cases hl : ik = nk - 1
          · have hs : ¬ sib ik < nk := by
              rw [← decide_eq_true_eq (p := sib ik < nk), ht]; simp [he, hl]
            have HE : Hid (want n i = ak + want ((nk + 1) / 2) (ik / 2)) := by show _ = _; rw [HW.out, want_more h1, if_neg hs]; omega
            have hl' : ((ik : Int) != (nk : Int) - 1) = false := by rw [bne_eq_false_iff_eq]; omega
            clear ht
            go_wp2_with fail
            go_round
            case rel => exact ⟨ak, ik / 2, (nk + 1) / 2, rfl, by go_num, by go_num, by omega, by omega, by omega, by omega, HE⟩
            case measure => simp [intOf]; omega
          · have hs : sib ik < nk := by
              rw [← decide_eq_true_eq (p := sib ik < nk), ht]; simp [hl]
            have HE : Hid (want n i = (ak + 1) + want ((nk + 1) / 2) (ik / 2)) := by show _ = _; rw [HW.out, want_more h1, if_pos hs]; omega
            have hl' : ((ik : Int) != (nk : Int) - 1) = true := by rw [bne_iff_ne]; omega
            clear ht
            go_wp2_with fail
            go_round
            case rel => exact ⟨ak + 1, ik / 2, (nk + 1) / 2, by go_num, by go_num, by go_num, by omega, by omega, by omega, by omega, HE⟩
            case measure => simp [intOf]; omega
end Go.Proofs.Ythaibmkieflafaa.Tr
