/- The reference's Catch over all radios. -/
import Derived.Test.YteeloebhjmmpdaaPlRef
import Derived.Test.YteeloebhjmmpdaaMdOne
namespace Go.Proofs.Yteeloebhjmmpdaa.Md
open Go.RowKit Go.Proofs.Yteeloebhjmmpdaa.Pl
set_option linter.unusedVariables false

theorem info_int : (Try.prog.info? 3).map (fun i => (i.zero, i.size, i.bytes)) = some (some (.int .i64 0), 1, 8) := by kernel_rfl
theorem catl_take_succ (ra : List Ac) (ps : List Pt) (r : Int) (js : List Jm) (asn : Int) (k : Nat) :
    (List.range (k + 1)).map (cat ra ps r js asn) = (List.range k).map (cat ra ps r js asn) ++ [cat ra ps r js asn k] := by
  rw [List.range_succ, List.map_append]; rfl

theorem refMCatch_bad (A : Option Addr) (n c : Nat) (P : Option Addr) (n' d B : Nat) (J : Option Addr) (m e : Nat) (ra : List Ac) (ps : List Pt) (r : Int) (asn : Int) (hv : okm ra ps r asn = false) (w : World)
    (hR : Rd w B 5 A n (ra.flatMap decA)) (hP : Rd w B 2 P n' (ps.flatMap decP)) (hB : B ≤ w.heap.size) (hl : ra.length = n) (hm : ps.length = n') (hn : n ≤ maxLen) (hn' : n' ≤ maxLen) :
    Calls Try.prog 31 #[.slice A n c, .slice P n' d, i64 r, .slice J m e, i64 asn] w fun e w' => e = .returned (.tuple #[.slice none 0 0, i64 1]) ∧ Below w.heap.size w w' := by
  go_enter Try.func31, Try.ntmps31
  go_wp2_with fail
  refine (refMValid_val A n c P n' d B ra ps r asn false hv _ hR hP hB hl hm hn hn').mono ?_
  rintro e w1 ⟨rfl, hb⟩
  go_wp2_with fail
  go_ret2
  exact ⟨rfl, hb⟩

set_option maxRecDepth 100000 in
set_option maxHeartbeats 1000000 in
theorem refMCatch_good (A : Option Addr) (n c : Nat) (P : Option Addr) (d B : Nat) (J : Option Addr) (m e : Nat) (ra : List Ac) (ps : List Pt) (r : Int) (js : List Jm) (asn : Int) (hv : okm ra ps r asn = true) (w : World)
    (hR : Rd w B 5 A n (ra.flatMap decA)) (hP : Rd w B 2 P n (ps.flatMap decP)) (hJ : Rd w B 5 J m (js.flatMap decJ)) (hB : B ≤ w.heap.size) (hl : ra.length = n) (hm : ps.length = n) (hj : js.length = m) (hmm : m ≤ maxLen) :
    Calls Try.prog 31 #[.slice A n c, .slice P n d, i64 r, .slice J m e, i64 asn] w fun e w' => ∃ X k, e = .returned (.tuple #[.slice X n k, i64 0]) ∧ Rd w' w'.heap.size 1 X n ((catl ra ps r js asn).map i64) ∧ Below w.heap.size w w' := by
  have hn : n ≤ 200 := by
    have := hv
    rw [okm_frame, hl, hm] at this
    simp only [Bool.and_eq_true] at this
    exact (frame_true this.1).2.1
  have HV := Lib.hid hv; clear hv
  have HL := Lib.hid hl; clear hl
  have HM := Lib.hid hm; clear hm
  have HJ := Lib.hid hj; clear hj
  obtain ⟨ib, hib, hz0, hz1, hz2⟩ := info_parts info_int
  go_enter Try.func31, Try.ntmps31
  go_wp2_with fail
  refine (refMValid_val A n c P n d B ra ps r asn true HV.out _ hR hP hB HL.out HM.out (by unfold maxLen; omega) (by unfold maxLen; omega)).mono ?_
  rintro e w1 ⟨rfl, hb⟩
  go_wp2_with fail
  go_loopw [12, 13] (fun v i wr => ∃ (k : Nat) (X : Option Addr) (q : Nat), k ≤ n ∧ v = .slice X k q ∧ i = .int .i64 k ∧ Hid (wr.ownsRow w.heap.size 3 1 (.slice X k q) k (((List.range k).map (cat ra ps r js asn)).map i64)) ∧ Below w.heap.size w wr) (fun _ i _ => n - (intOf i).toNat)
  case atStart => exact ⟨0, none, 0, Nat.zero_le _, rfl, rfl, ⟨rfl, .inl ⟨rfl, rfl⟩⟩, hb⟩
  case round =>
    obtain ⟨k, X, q, hk, rfl, rfl, HO, hB1⟩ := hrel
    by_cases hlt : k < n
    · obtain ⟨z, hz⟩ : ∃ z, cat ra ps r js asn k = z := ⟨_, rfl⟩
      go_wp2_with fail
      refine (refOne_val A n c P d B J m _ ra ps r js asn k z hz hlt _ (hR.below' hB1 hB) (hP.below' hB1 hB) (hJ.below' hB1 hB) (Nat.le_trans hB hB1.size) HL.out HM.out HJ.out (by omega) hmm).mono ?_
      rintro e w2 ⟨rfl, hb2⟩
      have hB2 := below_trans' hB1 hb2
      have hO2 := own_keep HO.out hb2
      have HX : Hid (((List.range k).map (cat ra ps r js asn)).map i64 ++ [i64 z] = ((List.range (k + 1)).map (cat ra ps r js asn)).map i64) := by show _ = _; rw [catl_take_succ, hz, List.map_append]; rfl
      have hB3 := hB2.alloc hB2.size (.cells #[i64 z] 3)
      clear hz HO
      go_wp2_with (at_builtin; refine wpList_append_rd _ rfl (.tmp 26) (.tmp 34) _ rfl w.heap.size 3 ib _ 1 8 Try.underlying46 hib hz0 hz1 hz2 rfl (by omega) _ _ _ rfl (hO2.alloc _) _ _ 1 _ _ rfl (Rd.new w2 _ _ _ 1 1 rfl) (by simp [Value.oneCell']) (by simp only [maxLen]; omega) (by omega) hB3.size ?_; intro Yb qb w4 hown2 _ hg2; have hB4 := own_below (hO2.alloc _) hg2 hB3 (Nat.le_refl _) hB3.size; clear hg2; rw [HX.out] at hown2; have HO4 := Lib.hid hown2; clear hown2)
      go_roundw
      case rel => exact ⟨k + 1, _, _, by omega, rfl, by go_num, HO4, hB4⟩
      case measure => simp [intOf]; omega
    · obtain rfl : k = n := by omega
      have HR := Lib.hid (Rd.of_own HO.out)
      have HC : Hid ((List.range k).map (cat ra ps r js asn) = catl ra ps r js asn) := by show _ = _; unfold catl; rw [HL.out]
      clear HO
      go_wp2_with fail
      go_ret2
      exact ⟨_, _, rfl, by rw [← HC.out]; exact HR.out, hB1⟩
end Go.Proofs.Yteeloebhjmmpdaa.Md
