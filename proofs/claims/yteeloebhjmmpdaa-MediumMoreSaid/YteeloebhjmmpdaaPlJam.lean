/- The walks of plane.Jammed and of the reference's. -/
import Derived.StillTailTactics
import Derived.Test.YteeloebhjmmpdaaPlWalk
namespace Go.Proofs.Yteeloebhjmmpdaa.Pl
open Go.RowKit

theorem jams_val (px py ch asn jx jy jr jch jtil : Int) (v : Bool) (hv : jams ⟨(jx, jy), jr, jch, jtil⟩ (px, py) ch asn = v) (w : World) :
    Calls Try.prog 41 #[.agg #[i64 px, i64 py, i64 ch, i64 asn], .agg #[i64 jx, i64 jy, i64 jr, i64 jch, i64 jtil]] w fun e w' => e = .returned (.bool v) ∧ Below w.heap.size w w' := by
  have hB := ((Below.refl w.heap.size w).alloc (Nat.le_refl _) (.cells #[i64 px, i64 py, i64 ch, i64 asn] 68)).alloc (by simp) (.cells #[i64 jx, i64 jy, i64 jr, i64 jch, i64 jtil] 43)
  have HV := Lib.hid hv; clear hv
  by_cases h1 : jch = ch
  · subst h1
    by_cases h2 : asn < jtil
    · have e : near (jx, jy) (px, py) jr = v := by rw [← HV.out]; unfold jams; simp [h2]
      have E := Lib.hid e; clear e HV
      go_enter Try.func41, Try.ntmps41
      go_wp2_with fail
      refine (near_val _ _ _ _ _ _ E.out _).mono ?_
      rintro e w1 ⟨rfl, hb1⟩
      go_wp2_with fail
      go_ret
      exact ⟨rfl, hB.trans (hb1.mono (by simp <;> omega))⟩
    · have e : v = false := by rw [← HV.out]; unfold jams; simp [h2]
      subst e; clear HV
      go_enter Try.func41, Try.ntmps41
      go_wp2_with fail
      go_ret
      exact ⟨rfl, hB⟩
  · have e : v = false := by rw [← HV.out]; unfold jams; simp [h1]
    subst e; clear HV
    have h1 : (jch == ch) = false := by simpa using h1
    go_enter Try.func41, Try.ntmps41
    go_wp2_with fail
    go_ret
    exact ⟨rfl, hB⟩

theorem jammed_take {l : List Jm} {p : Pt} {ch asn : Int} {k : Nat} (hk : k < l.length) : jammed (l.take (k + 1)) p ch asn = (jammed (l.take k) p ch asn || jams l[k] p ch asn) := by
  unfold jammed
  rw [List.take_succ_eq_append_getElem hk, List.any_append]
  simp
theorem jammed_of {l : List Jm} {p : Pt} {ch asn : Int} {k : Nat} (hk : k < l.length) (h : jams l[k] p ch asn = true) : jammed l p ch asn = true := by
  unfold jammed
  exact List.any_eq_true.2 ⟨_, List.getElem_mem hk, h⟩

theorem idxJam_val (A : Option Addr) (n c B : Nat) (l : List Jm) (px py ch asn : Int) (v : Bool) (hv : jammed l (px, py) ch asn = v) (w : World) (hR : Rd w B 5 A n (l.flatMap decJ)) (hB : B ≤ w.heap.size) (hl : l.length = n) (hn : n ≤ maxLen) :
    Calls Try.prog 50 #[.slice A n c, .func (.func 41) #[.agg #[i64 px, i64 py, i64 ch, i64 asn]] #[]] w fun e w' => ∃ z : Int, e = .returned (i64 z) ∧ (if v then 0 ≤ z else z < 0) ∧ Below w.heap.size w w' := by
  unfold maxLen at hn
  have HV := Lib.hid hv; clear hv
  have HL := Lib.hid hl; clear hl
  go_enter Try.func50, Try.ntmps50
  go_wp2_with fail
  go_loopw [8] (fun i wr => ∃ k : Nat, k ≤ n ∧ i = .int .i64 k ∧ Hid (jammed (l.take k) (px, py) ch asn = false) ∧ Below w.heap.size w wr) (fun i _ => n - (intOf i).toNat)
  case atStart => exact ⟨0, Nat.zero_le _, rfl, rfl, Below.refl _ _⟩
  case round =>
    obtain ⟨k, hk, rfl, HJ, hb⟩ := hrel
    by_cases hlt : k < n
    · have hkl : k < l.length := by have := HL.out; omega
      obtain ⟨b, off, rfl, hbB, hc⟩ := rd_el (dec := decJ) (fun _ => rfl) (hR.below' hb hB) HL.out hkl
      have c0 : wr.cell? ⟨b, off + k * 5, none⟩ = some (i64 l[k].p.1) := hc 0 _ rfl
      have c1 : wr.cell? ⟨b, off + k * 5 + 1, none⟩ = some (i64 l[k].p.2) := hc 1 _ rfl
      have c2 : wr.cell? ⟨b, off + k * 5 + 2, none⟩ = some (i64 l[k].r) := hc 2 _ rfl
      have c3 : wr.cell? ⟨b, off + k * 5 + 3, none⟩ = some (i64 l[k].ch) := hc 3 _ rfl
      have c4 : wr.cell? ⟨b, off + k * 5 + 4, none⟩ = some (i64 l[k].til) := hc 4 _ rfl
      clear hc
      cases hj : jams l[k] (px, py) ch asn
      · have HK : Hid (jammed (l.take (k + 1)) (px, py) ch asn = false) := by
          have := HJ.out
          show _ = _
          rw [jammed_take hkl, this, hj]; rfl
        have Hj := Lib.hid hj; clear hj
        go_wp2_with fail
        refine (jams_val _ _ _ _ _ _ _ _ _ _ Hj.out _).mono ?_
        rintro e w1 ⟨rfl, hb1⟩
        have hb2 := below_trans' hb hb1
        go_wp2_with fail
        go_roundw
        case rel => exact ⟨k + 1, by omega, by go_num, HK, hb2⟩
        case measure => simp [intOf]; omega
      · have hv : v = true := by rw [← HV.out]; exact jammed_of hkl hj
        subst hv
        have Hj := Lib.hid hj; clear hj
        go_wp2_with fail
        refine (jams_val _ _ _ _ _ _ _ _ _ _ Hj.out _).mono ?_
        rintro e w1 ⟨rfl, hb1⟩
        have hb2 := below_trans' hb hb1
        go_wp2_with fail
        go_ret
        exact ⟨_, rfl, by simp, hb2⟩
    · have hv : v = false := by
        rw [← HV.out, ← HJ.out]
        have : k = l.length := by have := HL.out; omega
        rw [this, List.take_length]
      subst hv
      go_wp2_with fail
      go_ret
      exact ⟨_, rfl, by simp, hb⟩

theorem containsJam_val (A : Option Addr) (n c B : Nat) (l : List Jm) (px py ch asn : Int) (v : Bool) (hv : jammed l (px, py) ch asn = v) (w : World) (hR : Rd w B 5 A n (l.flatMap decJ)) (hB : B ≤ w.heap.size) (hl : l.length = n) (hn : n ≤ maxLen) :
    Calls Try.prog 40 #[.slice A n c, .func (.func 41) #[.agg #[i64 px, i64 py, i64 ch, i64 asn]] #[]] w fun e w' => e = .returned (.bool v) ∧ Below w.heap.size w w' := by
  have H := Lib.hid (idxJam_val A n c B l px py ch asn v hv w hR hB hl hn)
  clear hv hR hl
  go_enter Try.func40, Try.ntmps40
  go_wp2_with fail
  refine H.out.mono ?_
  rintro e w1 ⟨z, rfl, hz, hb⟩
  cases v
  · have hz : z < 0 := by simpa using hz
    go_wp2_with fail
    go_ret
    exact ⟨rb (by simp; omega), hb⟩
  · have hz : 0 ≤ z := by simpa using hz
    go_wp2_with fail
    go_ret
    exact ⟨rb (by simp), hb⟩

theorem jammed_val (A : Option Addr) (n c B : Nat) (l : List Jm) (px py ch asn : Int) (v : Bool) (hv : jammed l (px, py) ch asn = v) (w : World) (hR : Rd w B 5 A n (l.flatMap decJ)) (hB : B ≤ w.heap.size) (hl : l.length = n) (hn : n ≤ maxLen) :
    Calls Try.prog 23 #[.slice A n c, .agg #[i64 px, i64 py], i64 ch, i64 asn] w fun e w' => e = .returned (.bool v) ∧ Below w.heap.size w w' := by
  have hB1 := (Below.refl w.heap.size w).alloc (Nat.le_refl _) (.cells #[i64 px, i64 py] 25)
  have HL := Lib.hid hl; clear hl
  have HV := Lib.hid hv; clear hv
  go_enter Try.func23, Try.ntmps23
  go_wp2_with fail
  refine (containsJam_val _ _ _ B l _ _ _ _ _ HV.out _ (hR.below' hB1 hB) (by simp; omega) HL.out hn).mono ?_
  rintro e w1 ⟨rfl, hb⟩
  go_wp2_with fail
  go_ret
  exact ⟨rfl, hB1.trans (hb.mono (by simp))⟩

theorem refJammed_val (A : Option Addr) (n c B : Nat) (l : List Jm) (px py ch asn : Int) (v : Bool) (hv : jammed l (px, py) ch asn = v) (w : World) (hR : Rd w B 5 A n (l.flatMap decJ)) (hB : B ≤ w.heap.size) (hl : l.length = n) (hn : n ≤ maxLen) :
    Calls Try.prog 24 #[.slice A n c, .agg #[i64 px, i64 py], i64 ch, i64 asn] w fun e w' => e = .returned (.bool v) ∧ Below w.heap.size w w' := by
  unfold maxLen at hn
  have hB0 := (Below.refl w.heap.size w).alloc (Nat.le_refl _) (.cells #[i64 px, i64 py] 25)
  have bP := Blk.new w 25 #[i64 px, i64 py]
  have HP := Lib.hid bP; clear bP
  have HV := Lib.hid hv; clear hv
  have HL := Lib.hid hl; clear hl
  go_enter Try.func24, Try.ntmps24
  go_wp2_with fail
  go_loopw [9] (fun i wr => ∃ k : Nat, k ≤ n ∧ i = .int .i64 k ∧ Hid (jammed (l.take k) (px, py) ch asn = false) ∧ Below w.heap.size w wr ∧ Hid (Blk wr w.heap.size 25 #[i64 px, i64 py])) (fun i _ => n - (intOf i).toNat)
  case atStart => exact ⟨0, Nat.zero_le _, rfl, rfl, hB0, HP⟩
  case round =>
    obtain ⟨k, hk, rfl, HJ, hb, HP⟩ := hrel
    by_cases hlt : k < n
    · have hkl : k < l.length := by have := HL.out; omega
      obtain ⟨b, off, rfl, hbB, hc⟩ := rd_el (dec := decJ) (fun _ => rfl) (hR.below' hb hB) HL.out hkl
      have c0 : wr.cell? ⟨b, off + k * 5, none⟩ = some (i64 l[k].p.1) := hc 0 _ rfl
      have c1 : wr.cell? ⟨b, off + k * 5 + 1, none⟩ = some (i64 l[k].p.2) := hc 1 _ rfl
      have c2 : wr.cell? ⟨b, off + k * 5 + 2, none⟩ = some (i64 l[k].r) := hc 2 _ rfl
      have c3 : wr.cell? ⟨b, off + k * 5 + 3, none⟩ = some (i64 l[k].ch) := hc 3 _ rfl
      have c4 : wr.cell? ⟨b, off + k * 5 + 4, none⟩ = some (i64 l[k].til) := hc 4 _ rfl
      have p0 : wr.cell? ⟨w.heap.size, 0, none⟩ = some (i64 px) := HP.out.cell 0
      have p1 : wr.cell? ⟨w.heap.size, 1, none⟩ = some (i64 py) := HP.out.cell 1
      clear hc
      have hbw : b < wr.drew.heap.size := by have := hb.size; simp; omega
      have hstep : jams l[k] (px, py) ch asn = false → Hid (jammed (l.take (k + 1)) (px, py) ch asn = false) := fun hj => by
        have := HJ.out
        show _ = _
        rw [jammed_take hkl, this, hj]; rfl
      cases hn1 : near (l[k].p.1, l[k].p.2) (px, py) l[k].r
      · have HK := hstep (by unfold jams; simp [hn1])
        clear hstep
        have NV := Lib.hid hn1; clear hn1
        go_wp2_with fail
        go_still_tail 11, (by kernel_rfl)
        go_wp2_with fail
        refine (refNear_val _ _ _ _ _ _ NV.out _).mono ?_
        rintro e w1 ⟨rfl, hb1⟩
        have hb2 := below_trans' hb.drew hb1
        have d3 := (hb1.cell (p := ⟨b, off + k * 5 + 3, none⟩) hbw).trans c3
        have d4 := (hb1.cell (p := ⟨b, off + k * 5 + 4, none⟩) hbw).trans c4
        have HP2 := Lib.hid ((Blk.drew HP.out).up' hb1)
        clear c0 c1 c2 c3 c4 p0 p1
        go_wp2_with fail
        go_roundw
        case rel => exact ⟨k + 1, by omega, by go_num, HK, hb2, HP2⟩
        case measure => simp [intOf]; omega
      · by_cases hch : l[k].ch = ch
        · by_cases has : asn < l[k].til
          · have hv : v = true := by rw [← HV.out]; exact jammed_of hkl (by unfold jams; simp [hn1, hch, has])
            subst hv
            clear hstep
            have NV := Lib.hid hn1; clear hn1
            have hch : (l[k].ch == ch) = true := by simpa using hch
            go_wp2_with fail
            go_still_tail 11, (by kernel_rfl)
            go_wp2_with fail
            refine (refNear_val _ _ _ _ _ _ NV.out _).mono ?_
            rintro e w1 ⟨rfl, hb1⟩
            have hb2 := below_trans' hb.drew hb1
            have d3 := (hb1.cell (p := ⟨b, off + k * 5 + 3, none⟩) hbw).trans c3
            have d4 := (hb1.cell (p := ⟨b, off + k * 5 + 4, none⟩) hbw).trans c4
            have HP2 := Lib.hid ((Blk.drew HP.out).up' hb1)
            clear c0 c1 c2 c3 c4 p0 p1
            go_wp2_with fail
            go_ret
            exact ⟨rfl, hb2⟩
          · have HK := hstep (by unfold jams; simp [has])
            clear hstep
            have NV := Lib.hid hn1; clear hn1
            have hch : (l[k].ch == ch) = true := by simpa using hch
            go_wp2_with fail
            go_still_tail 11, (by kernel_rfl)
            go_wp2_with fail
            refine (refNear_val _ _ _ _ _ _ NV.out _).mono ?_
            rintro e w1 ⟨rfl, hb1⟩
            have hb2 := below_trans' hb.drew hb1
            have d3 := (hb1.cell (p := ⟨b, off + k * 5 + 3, none⟩) hbw).trans c3
            have d4 := (hb1.cell (p := ⟨b, off + k * 5 + 4, none⟩) hbw).trans c4
            have HP2 := Lib.hid ((Blk.drew HP.out).up' hb1)
            clear c0 c1 c2 c3 c4 p0 p1
            go_wp2_with fail
            go_roundw
            case rel => exact ⟨k + 1, by omega, by go_num, HK, hb2, HP2⟩
            case measure => simp [intOf]; omega
        · have HK := hstep (by unfold jams; simp [hch])
          clear hstep
          have NV := Lib.hid hn1; clear hn1
          have hch : (l[k].ch == ch) = false := by simpa using hch
          go_wp2_with fail
          go_still_tail 11, (by kernel_rfl)
          go_wp2_with fail
          refine (refNear_val _ _ _ _ _ _ NV.out _).mono ?_
          rintro e w1 ⟨rfl, hb1⟩
          have hb2 := below_trans' hb.drew hb1
          have d3 := (hb1.cell (p := ⟨b, off + k * 5 + 3, none⟩) hbw).trans c3
          have d4 := (hb1.cell (p := ⟨b, off + k * 5 + 4, none⟩) hbw).trans c4
          have HP2 := Lib.hid ((Blk.drew HP.out).up' hb1)
          clear c0 c1 c2 c3 c4 p0 p1
          go_wp2_with fail
          go_roundw
          case rel => exact ⟨k + 1, by omega, by go_num, HK, hb2, HP2⟩
          case measure => simp [intOf]; omega
    · have hv : v = false := by
        rw [← HV.out, ← HJ.out]
        have : k = l.length := by have := HL.out; omega
        rw [this, List.take_length]
      subst hv
      go_wp2_with fail
      go_ret
      exact ⟨rfl, hb⟩
end Go.Proofs.Yteeloebhjmmpdaa.Pl
