/- The reference's Valid, and the law's own tests. -/
import Derived.Test.YteeloebhjmmpdaaMdWalk
namespace Go.Proofs.Yteeloebhjmmpdaa.Md
open Go.RowKit Go.Proofs.Yteeloebhjmmpdaa.Pl
set_option linter.unusedVariables false

def frame_ok (n m : Nat) (r asn : Int) : Bool := decide (n = m) && decide (n ≤ 200) && decide (0 ≤ r ∧ r ≤ 20000) && decide (0 ≤ asn ∧ asn ≤ 1000000000)
theorem okm_frame (ra : List Ac) (ps : List Pt) (r asn : Int) : okm ra ps r asn = (frame_ok ra.length ps.length r asn && (List.range ra.length).all (okR ra ps)) := rfl
theorem frame_cases {n m : Nat} {r asn : Int} (h : frame_ok n m r asn = false) :
    (((n : Int) != (m : Int)) = true) ∨ (n = m ∧ 200 < n) ∨ (n = m ∧ n ≤ 200 ∧ r < 0) ∨ (n = m ∧ n ≤ 200 ∧ 0 ≤ r ∧ 20000 < r) ∨ (n = m ∧ n ≤ 200 ∧ 0 ≤ r ∧ r ≤ 20000 ∧ asn < 0) ∨ (n = m ∧ n ≤ 200 ∧ 0 ≤ r ∧ r ≤ 20000 ∧ 0 ≤ asn ∧ 1000000000 < asn) := by
  unfold frame_ok at h
  by_cases h1 : n = m
  · right
    by_cases h2 : n ≤ 200
    · right
      by_cases h3 : 0 ≤ r
      · right
        by_cases h4 : r ≤ 20000
        · right
          by_cases h5 : 0 ≤ asn
          · right
            by_cases h6 : asn ≤ 1000000000
            · simp [h1, h3, h4, h5, h6] at h
              omega
            · exact ⟨h1, h2, h3, h4, h5, by omega⟩
          · exact .inl ⟨h1, h2, h3, h4, by omega⟩
        · exact .inl ⟨h1, h2, h3, by omega⟩
      · exact .inl ⟨h1, h2, by omega⟩
    · exact .inl ⟨h1, by omega⟩
  · left
    rw [bne_iff_ne]; omega
theorem frame_true {n m : Nat} {r asn : Int} (h : frame_ok n m r asn = true) : n = m ∧ n ≤ 200 ∧ 0 ≤ r ∧ r ≤ 20000 ∧ 0 ≤ asn ∧ asn ≤ 1000000000 := by
  unfold frame_ok at h
  simp only [Bool.and_eq_true, decide_eq_true_eq] at h
  omega
theorem all_range_succ (f : Nat → Bool) (k : Nat) : (List.range (k + 1)).all f = ((List.range k).all f && f k) := by
  rw [List.range_succ, List.all_append]; simp
theorem all_range_of {f : Nat → Bool} {n k : Nat} (hk : k < n) (h : f k = false) : (List.range n).all f = false := by
  rw [List.all_eq_false]
  exact ⟨k, List.mem_range.2 hk, by simp [h]⟩
theorem okA_cases (a : Ac) : (a.act < 0 ∧ okA a = false) ∨ (2 < a.act ∧ okA a = false) ∨ (a.act = 0 ∧ okA a = true) ∨ ((a.act = 1 ∨ a.act = 2) ∧ a.ch < 0 ∧ okA a = false) ∨ ((a.act = 1 ∨ a.act = 2) ∧ 16 ≤ a.ch ∧ okA a = false) ∨ ((a.act = 1 ∨ a.act = 2) ∧ 0 ≤ a.ch ∧ a.ch < 16 ∧ okA a = true) := by
  obtain ⟨act, ch, st, lo, hi⟩ := a
  unfold okA
  dsimp only
  by_cases h1 : act < 0
  · exact .inl ⟨h1, by simp; omega⟩
  · by_cases h2 : 2 < act
    · exact .inr (.inl ⟨h2, by simp; omega⟩)
    · by_cases h3 : act = 0
      · exact .inr (.inr (.inl ⟨h3, by simp [h3]⟩))
      · have h4 : act = 1 ∨ act = 2 := by omega
        by_cases h5 : ch < 0
        · exact .inr (.inr (.inr (.inl ⟨h4, h5, by simp; omega⟩)))
        · by_cases h6 : 16 ≤ ch
          · exact .inr (.inr (.inr (.inr (.inl ⟨h4, h6, by simp; omega⟩))))
          · exact .inr (.inr (.inr (.inr (.inr ⟨h4, by omega, by omega, by simp; omega⟩))))

theorem getD_of' {α : Type} {l : List α} {i : Nat} (h : i < l.length) (d : α) : l.getD i d = l[i] := by
  rw [List.getD_eq_getElem?_getD, List.getElem?_eq_getElem h]; rfl

set_option maxRecDepth 100000 in
set_option maxHeartbeats 2000000 in
theorem refMValid_val (A : Option Addr) (n c : Nat) (P : Option Addr) (m d B : Nat) (ra : List Ac) (ps : List Pt) (r asn : Int) (v : Bool) (hv : okm ra ps r asn = v) (w : World)
    (hR : Rd w B 5 A n (ra.flatMap decA)) (hP : Rd w B 2 P m (ps.flatMap decP)) (hB : B ≤ w.heap.size) (hl : ra.length = n) (hm : ps.length = m) (hn : n ≤ maxLen) (hm' : m ≤ maxLen) :
    Calls Try.prog 46 #[.slice A n c, .slice P m d, i64 r, i64 asn] w fun e w' => e = .returned (.bool v) ∧ Below w.heap.size w w' := by
  unfold maxLen at hn hm'
  rw [okm_frame, hl, hm] at hv
  cases hf : frame_ok n m r asn
  · obtain rfl : v = false := by rw [← hv, hf]; rfl
    clear hv
    have hc := frame_cases hf
    clear hf hl hm hR hP
    rcases hc with h | ⟨rfl, h⟩ | ⟨rfl, h1, h⟩ | ⟨rfl, h1, h2, h⟩ | ⟨rfl, h1, h2, h3, h⟩ | ⟨rfl, h1, h2, h3, h4, h⟩
    all_goals
      go_enter Try.func46, Try.ntmps46
      go_wp2_with fail
      go_ret
      exact ⟨rfl, Below.refl _ _⟩
  · rw [hf, Bool.true_and] at hv
    obtain ⟨rfl, h1, h2, h3, h4, h5⟩ := frame_true hf
    clear hf
    have HL := Lib.hid hl; clear hl
    have HM := Lib.hid hm; clear hm
    have HV := Lib.hid hv; clear hv
    go_enter Try.func46, Try.ntmps46
    go_wp2_with fail
    go_loopw [9] (fun i wr => ∃ k : Nat, k ≤ n ∧ i = .int .i64 k ∧ Hid ((List.range k).all (okR ra ps) = true) ∧ Below w.heap.size w wr) (fun i _ => n - (intOf i).toNat)
    case atStart => exact ⟨0, Nat.zero_le _, rfl, rfl, Below.refl _ _⟩
    case round =>
      obtain ⟨k, hk, rfl, HA, hb1⟩ := hrel
      by_cases hlt : k < n
      · have hkl : k < ra.length := by have := HL.out; omega
        have hkp : k < ps.length := by have := HM.out; omega
        obtain ⟨b, off, rfl, hb, hc1⟩ := rd_el (dec := decA) (fun _ => rfl) (hR.below' hb1 hB) HL.out hkl
        obtain ⟨q, qo, rfl, hq, hc3⟩ := rd_el (dec := decP) (fun _ => rfl) (hP.below' hb1 hB) HM.out hkp
        have hok : okR ra ps k = (okA ra[k] && vp ps[k]) := by unfold okR; rw [getD_of' hkl, getD_of' hkp]
        obtain ⟨⟨sa, sc, ss, sl, sh⟩, es⟩ : ∃ a, ra[k] = a := ⟨_, rfl⟩
        obtain ⟨⟨px, py⟩, ep⟩ : ∃ a, ps[k] = a := ⟨_, rfl⟩
        rw [es] at hc1 hok
        rw [ep] at hc3 hok
        clear es ep
        have c0 : wr.cell? ⟨b, off + k * 5, none⟩ = some (i64 sa) := hc1 0 _ rfl
        have c1 : wr.cell? ⟨b, off + k * 5 + 1, none⟩ = some (i64 sc) := hc1 1 _ rfl
        have c2 : wr.cell? ⟨b, off + k * 5 + 2, none⟩ = some (i64 ss) := hc1 2 _ rfl
        have c3 : wr.cell? ⟨b, off + k * 5 + 3, none⟩ = some (i64 sl) := hc1 3 _ rfl
        have c4 : wr.cell? ⟨b, off + k * 5 + 4, none⟩ = some (i64 sh) := hc1 4 _ rfl
        have d0 : wr.cell? ⟨q, qo + k * 2, none⟩ = some (i64 px) := hc3 0 _ rfl
        have d1 : wr.cell? ⟨q, qo + k * 2 + 1, none⟩ = some (i64 py) := hc3 1 _ rfl
        have b0 := Blk.new wr 55 #[i64 sa, i64 sc, i64 ss, i64 sl, i64 sh]
        have hB1 := hb1.alloc hb1.size (.cells #[i64 sa, i64 sc, i64 ss, i64 sl, i64 sh] 55)
        have hs1 : b < wr.heap.size := by have := hb1.size; omega
        have hs2 : q < wr.heap.size := by have := hb1.size; omega
        have B0 := Lib.hid b0; clear b0
        clear hc1 hc3
        cases hp : vp (px, py)
        · have hvf : v = false := by rw [← HV.out]; exact all_range_of hlt (by rw [hok, hp]; simp)
          subst hvf
          have HP := Lib.hid hp; clear hp hok
          go_wp2_with fail
          refine (refValid_val _ _ _ HP.out _).mono ?_
          rintro e w1 ⟨rfl, hb2⟩
          go_wp2_with fail
          go_ret
          exact ⟨rfl, hB1.trans (hb2.mono (by have := hb1.size; simp; omega))⟩
        · have HP := Lib.hid hp
          have hca := okA_cases ⟨sa, sc, ss, sl, sh⟩
          dsimp only at hca
          rw [hp, Bool.and_true] at hok
          clear hp
          have HO := Lib.hid hok; clear hok
          rcases hca with ⟨t1, t2⟩ | ⟨t1, t2⟩ | ⟨t1, t2⟩ | ⟨t1, t3, t2⟩ | ⟨t1, t3, t2⟩ | ⟨t1, t3, t4, t2⟩
          · obtain rfl : v = false := by rw [← HV.out]; exact all_range_of hlt (by rw [HO.out, t2])
            clear t2
            go_wp2_with fail
            refine (refValid_val _ _ _ HP.out _).mono ?_
            rintro e w1 ⟨rfl, hb2⟩
            have f0 : w1.cell? ⟨wr.heap.size, 0, none⟩ = some (i64 sa) := (B0.out.up' hb2).cell 0
            have f1 : w1.cell? ⟨wr.heap.size, 1, none⟩ = some (i64 sc) := (B0.out.up' hb2).cell 1
            have hB2 := hB1.trans (hb2.mono (by have := hb1.size; simp; omega))
            clear c0 c1 c2 c3 c4 d0 d1
            go_wp2_with fail
            go_ret
            exact ⟨rfl, hB2⟩
          · obtain rfl : v = false := by rw [← HV.out]; exact all_range_of hlt (by rw [HO.out, t2])
            clear t2
            have t5 : ¬ sa < 0 := by omega
            go_wp2_with fail
            refine (refValid_val _ _ _ HP.out _).mono ?_
            rintro e w1 ⟨rfl, hb2⟩
            have f0 : w1.cell? ⟨wr.heap.size, 0, none⟩ = some (i64 sa) := (B0.out.up' hb2).cell 0
            have f1 : w1.cell? ⟨wr.heap.size, 1, none⟩ = some (i64 sc) := (B0.out.up' hb2).cell 1
            have hB2 := hB1.trans (hb2.mono (by have := hb1.size; simp; omega))
            clear c0 c1 c2 c3 c4 d0 d1
            go_wp2_with fail
            go_ret
            exact ⟨rfl, hB2⟩
          · subst t1
            have HN : Hid ((List.range (k + 1)).all (okR ra ps) = true) := by show _ = _; rw [all_range_succ, HA.out, HO.out, t2]; rfl
            clear t2
            go_wp2_with fail
            refine (refValid_val _ _ _ HP.out _).mono ?_
            rintro e w1 ⟨rfl, hb2⟩
            have f0 : w1.cell? ⟨wr.heap.size, 0, none⟩ = some (i64 0) := (B0.out.up' hb2).cell 0
            have f1 : w1.cell? ⟨wr.heap.size, 1, none⟩ = some (i64 sc) := (B0.out.up' hb2).cell 1
            have hB2 := hB1.trans (hb2.mono (by have := hb1.size; simp; omega))
            clear c0 c1 c2 c3 c4 d0 d1
            go_wp2_with fail
            go_roundw
            case rel => exact ⟨k + 1, by omega, by go_num, HN, hB2⟩
            case measure => simp [intOf]; omega
          · rcases t1 with rfl | rfl
            · obtain rfl : v = false := by rw [← HV.out]; exact all_range_of hlt (by rw [HO.out, t2])
              clear t2
              go_wp2_with fail
              refine (refValid_val _ _ _ HP.out _).mono ?_
              rintro e w1 ⟨rfl, hb2⟩
              have f0 : w1.cell? ⟨wr.heap.size, 0, none⟩ = some (i64 1) := (B0.out.up' hb2).cell 0
              have f1 : w1.cell? ⟨wr.heap.size, 1, none⟩ = some (i64 sc) := (B0.out.up' hb2).cell 1
              have hB2 := hB1.trans (hb2.mono (by have := hb1.size; simp; omega))
              clear c0 c1 c2 c3 c4 d0 d1
              go_wp2_with fail
              go_ret
              exact ⟨rfl, hB2⟩
            · obtain rfl : v = false := by rw [← HV.out]; exact all_range_of hlt (by rw [HO.out, t2])
              clear t2
              go_wp2_with fail
              refine (refValid_val _ _ _ HP.out _).mono ?_
              rintro e w1 ⟨rfl, hb2⟩
              have f0 : w1.cell? ⟨wr.heap.size, 0, none⟩ = some (i64 2) := (B0.out.up' hb2).cell 0
              have f1 : w1.cell? ⟨wr.heap.size, 1, none⟩ = some (i64 sc) := (B0.out.up' hb2).cell 1
              have hB2 := hB1.trans (hb2.mono (by have := hb1.size; simp; omega))
              clear c0 c1 c2 c3 c4 d0 d1
              go_wp2_with fail
              go_ret
              exact ⟨rfl, hB2⟩
          · rcases t1 with rfl | rfl
            · obtain rfl : v = false := by rw [← HV.out]; exact all_range_of hlt (by rw [HO.out, t2])
              clear t2
              have t5 : ¬ sc < 0 := by omega
              go_wp2_with fail
              refine (refValid_val _ _ _ HP.out _).mono ?_
              rintro e w1 ⟨rfl, hb2⟩
              have f0 : w1.cell? ⟨wr.heap.size, 0, none⟩ = some (i64 1) := (B0.out.up' hb2).cell 0
              have f1 : w1.cell? ⟨wr.heap.size, 1, none⟩ = some (i64 sc) := (B0.out.up' hb2).cell 1
              have hB2 := hB1.trans (hb2.mono (by have := hb1.size; simp; omega))
              clear c0 c1 c2 c3 c4 d0 d1
              go_wp2_with fail
              go_ret
              exact ⟨rfl, hB2⟩
            · obtain rfl : v = false := by rw [← HV.out]; exact all_range_of hlt (by rw [HO.out, t2])
              clear t2
              have t5 : ¬ sc < 0 := by omega
              go_wp2_with fail
              refine (refValid_val _ _ _ HP.out _).mono ?_
              rintro e w1 ⟨rfl, hb2⟩
              have f0 : w1.cell? ⟨wr.heap.size, 0, none⟩ = some (i64 2) := (B0.out.up' hb2).cell 0
              have f1 : w1.cell? ⟨wr.heap.size, 1, none⟩ = some (i64 sc) := (B0.out.up' hb2).cell 1
              have hB2 := hB1.trans (hb2.mono (by have := hb1.size; simp; omega))
              clear c0 c1 c2 c3 c4 d0 d1
              go_wp2_with fail
              go_ret
              exact ⟨rfl, hB2⟩
          · rcases t1 with rfl | rfl
            · have HN : Hid ((List.range (k + 1)).all (okR ra ps) = true) := by show _ = _; rw [all_range_succ, HA.out, HO.out, t2]; rfl
              clear t2
              go_wp2_with fail
              refine (refValid_val _ _ _ HP.out _).mono ?_
              rintro e w1 ⟨rfl, hb2⟩
              have f0 : w1.cell? ⟨wr.heap.size, 0, none⟩ = some (i64 1) := (B0.out.up' hb2).cell 0
              have f1 : w1.cell? ⟨wr.heap.size, 1, none⟩ = some (i64 sc) := (B0.out.up' hb2).cell 1
              have hB2 := hB1.trans (hb2.mono (by have := hb1.size; simp; omega))
              clear c0 c1 c2 c3 c4 d0 d1
              go_wp2_with fail
              go_roundw
              case rel => exact ⟨k + 1, by omega, by go_num, HN, hB2⟩
              case measure => simp [intOf]; omega
            · have HN : Hid ((List.range (k + 1)).all (okR ra ps) = true) := by show _ = _; rw [all_range_succ, HA.out, HO.out, t2]; rfl
              clear t2
              go_wp2_with fail
              refine (refValid_val _ _ _ HP.out _).mono ?_
              rintro e w1 ⟨rfl, hb2⟩
              have f0 : w1.cell? ⟨wr.heap.size, 0, none⟩ = some (i64 2) := (B0.out.up' hb2).cell 0
              have f1 : w1.cell? ⟨wr.heap.size, 1, none⟩ = some (i64 sc) := (B0.out.up' hb2).cell 1
              have hB2 := hB1.trans (hb2.mono (by have := hb1.size; simp; omega))
              clear c0 c1 c2 c3 c4 d0 d1
              go_wp2_with fail
              go_roundw
              case rel => exact ⟨k + 1, by omega, by go_num, HN, hB2⟩
              case measure => simp [intOf]; omega
      · obtain rfl : k = n := by omega
        obtain rfl : v = true := by rw [← HV.out]; exact HA.out
        go_wp2_with fail
        go_ret
        exact ⟨rfl, hb1⟩
end Go.Proofs.Yteeloebhjmmpdaa.Md
