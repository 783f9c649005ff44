/- The reference: are two lists of diagnostics equal? -/
import Derived.Test.YtjfcdfhcmkdicaaDoorPsD
namespace Go.Proofs.YtjfcdfhcmkdicaaDoor.Ps
open Go.RowKit Go.Proofs.YtjfcdfhcmkdicaaDoor.Lx Go.Proofs.YtjfcdfhcmkdicaaDoor.Pr
set_option linter.unusedVariables false

theorem IsDgs.up {w w' : World} {A : Option Addr} {n c : Nat} {l : List (Nat × Nat)} (h : IsDgs w A n c l) (hb : Below w.heap.size w w') : IsDgs w' A n c l :=
  ⟨h.1, h.2.1.up hb, h.2.2.1, h.2.2.2.1, fun x hx => trivial⟩
set_option maxRecDepth 100000 in
set_option maxHeartbeats 1000000 in
theorem sameDiags_val (A : Option Addr) (n c : Nat) (l : List (Nat × Nat)) (B : Option Addr) (m d : Nat) (l' : List (Nat × Nat)) (w : World) (h : IsDgs w A n c l) (g : IsDgs w B m d l') :
    Calls Tryd.prog 21 #[.slice A n c, .slice B m d] w fun e w' => e = .returned (.bool (decide (l = l'))) ∧ Below w.heap.size w w' := by
  have HI := Lib.hid h
  have HJ := Lib.hid g
  have HN := Lib.hid h.1
  have HM := Lib.hid g.1
  have hnm : n ≤ 9223372036854775807 := Nat.le_trans h.2.2.1 (Nat.le_trans h.2.2.2.1 (by decide))
  clear h g
  by_cases hnn : n = m
  · subst hnn
    go_enter Tryd.func21, Tryd.ntmps21
    go_wp2_with fail
    go_loopw [5] (fun i wr => ∃ k : Nat, k ≤ n ∧ i = i64 (k : Nat) ∧ Hid (decide (l = l') = decide (l.drop k = l'.drop k)) ∧ Hid (Below w.heap.size w wr)) (fun i _ => n - (intOf i).toNat)
    case atStart => exact ⟨0, Nat.zero_le _, rfl, Lib.hid rfl, Lib.hid (Below.refl _ _)⟩
    case round =>
      obtain ⟨k, hk, rfl, HG, HB⟩ := hrel
      by_cases hlt : k < n
      · have hlt' : (k : Int) < (n : Int) := by omega
        have hkl : k < l.length := by rw [HN.out]; exact hlt
        have hkm : k < l'.length := by rw [HM.out]; exact hlt
        obtain ⟨b, off, rfl, hb, hc⟩ := rd_el (dec := decD) (s := 2) (fun _ => rfl) (HI.out.up HB.out).2.1 HN.out hkl
        obtain ⟨b', off', rfl, hb', hc'⟩ := rd_el (dec := decD) (s := 2) (fun _ => rfl) (HJ.out.up HB.out).2.1 HM.out hkm
        have hg := HG.out
        rw [List.drop_eq_getElem_cons hkl, List.drop_eq_getElem_cons hkm] at hg
        obtain ⟨⟨x1, x2⟩, hx⟩ : ∃ x, l[k] = x := ⟨_, rfl⟩
        obtain ⟨⟨y1, y2⟩, hy⟩ : ∃ x, l'[k] = x := ⟨_, rfl⟩
        rw [hx] at hc hg
        rw [hy] at hc' hg
        have c0 := hc 0 _ rfl
        have c1 := hc 1 _ rfl
        have d0 := hc' 0 _ rfl
        have d1 := hc' 1 _ rfl
        rw [Nat.add_zero] at c0 d0
        dsimp only at c0 c1 d0 d1
        have HG2 := Lib.hid hg
        have HBd := Lib.hid (below_trans' HB.out (Below.refl _ _).drew)
        clear hb hc hx hy hb' hc' hg HG hkl hkm
        by_cases hxy : x1 = y1 ∧ x2 = y2
        · obtain ⟨rfl, rfl⟩ := hxy
          have hd : decide (l = l') = decide (l.drop (k + 1) = l'.drop (k + 1)) := by rw [HG2.out]; simp
          have HD := Lib.hid hd
          clear hd
          go_wp2_with fail
          go_region
          go_wp2_with fail
          case roundEnd =>
            refine ⟨⟨k + 1, by omega, rfl, HD, HBd⟩, ?_⟩
            simp only [intOf]; omega
        · have hd : decide (l = l') = false := by
            rw [HG2.out, decide_eq_false_iff_not]
            intro q
            injection q with q _
            injection q with q1 q2
            exact hxy ⟨q1, q2⟩
          have HD := Lib.hid hd
          clear hd
          by_cases h1 : x1 = y1
          · have h2 : ¬ (x2 : Int) = (y2 : Int) := fun q => hxy ⟨h1, by omega⟩
            subst h1
            clear hxy
            go_wp2_with fail
            go_region
            go_wp2_with fail
            go_ret
            rw [HD.out]
            exact ⟨rfl, HBd.out⟩
          · have h2 : ¬ (x1 : Int) = (y1 : Int) := by omega
            clear hxy h1
            go_wp2_with fail
            go_region
            go_wp2_with fail
            go_ret
            rw [HD.out]
            exact ⟨rfl, HBd.out⟩
      · have hlt' : ¬ (k : Int) < (n : Int) := by omega
        have hd : decide (l = l') = true := by
          rw [HG.out, List.drop_of_length_le (by rw [HN.out]; omega), List.drop_of_length_le (by rw [HM.out]; omega)]; rfl
        have HD := Lib.hid hd
        clear hd
        go_wp2_with fail
        go_ret
        rw [HD.out]
        exact ⟨rfl, HB.out⟩
  · have hd : decide (l = l') = false := by
      rw [decide_eq_false_iff_not]
      intro q
      have := congrArg List.length q
      rw [HN.out, HM.out] at this
      exact hnn this
    have hne : ((n : Int) != (m : Int)) = true := by rw [bne_iff_ne]; omega
    rw [hd]
    clear hd hnn
    go_enter Tryd.func21, Tryd.ntmps21
    go_wp2_with fail
    go_ret
    exact ⟨rfl, Below.refl _ _⟩
end Go.Proofs.YtjfcdfhcmkdicaaDoor.Ps
