/- The reference: how many tokens fit a form. -/
import Derived.Deep.RegionHeld3
import Derived.Deep.QuietTactic
import Derived.BigQuiet
import Derived.Test.YtjfcdfhcmkdicaaGreatDoorPsFits
import Derived.Test.YtjfcdfhcmkdicaaGreatDoorPrA
import Derived.Test.YtjfcdfhcmkdicaaGreatDoorPsD
namespace Go.Proofs.YtjfcdfhcmkdicaaGreatDoor.Ps
open Go.RowKit Go.Proofs.YtjfcdfhcmkdicaaGreatDoor.Lx Go.Proofs.YtjfcdfhcmkdicaaGreatDoor.Pr
set_option linter.unusedVariables false

set_option maxRecDepth 100000 in
set_option maxHeartbeats 2000000 in
theorem match_val (A : Option Addr) (n c : Nat) (ts : List Tok) (a : Nat) (B : Option Addr) (m d B0 : Nat) (ps : List (List UInt8)) (w : World) (hT : Toks w A n c ts) (hS : Strs B0 w B m d ps) (hw : ∀ t ∈ ts, WfP t) (ha : a ≤ n) (hn : n ≤ 2000) (hm : m ≤ 100) :
    Calls Tryz.prog 41 #[.slice A n c, .int .i64 (a : Nat), .slice B m d] w fun e w' => e = .returned (.int .i64 (matchB (ts.drop a) ps : Nat)) ∧ Below w.heap.size w w' := by
  have HT := Lib.hid hT
  have HS := Lib.hid hS
  have HN := Lib.hid hT.2.1
  have HM := Lib.hid hS.2
  have HW := Lib.hid hw
  clear hT hS hw
  go_enter Tryz.func41, Tryz.ntmps41
  go_wp2_with fail
  go_loopw [7] (fun i wr => ∃ k : Nat, k ≤ m ∧ a + k ≤ n ∧ i = i64 (k : Nat) ∧ Hid (matchB (ts.drop a) ps = k + matchB (ts.drop (a + k)) (ps.drop k)) ∧ Hid (Below w.heap.size w wr)) (fun i _ => m - (intOf i).toNat)
  case atStart => exact ⟨0, Nat.zero_le _, by omega, rfl, Lib.hid (by simp), Lib.hid (Below.refl _ _)⟩
  case round =>
    obtain ⟨k, hk, hak, rfl, HK, HB⟩ := hrel
    by_cases h1 : k < m
    · have h1' : (k : Int) < (m : Int) := by omega
      have hkp : k < ps.length := by rw [HM.out]; exact h1
      by_cases h2 : a + k < n
      · have h2' : (a : Int) + (k : Int) < (n : Int) := by omega
        have hkt : a + k < ts.length := by rw [HN.out]; exact h2
        have hww : wrap64 ((a : Int) + (k : Int)) = (a : Int) + (k : Int) := Go.IntWalk.wrap64_in _ (by omega)
        have hTr := HT.out.up HB.out
        obtain ⟨b, off, rfl, hb, hc⟩ := rd_el (dec := decT) (s := 4) (fun _ => rfl) hTr.1 HN.out hkt
        have hSr := own_keep HS.out.1 HB.out
        obtain ⟨SA, sc, hSv, hSg⟩ := own_form hSr
        injection hSv with hS1 _ hS2
        subst hS1 hS2
        obtain ⟨sg, rfl⟩ := hSg (by omega)
        have kc : wr.cell? ⟨sg, k, none⟩ = some (strV ps[k]) := by
          have := hSr.cellAt k (by omega)
          rw [this, List.getElem?_map, List.getElem?_eq_getElem hkp]; rfl
        have hwt := HW.out ts[a + k] (List.getElem_mem hkt)
        have hg := HK.out
        rw [List.drop_eq_getElem_cons hkt, List.drop_eq_getElem_cons hkp] at hg
        have hF := fun W => fits_val ts[a + k] (Nat.le_trans hwt.1.size (by decide)) ps[k] W
        obtain ⟨⟨tk, tx, tn, tp⟩, hx⟩ : ∃ x, ts[a + k] = x := ⟨_, rfl⟩
        rw [hx] at hc hF hg
        obtain ⟨p, hp⟩ : ∃ p, ps[k] = p := ⟨_, rfl⟩
        rw [hp] at kc hF hg
        have c0 := hc 0 _ rfl
        have c1 := hc 1 _ rfl
        have c2 := hc 2 _ rfl
        have c3 := hc 3 _ rfl
        rw [Nat.add_zero] at c0
        unfold tokA at hF
        dsimp only at c0 c1 c2 c3 hF
        unfold strV at kc
        obtain ⟨S, hS⟩ : ∃ S : ByteArray, (⟨p.toArray⟩ : ByteArray) = S := ⟨_, rfl⟩
        rw [hS] at kc hF
        obtain ⟨v, hv⟩ : ∃ v, fitsB ⟨tk, tx, tn, tp⟩ p = v := ⟨_, rfl⟩
        rw [hv] at hF
        simp only [matchB] at hg
        rw [hv] at hg
        have HG := Lib.hid hg
        have hup : ∀ a b, Below wr.heap.size wr a → Below a.heap.size a b → Below wr.heap.size wr b := fun a b h k => below_trans' h k
        have cup : ∀ {p : Addr} {u : Value} {W : World}, wr.cell? p = some u → Below wr.heap.size wr W → W.cell? p = some u := fun hc hb => (hb.cell (Lx.cell_lt hc)).trans hc
        have f0 : ∀ s : WOf (Below wr.heap.size wr), s.w.cell? ⟨b, off + (a + k) * 4, none⟩ = some (.int .i64 (tk : Nat)) := fun s => cup c0 s.ok
        have f1 : ∀ s : WOf (Below wr.heap.size wr), s.w.cell? ⟨b, off + (a + k) * 4 + 1, none⟩ = some (.string tx) := fun s => cup c1 s.ok
        have f2 : ∀ s : WOf (Below wr.heap.size wr), s.w.cell? ⟨b, off + (a + k) * 4 + 2, none⟩ = some (.int .i64 (tn : Nat)) := fun s => cup c2 s.ok
        have f3 : ∀ s : WOf (Below wr.heap.size wr), s.w.cell? ⟨b, off + (a + k) * 4 + 3, none⟩ = some (.int .i64 (tp : Nat)) := fun s => cup c3 s.ok
        have f4 : ∀ s : WOf (Below wr.heap.size wr), s.w.cell? ⟨sg, k, none⟩ = some (.string S) := fun s => cup kc s.ok
        have FV := Lib.hid hF
        have hd2 : decide ((a : Int) + (k : Int) < (n : Int)) = true := decide_eq_true h2'
        have hd1 : decide ((k : Int) < (m : Int)) = true := decide_eq_true h1'
        clear hc hF hg hv hx hp hS c0 c1 c2 c3 kc hwt hTr hSr hkp hkt hb HK
        cases v with
        | true =>
          go_wp2_with fail
          refine wp_region_ext (Below wr.heap.size wr) (Below.refl _ _) hup (by kernel_rfl) (by kernel_rfl) (fun hne => ?_)
          try simp only [List.append_eq, List.cons_append, List.nil_append]
          repeat (go_big_quiet_step (with_reducible exact calls_ext hup (FV.out _)))
          refine wpQuiet_nil ?_
          clear hne
          intro _ hx'
          obtain ⟨⟨wx, hx⟩, hx''⟩ := hx'
          subst hx''
          clear f0 f1 f2 f3 f4 FV
          go_wp2_with fail
          refine ⟨⟨k + 1, by omega, by omega, rfl, Lib.hid ?_, Lib.hid (below_trans' HB.out hx)⟩, ?_⟩
          · have h9 := HG.out
            rw [if_pos trivial] at h9
            rw [h9, show a + (k + 1) = a + k + 1 by omega]; omega
          · simp only [intOf]; omega
        | false =>
          have hz : matchB (ts.drop a) ps = k := by
            have h9 := HG.out
            rw [if_neg (by simp)] at h9
            omega
          have HZ := Lib.hid hz
          clear hz HG
          go_wp2_with fail
          refine wp_region_ext (Below wr.heap.size wr) (Below.refl _ _) hup (by kernel_rfl) (by kernel_rfl) (fun hne => ?_)
          try simp only [List.append_eq, List.cons_append, List.nil_append]
          repeat (go_big_quiet_step (with_reducible exact calls_ext hup (FV.out _)))
          refine wpQuiet_nil ?_
          clear hne
          intro _ hx'
          obtain ⟨⟨wx, hx⟩, hx''⟩ := hx'
          subst hx''
          clear f0 f1 f2 f3 f4 FV
          go_wp2_with fail
          go_ret
          rw [HZ.out]
          exact ⟨rfl, below_trans' HB.out hx⟩
      · have h2' : ¬ (a : Int) + (k : Int) < (n : Int) := by omega
        have hd2 : decide ((a : Int) + (k : Int) < (n : Int)) = false := decide_eq_false h2'
        have hd1 : decide ((k : Int) < (m : Int)) = true := decide_eq_true h1'
        have hww : wrap64 ((a : Int) + (k : Int)) = (a : Int) + (k : Int) := Go.IntWalk.wrap64_in _ (by omega)
        have hz : matchB (ts.drop a) ps = k := by
          rw [HK.out, List.drop_of_length_le (by rw [HN.out]; omega)]
          cases ps.drop k <;> rfl
        have HZ := Lib.hid hz
        have hup : ∀ a b, Below wr.heap.size wr a → Below a.heap.size a b → Below wr.heap.size wr b := fun a b h k => below_trans' h k
        clear hz
        go_wp2_with fail
        refine wp_region_ext (Below wr.heap.size wr) (Below.refl _ _) hup (by kernel_rfl) (by kernel_rfl) (fun hne => ?_)
        try simp only [List.append_eq, List.cons_append, List.nil_append]
        repeat (go_big_quiet_step (fail))
        refine wpQuiet_nil ?_
        clear hne
        intro _ hx'
        obtain ⟨⟨wx, hx⟩, hx''⟩ := hx'
        subst hx''
        go_wp2_with fail
        go_ret
        rw [HZ.out]
        exact ⟨rfl, below_trans' HB.out hx⟩
    · have h1' : ¬ (k : Int) < (m : Int) := by omega
      have hd1 : decide ((k : Int) < (m : Int)) = false := decide_eq_false h1'
      have hz : matchB (ts.drop a) ps = k := by
        rw [HK.out, show ps.drop k = [] from List.drop_of_length_le (by rw [HM.out]; omega)]
        cases ts.drop (a + k) <;> rfl
      have HZ := Lib.hid hz
      have hup : ∀ a b, Below wr.heap.size wr a → Below a.heap.size a b → Below wr.heap.size wr b := fun a b h k => below_trans' h k
      clear hz
      go_wp2_with fail
      refine wp_region_ext (Below wr.heap.size wr) (Below.refl _ _) hup (by kernel_rfl) (by kernel_rfl) (fun hne => ?_)
      try simp only [List.append_eq, List.cons_append, List.nil_append]
      repeat (go_big_quiet_step (fail))
      refine wpQuiet_nil ?_
      clear hne
      intro _ hx'
      obtain ⟨⟨wx, hx⟩, hx''⟩ := hx'
      subst hx''
      go_wp2_with fail
      go_ret
      rw [HZ.out]
      exact ⟨rfl, below_trans' HB.out hx⟩
end Go.Proofs.YtjfcdfhcmkdicaaGreatDoor.Ps
