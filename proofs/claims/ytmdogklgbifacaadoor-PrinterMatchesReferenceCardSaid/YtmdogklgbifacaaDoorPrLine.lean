/- The reference's Line. -/
import Derived.Deep.RegionHeld3
import Derived.Deep.QuietTactic
import Derived.BigQuiet
import Derived.Test.YtmdogklgbifacaaDoorExt
import Derived.Test.YtmdogklgbifacaaDoorPrPlain
import Derived.Test.YtmdogklgbifacaaDoorPrParts
namespace Go.Proofs.YtmdogklgbifacaaDoor.Pr
open Go.RowKit Go.Proofs.YtmdogklgbifacaaDoor.Lx
set_option linter.unusedVariables false

/-- The text of a number that is not negative. -/
def numL (v : Int) : List UInt8 := Lib.decDigits (max 0 v).toNat
theorem numL_pos {v : Int} (h : 0 ≤ v) : numL v = dg v := by
  unfold numL dg
  rw [show (max 0 v).toNat = v.natAbs by omega]
theorem numL_len {v : Int} (h : v ≤ 1000000000) : (numL v).length ≤ 21 := dec_len (by omega)
set_option maxRecDepth 100000 in
set_option maxHeartbeats 4000000 in
theorem line_val (x : Cm) (w : World) (hx : Cm.In w x) (ho : OkC x.kind x.name x.ns) :
    Calls Tryd.prog 24 #[.agg #[.int .i64 x.kind, .string x.name, .slice x.A x.n x.c, .int .i64 x.pos]] w fun e w' => e = .returned (.string ⟨(lineL x.kind x.name.data.toList x.ns).toArray⟩) ∧ Below w.heap.size w w' := by
  obtain ⟨k, nm, A, n, c, ns, p⟩ := x
  obtain ⟨i0, hi, hz0, hz1, hz2⟩ := info_parts info_str
  have HX := Lib.hid hx
  have HO := Lib.hid ho
  have hn := hx.len
  dsimp only at hn ho
  have hn6 : n ≤ 6 := by
    have h1 := ho.len
    have h2 := ho.kind
    rcases h2 with rfl | rfl | rfl | rfl | rfl | rfl | rfl | rfl | rfl | rfl | rfl <;> simp [shapeOf] at h1 <;> omega
  have HLN := Lib.hid hn
  have hnm12 : nm.size ≤ 12 := ho.name12
  have HB0 : Hid (Below w.heap.size w (w.alloc (.cells #[.int .i64 k, .string nm, .slice A n c, .int .i64 p] 46))) := Lib.hid ((Below.refl _ w).alloc (Nat.le_refl _) _)
  have BX : Hid (Blk (w.alloc (.cells #[.int .i64 k, .string nm, .slice A n c, .int .i64 p] 46)) w.heap.size 46 #[.int .i64 k, .string nm, .slice A n c, .int .i64 p]) := Lib.hid (Blk.new w _ _)
  clear hx hn ho
  go_enter Tryd.func24, Tryd.ntmps24
  go_wp2_with fail
  obtain ⟨w0, hw0⟩ : ∃ w0, w.alloc (.cells #[.int .i64 k, .string nm, .slice A n c, .int .i64 p] 46) = w0 := ⟨_, rfl⟩
  rw [hw0] at BX HB0 ⊢
  have hs0 : w0.heap.size = w.heap.size + 1 := by rw [← hw0]; simp
  have HS0 := Lib.hid hs0
  clear hw0 hs0
  go_loopw [3, 4] (fun o i wr => ∃ (j c2 : Nat) (A2 : Option Addr), j ≤ n ∧ o = .slice A2 j c2 ∧ i = i64 (j : Nat) ∧ Hid (Strs w0.heap.size wr A2 j c2 ((ns.take j).map numL)) ∧ Below w0.heap.size w0 wr) (fun _ i _ => n - (intOf i).toNat)
  case atStart => exact ⟨0, 0, none, Nat.zero_le _, rfl, rfl, Lib.hid ⟨World.ownsRow_nil _ _ _ _, rfl⟩, Below.refl _ _⟩
  case round =>
    obtain ⟨j, c2, A2, hj, rfl, rfl, HS, hB⟩ := hrel
    have HB := Lib.hid hB
    clear hB
    have BXr := Lib.hid (BX.out.up' HB.out)
    have k0 : wr.cell? ⟨w.heap.size, 0, none⟩ = some (.int .i64 k) := BXr.out.cell 0
    have k1 : wr.cell? ⟨w.heap.size, 1, none⟩ = some (.string nm) := BXr.out.cell 1
    have k2 : wr.cell? ⟨w.heap.size, 2, none⟩ = some (.slice A n c) := BXr.out.cell 2
    by_cases hlt : j < n
    · have hlt' : (j : Int) < (n : Int) := by omega
      have hjn : j < ns.length := by rw [HLN.out]; exact hlt
      obtain ⟨b, off, rfl, hb, hcc⟩ := (HX.out.rd.up (HB0.out.trans (HB.out.mono HB0.out.size))).2 (by show 0 < n; omega)
      have hc := hcc j (iv ns[j]) (by rw [List.getElem?_map, List.getElem?_eq_getElem hjn]; rfl)
      obtain ⟨v, hv⟩ : ∃ v, ns[j] = v := ⟨_, rfl⟩
      have hv9 : v ≤ 1000000000 := by rw [← hv]; exact (num_range (HO.out.nums j hjn)).2.1
      have htk : (ns.take (j + 1)).map numL = (ns.take j).map numL ++ [numL v] := by rw [List.take_succ_eq_append_getElem hjn, hv, List.map_append]; rfl
      rw [hv] at hc
      unfold iv at hc
      have HTK := Lib.hid htk
      have HN := Lib.hid (number_val (max 0 v).toNat (by omega))
      rw [show (((max 0 v).toNat : Nat) : Int) = max 0 v by omega] at HN
      obtain ⟨K, hK⟩ : ∃ K : ByteArray, ⟨(Lib.decDigits (max 0 v).toNat).toArray⟩ = K := ⟨_, rfl⟩
      have HV : Hid (Value.string K = strV (numL v)) := Lib.hid (by rw [← hK]; rfl)
      have HV1 : Hid (∀ u ∈ [Value.string K], u.oneCell' = true) := Lib.hid (by rw [HV.out]; exact one_str [numL v])
      rw [hK] at HN
      clear hb hcc hv hK htk hjn
      go_wp2_with fail
      refine (HN.out _).mono ?_
      rintro e w1 ⟨rfl, hb1⟩
      have HB1 := Lib.hid (below_trans' HB.out hb1)
      have HS1 := Lib.hid (own_keep HS.out.1 hb1)
      have HON := Lib.hid HS.out.2
      have HR := Lib.hid (rd_fresh w1 9 #[Value.string K] 1 1 [Value.string K] rfl rfl)
      have HW := Lib.hid (HS1.out.kept (World.grownBy_alloc w1 (.cells #[Value.string K] 9) none) (Classical.em _))
      have HBa : Hid (Below w0.heap.size w0 (w1.alloc (.cells #[Value.string K] 9))) := Lib.hid (HB1.out.alloc HB1.out.size _)
      clear hb1
      go_wp2_with (at_builtin; refine wpList_append_rd _ rfl (.tmp 12) (.tmp 20) _ rfl w0.heap.size 9 i0 _ 1 16 Tryd.underlying39 hi hz0 hz1 hz2 rfl (by decide) _ j _ rfl HW.out _ (some ⟨w1.heap.size, 0, none⟩) 1 1 _ rfl HR.out HV1.out (by simp only [maxLen]; omega) (by omega) HBa.out.size ?_; intro Aa ca w5 hown hfm hg; have HS5 : Hid (Strs w0.heap.size w5 Aa (j + 1) ca ((ns.take (j + 1)).map numL)) := Lib.hid ⟨by rw [HTK.out, List.map_append]; rw [HV.out] at hown; exact hown, by rw [HTK.out, List.length_append, HON.out]; rfl⟩; have HB5 := Lib.hid (own_below HW.out hg HBa.out (Nat.le_refl _) HBa.out.size); clear hown hfm hg)
      case roundEnd =>
        refine ⟨⟨j + 1, ca, Aa, by omega, rfl, rfl, HS5, HB5.out⟩, ?_⟩
        simp only [intOf]; omega
    · have hlt' : ¬ (j : Int) < (n : Int) := by omega
      obtain rfl : j = n := by omega
      have HSE : Hid (Strs w0.heap.size wr A2 j c2 (ns.map numL)) := Lib.hid (by have := HS.out; rwa [List.take_of_length_le (by rw [HLN.out]; exact Nat.le_refl _)] at this)
      have HBE := Lib.hid (below_trans' (HB0.out.mono (Nat.le_refl _)) ((HB.out).mono (Nat.le_refl _)))
      have HRS := Lib.hid (Rd.of_own HSE.out.1)
      have ho := HO.out
      have hno := HLN.out
      clear HS hlt hj hlt'
      obtain ⟨hkd, hln, hnam, hbare, hnums⟩ := ho
      rcases hkd with rfl | rfl | rfl | rfl | rfl | rfl | rfl | rfl | rfl | rfl | rfl
      · obtain rfl : j = 2 := by have := hln; simp [shapeOf] at this; omega
        obtain ⟨v0, v1, rfl⟩ : ∃ v0 v1, ns = [v0, v1] := by
          match ns, hno with
          | [v0, v1], _ => exact ⟨v0, v1, rfl⟩
        obtain ⟨b, off, rfl, hb, hcc⟩ := HRS.out.2 (by decide)
        have r0 := num_range (hnums 0 (by simp))
        have r1 := num_range (hnums 1 (by simp))
        dsimp only [List.getElem_cons_zero, List.getElem_cons_succ] at r0 r1
        obtain ⟨E0, hE0⟩ : ∃ E : ByteArray, (⟨(numL v0).toArray⟩ : ByteArray) = E := ⟨_, rfl⟩
        have q0 : wr.cell? ⟨b, off, none⟩ = some (.string E0) := hcc 0 _ (by rw [← hE0]; rfl)
        have s0 : E0.size ≤ 21 := by rw [← hE0]; exact numL_len r0.2.1
        have D0 : Hid (E0.data.toList = dg v0) := Lib.hid (by rw [← hE0, ← numL_pos (r0.2.2 (by omega))])
        clear hE0
        obtain ⟨E1, hE1⟩ : ∃ E : ByteArray, (⟨(numL v1).toArray⟩ : ByteArray) = E := ⟨_, rfl⟩
        have q1 : wr.cell? ⟨b, off + 1, none⟩ = some (.string E1) := hcc 1 _ (by rw [← hE1]; rfl)
        have s1 : E1.size ≤ 21 := by rw [← hE1]; exact numL_len r1.2.1
        have D1 : Hid (E1.data.toList = dg v1) := Lib.hid (by rw [← hE1, ← numL_pos (r1.2.2 (by omega))])
        clear hE1
        clear hcc hnums hnam hbare hln hno r0 r1
        go_wp2_with fail
        go_quiet (fail)
        go_wp2_with fail
        go_ret
        refine ⟨congrArg (fun x => Ending.returned (Value.string x)) (ByteArray.ext (Array.ext' ?_)), ?_⟩
        · simp only [Joins.data_append, D0.out, D1.out]
          unfold lineL formP
          simp [wrF]
        · first | exact HBE.out | exact below_drewN' HBE.out _
      · obtain rfl : j = 2 := by have := hln; simp [shapeOf] at this; omega
        obtain ⟨v0, v1, rfl⟩ : ∃ v0 v1, ns = [v0, v1] := by
          match ns, hno with
          | [v0, v1], _ => exact ⟨v0, v1, rfl⟩
        obtain ⟨b, off, rfl, hb, hcc⟩ := HRS.out.2 (by decide)
        have r0 := num_range (hnums 0 (by simp))
        have r1 := num_range (hnums 1 (by simp))
        dsimp only [List.getElem_cons_zero, List.getElem_cons_succ] at r0 r1
        obtain ⟨E0, hE0⟩ : ∃ E : ByteArray, (⟨(numL v0).toArray⟩ : ByteArray) = E := ⟨_, rfl⟩
        have q0 : wr.cell? ⟨b, off, none⟩ = some (.string E0) := hcc 0 _ (by rw [← hE0]; rfl)
        have s0 : E0.size ≤ 21 := by rw [← hE0]; exact numL_len r0.2.1
        have D0 : Hid (E0.data.toList = dg v0) := Lib.hid (by rw [← hE0, ← numL_pos (r0.2.2 (by omega))])
        clear hE0
        obtain ⟨E1, hE1⟩ : ∃ E : ByteArray, (⟨(numL v1).toArray⟩ : ByteArray) = E := ⟨_, rfl⟩
        have q1 : wr.cell? ⟨b, off + 1, none⟩ = some (.string E1) := hcc 1 _ (by rw [← hE1]; rfl)
        have s1 : E1.size ≤ 21 := by rw [← hE1]; exact numL_len r1.2.1
        have D1 : Hid (E1.data.toList = dg v1) := Lib.hid (by rw [← hE1, ← numL_pos (r1.2.2 (by omega))])
        clear hE1
        clear hcc hnums hnam hbare hln hno r0 r1
        go_wp2_with fail
        go_quiet (fail)
        go_wp2_with fail
        go_ret
        refine ⟨congrArg (fun x => Ending.returned (Value.string x)) (ByteArray.ext (Array.ext' ?_)), ?_⟩
        · simp only [Joins.data_append, D0.out, D1.out]
          unfold lineL formP
          simp [wrF]
        · first | exact HBE.out | exact below_drewN' HBE.out _
      · obtain rfl : j = 4 := by have := hln; simp [shapeOf] at this; omega
        obtain ⟨v0, v1, v2, v3, rfl⟩ : ∃ v0 v1 v2 v3, ns = [v0, v1, v2, v3] := by
          match ns, hno with
          | [v0, v1, v2, v3], _ => exact ⟨v0, v1, v2, v3, rfl⟩
        obtain ⟨b, off, rfl, hb, hcc⟩ := HRS.out.2 (by decide)
        have r0 := num_range (hnums 0 (by simp))
        have r1 := num_range (hnums 1 (by simp))
        have r2 := num_range (hnums 2 (by simp))
        have r3 := num_range (hnums 3 (by simp))
        dsimp only [List.getElem_cons_zero, List.getElem_cons_succ] at r0 r1 r2 r3
        obtain ⟨E0, hE0⟩ : ∃ E : ByteArray, (⟨(numL v0).toArray⟩ : ByteArray) = E := ⟨_, rfl⟩
        have q0 : wr.cell? ⟨b, off, none⟩ = some (.string E0) := hcc 0 _ (by rw [← hE0]; rfl)
        have s0 : E0.size ≤ 21 := by rw [← hE0]; exact numL_len r0.2.1
        have D0 : Hid (E0.data.toList = dg v0) := Lib.hid (by rw [← hE0, ← numL_pos (r0.2.2 (by omega))])
        clear hE0
        obtain ⟨E1, hE1⟩ : ∃ E : ByteArray, (⟨(numL v1).toArray⟩ : ByteArray) = E := ⟨_, rfl⟩
        have q1 : wr.cell? ⟨b, off + 1, none⟩ = some (.string E1) := hcc 1 _ (by rw [← hE1]; rfl)
        have s1 : E1.size ≤ 21 := by rw [← hE1]; exact numL_len r1.2.1
        have D1 : Hid (E1.data.toList = dg v1) := Lib.hid (by rw [← hE1, ← numL_pos (r1.2.2 (by omega))])
        clear hE1
        obtain ⟨E2, hE2⟩ : ∃ E : ByteArray, (⟨(numL v2).toArray⟩ : ByteArray) = E := ⟨_, rfl⟩
        have q2 : wr.cell? ⟨b, off + 2, none⟩ = some (.string E2) := hcc 2 _ (by rw [← hE2]; rfl)
        have s2 : E2.size ≤ 21 := by rw [← hE2]; exact numL_len r2.2.1
        clear q2 s2 hE2 E2
        obtain ⟨E3, hE3⟩ : ∃ E : ByteArray, (⟨(numL v3).toArray⟩ : ByteArray) = E := ⟨_, rfl⟩
        have q3 : wr.cell? ⟨b, off + 3, none⟩ = some (.string E3) := hcc 3 _ (by rw [← hE3]; rfl)
        have s3 : E3.size ≤ 21 := by rw [← hE3]; exact numL_len r3.2.1
        have D3 : Hid (E3.data.toList = dg v3) := Lib.hid (by rw [← hE3, ← numL_pos (r3.2.2 (by omega))])
        clear hE3
        have HDR := Lib.hid (drift_val v2 r2.1 r2.2.1)
        have hdl : (driftL v2).length ≤ 26 := by unfold driftL; have := dec_len (n := v2.natAbs) (by have := r2.1; have := r2.2.1; omega); rw [List.length_append]; split <;> simp only [List.length_cons, List.length_nil] <;> omega
        obtain ⟨E2, hE2⟩ : ∃ E : ByteArray, (⟨(driftL v2).toArray⟩ : ByteArray) = E := ⟨_, rfl⟩
        have s2 : E2.size ≤ 26 := by rw [← hE2]; exact hdl
        have D2 : Hid (E2.data.toList = driftL v2) := Lib.hid (by rw [← hE2])
        rw [hE2] at HDR
        obtain ⟨nb, no, hnA, hnb, hnc⟩ := (HX.out.rd.up HBE.out).2 (by show 0 < 4; omega)
        dsimp only at hnA
        subst hnA
        have n2 : wr.cell? ⟨nb, no + 2, none⟩ = some (.int .i64 v2) := hnc 2 _ rfl
        clear hE2 hdl hnc
        clear hcc hnums hnam hbare hln hno r0 r1 r2 r3
        have hup : ∀ a b, Below wr.heap.size wr a → Below a.heap.size a b → Below wr.heap.size wr b := fun a b h k => below_trans' h k
        have f1 : ∀ s : WOf (Below wr.heap.size wr), s.w.cell? ⟨w.heap.size, 1, none⟩ = some (.string nm) := fun s => (s.ok.cell (Lx.cell_lt k1)).trans k1
        have f2 : ∀ s : WOf (Below wr.heap.size wr), s.w.cell? ⟨w.heap.size, 2, none⟩ = some (.slice (some ⟨nb, no, none⟩) 4 c) := fun s => (s.ok.cell (Lx.cell_lt k2)).trans k2
        have f3 : ∀ s : WOf (Below wr.heap.size wr), s.w.cell? ⟨nb, no + 2, none⟩ = some (.int .i64 v2) := fun s => (s.ok.cell (Lx.cell_lt n2)).trans n2
        have g0 : ∀ s : WOf (Below wr.heap.size wr), s.w.cell? ⟨b, off, none⟩ = some (.string E0) := fun s => (s.ok.cell (Lx.cell_lt q0)).trans q0
        have g1 : ∀ s : WOf (Below wr.heap.size wr), s.w.cell? ⟨b, off + 1, none⟩ = some (.string E1) := fun s => (s.ok.cell (Lx.cell_lt q1)).trans q1
        have g3 : ∀ s : WOf (Below wr.heap.size wr), s.w.cell? ⟨b, off + 3, none⟩ = some (.string E3) := fun s => (s.ok.cell (Lx.cell_lt q3)).trans q3
        clear hb hnb
        go_wp2_with fail
        refine wp_region_ext (Below wr.heap.size wr) (Below.refl _ _) hup (by kernel_rfl) (by kernel_rfl) (fun hne => ?_)
        repeat (go_big_quiet_step (with_reducible exact calls_ext hup (HDR.out _)))
        refine wpQuiet_nil ?_
        clear hne
        intro wx hx'
        obtain ⟨⟨_, hxx⟩, hx''⟩ := hx'
        subst hx''
        go_wp2_with fail
        go_ret
        refine ⟨congrArg (fun x => Ending.returned (Value.string x)) (ByteArray.ext (Array.ext' ?_)), ?_⟩
        · simp only [Joins.data_append, D0.out, D1.out, D2.out, D3.out]
          unfold lineL formP
          simp [wrF]
        · exact HBE.out.trans (hxx.mono HBE.out.size)
      · obtain rfl : j = 3 := by have := hln; simp [shapeOf] at this; omega
        obtain ⟨v0, v1, v2, rfl⟩ : ∃ v0 v1 v2, ns = [v0, v1, v2] := by
          match ns, hno with
          | [v0, v1, v2], _ => exact ⟨v0, v1, v2, rfl⟩
        obtain ⟨b, off, rfl, hb, hcc⟩ := HRS.out.2 (by decide)
        have r0 := num_range (hnums 0 (by simp))
        have r1 := num_range (hnums 1 (by simp))
        have r2 := num_range (hnums 2 (by simp))
        dsimp only [List.getElem_cons_zero, List.getElem_cons_succ] at r0 r1 r2
        obtain ⟨E0, hE0⟩ : ∃ E : ByteArray, (⟨(numL v0).toArray⟩ : ByteArray) = E := ⟨_, rfl⟩
        have q0 : wr.cell? ⟨b, off, none⟩ = some (.string E0) := hcc 0 _ (by rw [← hE0]; rfl)
        have s0 : E0.size ≤ 21 := by rw [← hE0]; exact numL_len r0.2.1
        have D0 : Hid (E0.data.toList = dg v0) := Lib.hid (by rw [← hE0, ← numL_pos (r0.2.2 (by omega))])
        clear hE0
        obtain ⟨E1, hE1⟩ : ∃ E : ByteArray, (⟨(numL v1).toArray⟩ : ByteArray) = E := ⟨_, rfl⟩
        have q1 : wr.cell? ⟨b, off + 1, none⟩ = some (.string E1) := hcc 1 _ (by rw [← hE1]; rfl)
        have s1 : E1.size ≤ 21 := by rw [← hE1]; exact numL_len r1.2.1
        have D1 : Hid (E1.data.toList = dg v1) := Lib.hid (by rw [← hE1, ← numL_pos (r1.2.2 (by omega))])
        clear hE1
        obtain ⟨E2, hE2⟩ : ∃ E : ByteArray, (⟨(numL v2).toArray⟩ : ByteArray) = E := ⟨_, rfl⟩
        have q2 : wr.cell? ⟨b, off + 2, none⟩ = some (.string E2) := hcc 2 _ (by rw [← hE2]; rfl)
        have s2 : E2.size ≤ 21 := by rw [← hE2]; exact numL_len r2.2.1
        have D2 : Hid (E2.data.toList = dg v2) := Lib.hid (by rw [← hE2, ← numL_pos (r2.2.2 (by omega))])
        clear hE2
        clear hcc hnums hnam hbare hln hno r0 r1 r2
        go_wp2_with fail
        go_quiet (fail)
        go_wp2_with fail
        go_ret
        refine ⟨congrArg (fun x => Ending.returned (Value.string x)) (ByteArray.ext (Array.ext' ?_)), ?_⟩
        · simp only [Joins.data_append, D0.out, D1.out, D2.out]
          unfold lineL formP
          simp [wrF]
        · first | exact HBE.out | exact below_drewN' HBE.out _
      · obtain rfl : j = 1 := by have := hln; simp [shapeOf] at this; omega
        obtain ⟨v0, rfl⟩ : ∃ v0, ns = [v0] := by
          match ns, hno with
          | [v0], _ => exact ⟨v0, rfl⟩
        obtain ⟨b, off, rfl, hb, hcc⟩ := HRS.out.2 (by decide)
        have r0 := num_range (hnums 0 (by simp))
        dsimp only [List.getElem_cons_zero, List.getElem_cons_succ] at r0
        obtain ⟨E0, hE0⟩ : ∃ E : ByteArray, (⟨(numL v0).toArray⟩ : ByteArray) = E := ⟨_, rfl⟩
        have q0 : wr.cell? ⟨b, off, none⟩ = some (.string E0) := hcc 0 _ (by rw [← hE0]; rfl)
        have s0 : E0.size ≤ 21 := by rw [← hE0]; exact numL_len r0.2.1
        have D0 : Hid (E0.data.toList = dg v0) := Lib.hid (by rw [← hE0, ← numL_pos (r0.2.2 (by omega))])
        clear hE0
        clear hcc hnums hnam hbare hln hno r0
        go_wp2_with fail
        go_quiet (fail)
        go_wp2_with fail
        go_ret
        refine ⟨congrArg (fun x => Ending.returned (Value.string x)) (ByteArray.ext (Array.ext' ?_)), ?_⟩
        · simp only [Joins.data_append, D0.out]
          unfold lineL formP
          simp [wrF]
        · first | exact HBE.out | exact below_drewN' HBE.out _
      · obtain rfl : j = 1 := by have := hln; simp [shapeOf] at this; omega
        obtain ⟨v0, rfl⟩ : ∃ v0, ns = [v0] := by
          match ns, hno with
          | [v0], _ => exact ⟨v0, rfl⟩
        obtain ⟨b, off, rfl, hb, hcc⟩ := HRS.out.2 (by decide)
        have r0 := num_range (hnums 0 (by simp))
        dsimp only [List.getElem_cons_zero, List.getElem_cons_succ] at r0
        obtain ⟨E0, hE0⟩ : ∃ E : ByteArray, (⟨(numL v0).toArray⟩ : ByteArray) = E := ⟨_, rfl⟩
        have q0 : wr.cell? ⟨b, off, none⟩ = some (.string E0) := hcc 0 _ (by rw [← hE0]; rfl)
        have s0 : E0.size ≤ 21 := by rw [← hE0]; exact numL_len r0.2.1
        have D0 : Hid (E0.data.toList = dg v0) := Lib.hid (by rw [← hE0, ← numL_pos (r0.2.2 (by omega))])
        clear hE0
        clear hcc hnums hnam hbare hln hno r0
        go_wp2_with fail
        go_quiet (fail)
        go_wp2_with fail
        go_ret
        refine ⟨congrArg (fun x => Ending.returned (Value.string x)) (ByteArray.ext (Array.ext' ?_)), ?_⟩
        · simp only [Joins.data_append, D0.out]
          unfold lineL formP
          simp [wrF]
        · first | exact HBE.out | exact below_drewN' HBE.out _
      · obtain rfl : j = 2 := by have := hln; simp [shapeOf] at this; omega
        obtain ⟨v0, v1, rfl⟩ : ∃ v0 v1, ns = [v0, v1] := by
          match ns, hno with
          | [v0, v1], _ => exact ⟨v0, v1, rfl⟩
        obtain ⟨b, off, rfl, hb, hcc⟩ := HRS.out.2 (by decide)
        have r0 := num_range (hnums 0 (by simp))
        have r1 := num_range (hnums 1 (by simp))
        dsimp only [List.getElem_cons_zero, List.getElem_cons_succ] at r0 r1
        obtain ⟨E0, hE0⟩ : ∃ E : ByteArray, (⟨(numL v0).toArray⟩ : ByteArray) = E := ⟨_, rfl⟩
        have q0 : wr.cell? ⟨b, off, none⟩ = some (.string E0) := hcc 0 _ (by rw [← hE0]; rfl)
        have s0 : E0.size ≤ 21 := by rw [← hE0]; exact numL_len r0.2.1
        have D0 : Hid (E0.data.toList = dg v0) := Lib.hid (by rw [← hE0, ← numL_pos (r0.2.2 (by omega))])
        clear hE0
        obtain ⟨E1, hE1⟩ : ∃ E : ByteArray, (⟨(numL v1).toArray⟩ : ByteArray) = E := ⟨_, rfl⟩
        have q1 : wr.cell? ⟨b, off + 1, none⟩ = some (.string E1) := hcc 1 _ (by rw [← hE1]; rfl)
        have s1 : E1.size ≤ 21 := by rw [← hE1]; exact numL_len r1.2.1
        have D1 : Hid (E1.data.toList = dg v1) := Lib.hid (by rw [← hE1, ← numL_pos (r1.2.2 (by omega))])
        clear hE1
        clear hcc hnums hnam hbare hln hno r0 r1
        go_wp2_with fail
        go_quiet (fail)
        go_wp2_with fail
        go_ret
        refine ⟨congrArg (fun x => Ending.returned (Value.string x)) (ByteArray.ext (Array.ext' ?_)), ?_⟩
        · simp only [Joins.data_append, D0.out, D1.out]
          unfold lineL formP
          simp [wrF]
        · first | exact HBE.out | exact below_drewN' HBE.out _
      · obtain rfl : j = 6 := by have := hln; simp [shapeOf] at this; omega
        obtain ⟨v0, v1, v2, v3, v4, v5, rfl⟩ : ∃ v0 v1 v2 v3 v4 v5, ns = [v0, v1, v2, v3, v4, v5] := by
          match ns, hno with
          | [v0, v1, v2, v3, v4, v5], _ => exact ⟨v0, v1, v2, v3, v4, v5, rfl⟩
        obtain ⟨b, off, rfl, hb, hcc⟩ := HRS.out.2 (by decide)
        have r0 := num_range (hnums 0 (by simp))
        have r1 := num_range (hnums 1 (by simp))
        have r2 := num_range (hnums 2 (by simp))
        have r3 := num_range (hnums 3 (by simp))
        have r4 := num_range (hnums 4 (by simp))
        have r5 := num_range (hnums 5 (by simp))
        dsimp only [List.getElem_cons_zero, List.getElem_cons_succ] at r0 r1 r2 r3 r4 r5
        obtain ⟨E0, hE0⟩ : ∃ E : ByteArray, (⟨(numL v0).toArray⟩ : ByteArray) = E := ⟨_, rfl⟩
        have q0 : wr.cell? ⟨b, off, none⟩ = some (.string E0) := hcc 0 _ (by rw [← hE0]; rfl)
        have s0 : E0.size ≤ 21 := by rw [← hE0]; exact numL_len r0.2.1
        have D0 : Hid (E0.data.toList = dg v0) := Lib.hid (by rw [← hE0, ← numL_pos (r0.2.2 (by omega))])
        clear hE0
        obtain ⟨E1, hE1⟩ : ∃ E : ByteArray, (⟨(numL v1).toArray⟩ : ByteArray) = E := ⟨_, rfl⟩
        have q1 : wr.cell? ⟨b, off + 1, none⟩ = some (.string E1) := hcc 1 _ (by rw [← hE1]; rfl)
        have s1 : E1.size ≤ 21 := by rw [← hE1]; exact numL_len r1.2.1
        have D1 : Hid (E1.data.toList = dg v1) := Lib.hid (by rw [← hE1, ← numL_pos (r1.2.2 (by omega))])
        clear hE1
        obtain ⟨E2, hE2⟩ : ∃ E : ByteArray, (⟨(numL v2).toArray⟩ : ByteArray) = E := ⟨_, rfl⟩
        have q2 : wr.cell? ⟨b, off + 2, none⟩ = some (.string E2) := hcc 2 _ (by rw [← hE2]; rfl)
        have s2 : E2.size ≤ 21 := by rw [← hE2]; exact numL_len r2.2.1
        have D2 : Hid (E2.data.toList = dg v2) := Lib.hid (by rw [← hE2, ← numL_pos (r2.2.2 (by omega))])
        clear hE2
        obtain ⟨E3, hE3⟩ : ∃ E : ByteArray, (⟨(numL v3).toArray⟩ : ByteArray) = E := ⟨_, rfl⟩
        have q3 : wr.cell? ⟨b, off + 3, none⟩ = some (.string E3) := hcc 3 _ (by rw [← hE3]; rfl)
        have s3 : E3.size ≤ 21 := by rw [← hE3]; exact numL_len r3.2.1
        have D3 : Hid (E3.data.toList = dg v3) := Lib.hid (by rw [← hE3, ← numL_pos (r3.2.2 (by omega))])
        clear hE3
        obtain ⟨E4, hE4⟩ : ∃ E : ByteArray, (⟨(numL v4).toArray⟩ : ByteArray) = E := ⟨_, rfl⟩
        have q4 : wr.cell? ⟨b, off + 4, none⟩ = some (.string E4) := hcc 4 _ (by rw [← hE4]; rfl)
        have s4 : E4.size ≤ 21 := by rw [← hE4]; exact numL_len r4.2.1
        have D4 : Hid (E4.data.toList = dg v4) := Lib.hid (by rw [← hE4, ← numL_pos (r4.2.2 (by omega))])
        clear hE4
        obtain ⟨E5, hE5⟩ : ∃ E : ByteArray, (⟨(numL v5).toArray⟩ : ByteArray) = E := ⟨_, rfl⟩
        have q5 : wr.cell? ⟨b, off + 5, none⟩ = some (.string E5) := hcc 5 _ (by rw [← hE5]; rfl)
        have s5 : E5.size ≤ 21 := by rw [← hE5]; exact numL_len r5.2.1
        have D5 : Hid (E5.data.toList = dg v5) := Lib.hid (by rw [← hE5, ← numL_pos (r5.2.2 (by omega))])
        clear hE5
        clear hcc hnums hnam hbare hln hno r0 r1 r2 r3 r4 r5
        go_wp2_with fail
        go_quiet (fail)
        go_wp2_with fail
        go_ret
        refine ⟨congrArg (fun x => Ending.returned (Value.string x)) (ByteArray.ext (Array.ext' ?_)), ?_⟩
        · simp only [Joins.data_append, D0.out, D1.out, D2.out, D3.out, D4.out, D5.out]
          unfold lineL formP
          simp [wrF]
        · first | exact HBE.out | exact below_drewN' HBE.out _
      · obtain rfl : j = 4 := by have := hln; simp [shapeOf] at this; omega
        obtain ⟨v0, v1, v2, v3, rfl⟩ : ∃ v0 v1 v2 v3, ns = [v0, v1, v2, v3] := by
          match ns, hno with
          | [v0, v1, v2, v3], _ => exact ⟨v0, v1, v2, v3, rfl⟩
        obtain ⟨b, off, rfl, hb, hcc⟩ := HRS.out.2 (by decide)
        have r0 := num_range (hnums 0 (by simp))
        have r1 := num_range (hnums 1 (by simp))
        have r2 := num_range (hnums 2 (by simp))
        have r3 := num_range (hnums 3 (by simp))
        dsimp only [List.getElem_cons_zero, List.getElem_cons_succ] at r0 r1 r2 r3
        obtain ⟨E0, hE0⟩ : ∃ E : ByteArray, (⟨(numL v0).toArray⟩ : ByteArray) = E := ⟨_, rfl⟩
        have q0 : wr.cell? ⟨b, off, none⟩ = some (.string E0) := hcc 0 _ (by rw [← hE0]; rfl)
        have s0 : E0.size ≤ 21 := by rw [← hE0]; exact numL_len r0.2.1
        have D0 : Hid (E0.data.toList = dg v0) := Lib.hid (by rw [← hE0, ← numL_pos (r0.2.2 (by omega))])
        clear hE0
        obtain ⟨E1, hE1⟩ : ∃ E : ByteArray, (⟨(numL v1).toArray⟩ : ByteArray) = E := ⟨_, rfl⟩
        have q1 : wr.cell? ⟨b, off + 1, none⟩ = some (.string E1) := hcc 1 _ (by rw [← hE1]; rfl)
        have s1 : E1.size ≤ 21 := by rw [← hE1]; exact numL_len r1.2.1
        have D1 : Hid (E1.data.toList = dg v1) := Lib.hid (by rw [← hE1, ← numL_pos (r1.2.2 (by omega))])
        clear hE1
        obtain ⟨E2, hE2⟩ : ∃ E : ByteArray, (⟨(numL v2).toArray⟩ : ByteArray) = E := ⟨_, rfl⟩
        have q2 : wr.cell? ⟨b, off + 2, none⟩ = some (.string E2) := hcc 2 _ (by rw [← hE2]; rfl)
        have s2 : E2.size ≤ 21 := by rw [← hE2]; exact numL_len r2.2.1
        have D2 : Hid (E2.data.toList = dg v2) := Lib.hid (by rw [← hE2, ← numL_pos (r2.2.2 (by omega))])
        clear hE2
        obtain ⟨E3, hE3⟩ : ∃ E : ByteArray, (⟨(numL v3).toArray⟩ : ByteArray) = E := ⟨_, rfl⟩
        have q3 : wr.cell? ⟨b, off + 3, none⟩ = some (.string E3) := hcc 3 _ (by rw [← hE3]; rfl)
        have s3 : E3.size ≤ 21 := by rw [← hE3]; exact numL_len r3.2.1
        have D3 : Hid (E3.data.toList = dg v3) := Lib.hid (by rw [← hE3, ← numL_pos (r3.2.2 (by omega))])
        clear hE3
        clear hcc hnums hnam hbare hln hno r0 r1 r2 r3
        go_wp2_with fail
        go_quiet (fail)
        go_wp2_with fail
        go_ret
        refine ⟨congrArg (fun x => Ending.returned (Value.string x)) (ByteArray.ext (Array.ext' ?_)), ?_⟩
        · simp only [Joins.data_append, D0.out, D1.out, D2.out, D3.out]
          unfold lineL formP
          simp [wrF]
        · first | exact HBE.out | exact below_drewN' HBE.out _
      · obtain rfl : j = 3 := by have := hln; simp [shapeOf] at this; omega
        obtain ⟨v0, v1, v2, rfl⟩ : ∃ v0 v1 v2, ns = [v0, v1, v2] := by
          match ns, hno with
          | [v0, v1, v2], _ => exact ⟨v0, v1, v2, rfl⟩
        obtain ⟨b, off, rfl, hb, hcc⟩ := HRS.out.2 (by decide)
        have r0 := num_range (hnums 0 (by simp))
        have r1 := num_range (hnums 1 (by simp))
        have r2 := num_range (hnums 2 (by simp))
        dsimp only [List.getElem_cons_zero, List.getElem_cons_succ] at r0 r1 r2
        obtain ⟨E0, hE0⟩ : ∃ E : ByteArray, (⟨(numL v0).toArray⟩ : ByteArray) = E := ⟨_, rfl⟩
        have q0 : wr.cell? ⟨b, off, none⟩ = some (.string E0) := hcc 0 _ (by rw [← hE0]; rfl)
        have s0 : E0.size ≤ 21 := by rw [← hE0]; exact numL_len r0.2.1
        have D0 : Hid (E0.data.toList = dg v0) := Lib.hid (by rw [← hE0, ← numL_pos (r0.2.2 (by omega))])
        clear hE0
        obtain ⟨E1, hE1⟩ : ∃ E : ByteArray, (⟨(numL v1).toArray⟩ : ByteArray) = E := ⟨_, rfl⟩
        have q1 : wr.cell? ⟨b, off + 1, none⟩ = some (.string E1) := hcc 1 _ (by rw [← hE1]; rfl)
        have s1 : E1.size ≤ 21 := by rw [← hE1]; exact numL_len r1.2.1
        have D1 : Hid (E1.data.toList = dg v1) := Lib.hid (by rw [← hE1, ← numL_pos (r1.2.2 (by omega))])
        clear hE1
        obtain ⟨E2, hE2⟩ : ∃ E : ByteArray, (⟨(numL v2).toArray⟩ : ByteArray) = E := ⟨_, rfl⟩
        have q2 : wr.cell? ⟨b, off + 2, none⟩ = some (.string E2) := hcc 2 _ (by rw [← hE2]; rfl)
        have s2 : E2.size ≤ 21 := by rw [← hE2]; exact numL_len r2.2.1
        have D2 : Hid (E2.data.toList = dg v2) := Lib.hid (by rw [← hE2, ← numL_pos (r2.2.2 (by omega))])
        clear hE2
        clear hcc hnums hnam hbare hln hno r0 r1 r2
        go_wp2_with fail
        go_quiet (fail)
        go_wp2_with fail
        go_ret
        refine ⟨congrArg (fun x => Ending.returned (Value.string x)) (ByteArray.ext (Array.ext' ?_)), ?_⟩
        · simp only [Joins.data_append, D0.out, D1.out, D2.out]
          unfold lineL formP
          simp [wrF]
        · first | exact HBE.out | exact below_drewN' HBE.out _
      · obtain rfl : j = 1 := by have := hln; simp [shapeOf] at this; omega
        obtain ⟨v0, rfl⟩ : ∃ v0, ns = [v0] := by
          match ns, hno with
          | [v0], _ => exact ⟨v0, rfl⟩
        obtain ⟨b, off, rfl, hb, hcc⟩ := HRS.out.2 (by decide)
        have r0 := num_range (hnums 0 (by simp))
        dsimp only [List.getElem_cons_zero, List.getElem_cons_succ] at r0
        obtain ⟨E0, hE0⟩ : ∃ E : ByteArray, (⟨(numL v0).toArray⟩ : ByteArray) = E := ⟨_, rfl⟩
        have q0 : wr.cell? ⟨b, off, none⟩ = some (.string E0) := hcc 0 _ (by rw [← hE0]; rfl)
        have s0 : E0.size ≤ 21 := by rw [← hE0]; exact numL_len r0.2.1
        have D0 : Hid (E0.data.toList = dg v0) := Lib.hid (by rw [← hE0, ← numL_pos (r0.2.2 (by omega))])
        clear hE0
        clear hcc hnums hnam hbare hln hno r0
        go_wp2_with fail
        go_ret
        refine ⟨congrArg (fun x => Ending.returned (Value.string x)) (ByteArray.ext (Array.ext' ?_)), ?_⟩
        · simp only [Joins.data_append, D0.out]
          unfold lineL formP
          simp [wrF]
        · first | exact HBE.out | exact below_drewN' HBE.out _
end Go.Proofs.YtmdogklgbifacaaDoor.Pr
