/- The reference: the command at a position. -/
import Derived.Test.YtjfcdfhcmkdicaaGreatDoorPsBuilt
namespace Go.Proofs.YtjfcdfhcmkdicaaGreatDoor.Ps
open Go.RowKit Go.Proofs.YtjfcdfhcmkdicaaGreatDoor.Lx Go.Proofs.YtjfcdfhcmkdicaaGreatDoor.Pr
set_option linter.unusedVariables false

/-- What read comes to. -/
def ReadOut (w : World) (r : Option PC × Nat) (e : Ending) (w' : World) : Prop :=
  match r with
  | (some c, n) => ∃ A cc, e = .returned (.tuple #[.agg #[.int .i64 (c.kind : Nat), .string c.name, .slice A c.ns.length cc, .int .i64 (c.pos : Nat)], .int .i64 (n : Nat), .bool true]) ∧ w'.ownsRow w.heap.size 3 1 (.slice A c.ns.length cc) c.ns.length (c.ns.map iv) ∧ Below w.heap.size w w'
  | (none, n) => e = .returned (.tuple #[.agg #[.int .i64 0, .string ⟨#[]⟩, .slice none 0 0, .int .i64 0], .int .i64 (n : Nat), .bool false]) ∧ Below w.heap.size w w'
theorem exp_le {k : Nat} (h1 : 1 ≤ k) (h2 : k < 12) : (expL (k : Nat)).length ≤ 100 := by
  have := (expL_len (k := k) ⟨h1, by omega⟩).1
  omega
set_option maxRecDepth 100000 in
set_option maxHeartbeats 4000000 in
theorem read_val (A : Option Addr) (n c : Nat) (ts : List Tok) (a : Nat) (w : World) (hT : Toks w A n c ts) (hw : ∀ t ∈ ts, WfP t) (hn : n ≤ 2000) (h0 : a < n) :
    Calls Tryz.prog 21 #[.slice A n c, .int .i64 (a : Nat)] w (ReadOut w (rdB (ts.drop a))) := by
  have HT := Lib.hid hT
  have HN := Lib.hid hT.2.1
  have HW := Lib.hid hw
  have hne : ∃ t r, ts.drop a = t :: r := ⟨_, _, List.drop_eq_getElem_cons (by rw [hT.2.1]; exact h0)⟩
  obtain ⟨R, hR⟩ : ∃ R, rdB (ts.drop a) = R := ⟨_, rfl⟩
  have hread : readN (12 - 1) 1 0 (ts.drop a) = R := by
    obtain ⟨t, r, htr⟩ := hne
    rw [← hR, htr]
    exact read_eq (fun u hu => hw u (List.mem_of_mem_drop (by rw [htr]; exact hu)))
  have HR := Lib.hid hread
  have HB0 := Lib.hid ((Below.refl w.heap.size w).alloc (Nat.le_refl _) (.cells #[.int .i64 0, .string ⟨#[]⟩, .slice none 0 0, .int .i64 0] 34))
  have HK0 := Lib.hid (Blk.new w 34 #[.int .i64 0, .string ⟨#[]⟩, .slice none 0 0, .int .i64 0])
  rw [hR]
  clear hT hw hne hR hread
  go_enter Tryz.func21, Tryz.ntmps21
  go_wp2_with fail
  obtain ⟨W0, hW0⟩ : ∃ W, w.alloc (.cells #[.int .i64 0, .string ⟨#[]⟩, .slice none 0 0, .int .i64 0] 34) = W := ⟨_, rfl⟩
  rw [hW0] at HB0 HK0 ⊢
  clear hW0
  go_loopw [7, 8] (fun b i wr => ∃ (best k : Nat), 1 ≤ k ∧ k ≤ 12 ∧ best ≤ 100 ∧ b = i64 (best : Nat) ∧ i = i64 (k : Nat) ∧ Hid (readN (12 - k) k best (ts.drop a) = R) ∧ Hid (Below w.heap.size w wr) ∧ Hid (Blk wr w.heap.size 34 #[.int .i64 0, .string ⟨#[]⟩, .slice none 0 0, .int .i64 0])) (fun _ i _ => 12 - (intOf i).toNat)
  case atStart => exact ⟨0, 1, Nat.le_refl _, by omega, by omega, rfl, rfl, HR, HB0, HK0⟩
  case round =>
    obtain ⟨best, k, hk1, hk2, hb, rfl, rfl, HG, HB, HK⟩ := hrel
    by_cases hlt : k < 12
    · have hlt' : (k : Int) ≤ 11 := by omega
      have HE := Lib.hid (expanded_val (k : Nat) wr)
      go_wp2_with fail
      refine HE.out.mono ?_
      rintro e1 w1 ⟨B, m, d, rfl, hS, hb1⟩
      have hB1 := below_trans' HB.out hb1
      have hm : m ≤ 100 := by rw [← hS.2]; exact exp_le hk1 hlt
      have HS := Lib.hid hS
      have HB1 := Lib.hid hB1
      have HK1 := Lib.hid (HK.out.up' hb1)
      have HT1 := Lib.hid (HT.out.up hB1)
      have HM := Lib.hid hS.2
      have HMV := Lib.hid (match_val A n c ts a B m d wr.heap.size (expL (k : Nat)) w1 HT1.out hS HW.out (Nat.le_of_lt h0) hn hm)
      have hg := HG.out
      rw [show 12 - k = (12 - (k + 1)) + 1 by omega] at hg
      simp only [readN] at hg
      have hml := matchB_le (ts.drop a) (expL (k : Nat))
      obtain ⟨q, hq⟩ : ∃ q, matchB (ts.drop a) (expL (k : Nat)) = q := ⟨_, rfl⟩
      rw [hq] at HMV hg hml
      have hqm : q ≤ m := by rw [← HM.out]; exact hml.1
      have hqn : a + q ≤ n := by have := hml.2; rw [List.length_drop, HN.out] at this; omega
      clear hS hb1 hB1 hml
      go_wp2_with fail
      refine HMV.out.mono ?_
      rintro e2 w2 ⟨rfl, hb2⟩
      have HB2 := Lib.hid (below_trans' HB1.out hb2)
      have HK2 := Lib.hid (HK1.out.up' hb2)
      have HT2 := Lib.hid (HT1.out.up hb2)
      have HS2 := Lib.hid (show Strs wr.heap.size w2 B m d (expL (k : Nat)) from ⟨own_keep HS.out.1 hb2, HS.out.2⟩)
      clear hb2
      by_cases hall : q = (expL (k : Nat)).length
      · rw [if_pos hall] at hg
        have hqm2 : q = m := by rw [hall, HM.out]
        have hqe : ((q : Int) == (m : Int)) = true := by rw [beq_iff_eq]; omega
        have HBV := Lib.hid (built_val (k : Nat) A n c ts a B m d wr.heap.size (expL (k : Nat)) w2 HT2.out HS2.out HW.out hn hm (by omega) h0)
        have HRR := Lib.hid hg
        have HALL := Lib.hid hall
        clear hg hall hq hqm2
        go_wp2_with fail
        refine HBV.out.mono ?_
        rintro e3 w3 ⟨A3, c3, rfl, hown, hb3⟩
        have HB3 := Lib.hid (below_trans' HB2.out hb3)
        have HK3 := Lib.hid (HK2.out.up' hb3)
        have hown' := own_base hown HB2.out.size
        clear hown hb3
        obtain ⟨NM, hNM⟩ : ∃ x, nmB ⟨#[]⟩ (ts.drop a) (expL (k : Nat)) = x := ⟨_, rfl⟩
        obtain ⟨NS, hNS⟩ : ∃ x, nsB false (ts.drop a) (expL (k : Nat)) = x := ⟨_, rfl⟩
        obtain ⟨PP, hPP⟩ : ∃ x, posB (ts.drop a).head? 0 = x := ⟨_, rfl⟩
        have hbu : builtB k (ts.drop a) = ⟨k, NM, NS, PP⟩ := by unfold builtB; rw [hNM, hNS, hPP]
        have HBU := Lib.hid hbu
        rw [hNM, hNS, hPP]
        rw [hNS] at hown'
        have HO3 := Lib.hid hown'
        clear hNM hNS hPP hbu hown'
        have s0 := HK3.out.cell 0
        have s1 := HK3.out.cell 1
        have s2 := HK3.out.cell 2
        have s3 := HK3.out.cell 3
        simp at s0 s1 s2 s3
        have y0 := HK3.out.frozen 0
        have y1 := HK3.out.frozen 1
        have y2 := HK3.out.frozen 2
        have y3 := HK3.out.frozen 3
        have hb9 := (((HK3.out.set_ 0 (.int .i64 (k : Nat))).set_ 1 (.string NM)).set_ 2 (.slice A3 NS.length c3)).set_ 3 (.int .i64 (PP : Nat))
        have he9 : Below w.heap.size w (((((w3).setCell ⟨w.heap.size, 0, none⟩ (.int .i64 (k : Nat))).setCell ⟨w.heap.size, 1, none⟩ (.string NM)).setCell ⟨w.heap.size, 2, none⟩ (.slice A3 NS.length c3)).setCell ⟨w.heap.size, 3, none⟩ (.int .i64 (PP : Nat))) := (((HB3.out.setCell (p := ⟨w.heap.size, 0, none⟩) (Nat.le_refl _) _).setCell (p := ⟨w.heap.size, 1, none⟩) (Nat.le_refl _) _).setCell (p := ⟨w.heap.size, 2, none⟩) (Nat.le_refl _) _).setCell (p := ⟨w.heap.size, 3, none⟩) (Nat.le_refl _) _
        have HB9 := Lib.hid hb9
        have HE9 := Lib.hid he9
        have hne : (Value.slice A3 NS.length c3).ownBlock ≠ some w.heap.size := own_ne_t HO3.out HK3.out (by decide)
        have kept : ∀ (W : World) (i : Nat) (u : Value), W.ownsRow w.heap.size 3 1 (.slice A3 NS.length c3) NS.length (NS.map iv) → (W.setCell ⟨w.heap.size, i, none⟩ u).ownsRow w.heap.size 3 1 (.slice A3 NS.length c3) NS.length (NS.map iv) := fun W i u h =>
          h.kept (row := some w.heap.size) ⟨rfl, rfl, rfl, by rw [World.size_setCell]; exact Nat.le_refl _, fun k hk hr => Below.heap_setCell W ⟨w.heap.size, i, none⟩ u k (fun q => hr (congrArg some q))⟩ (.inr hne)
        have ho9 := kept _ 3 (.int .i64 (PP : Nat)) (kept _ 2 (.slice A3 NS.length c3) (kept _ 1 (.string NM) (kept _ 0 (.int .i64 (k : Nat)) HO3.out)))
        have HO9 := Lib.hid ho9
        clear hne kept ho9
        clear hb9 he9
        go_wp2_with fail
        obtain ⟨w9, hw9⟩ : ∃ w9, (((((w3).setCell ⟨w.heap.size, 0, none⟩ (.int .i64 (k : Nat))).setCell ⟨w.heap.size, 1, none⟩ (.string NM)).setCell ⟨w.heap.size, 2, none⟩ (.slice A3 NS.length c3)).setCell ⟨w.heap.size, 3, none⟩ (.int .i64 (PP : Nat))) = w9 := ⟨_, rfl⟩
        rw [hw9] at HB9 HE9 ⊢
        rw [hw9] at HO9
        have v0 := HB9.out.cell 0
        have v1 := HB9.out.cell 1
        have v2 := HB9.out.cell 2
        have v3 := HB9.out.cell 3
        simp at v0 v1 v2 v3
        refine bodyPost_ret (v := .tuple #[.agg #[.int .i64 (k : Nat), .string NM, .slice A3 NS.length c3, .int .i64 (PP : Nat)], .int .i64 (q : Nat), .bool true]) ?_ rfl (by rw [← HRR.out, HBU.out, HALL.out]; exact ⟨_, _, rfl, HO9.out, HE9.out⟩)
        simp [results, Tryz.f21, go_sem, v0, v1, v2, v3]
      · have hqe : ((q : Int) == (m : Int)) = false := by rw [beq_eq_false_iff_ne]; have := HM.out; omega
        rw [if_neg hall] at hg
        have HRR := Lib.hid hg
        have hmx : max best q ≤ 100 := by omega
        clear hg hall hq
        go_wp2_with fail
        refine ⟨⟨max best q, k + 1, by omega, by omega, hmx, ?_, rfl, HRR, HB2, HK2⟩, ?_⟩
        · exact congrArg (Value.int .i64) (by omega)
        · simp only [intOf]; omega
    · have hlt' : ¬ (k : Int) ≤ 11 := by omega
      have hg := HG.out
      rw [show 12 - k = 0 by omega] at hg
      simp only [readN] at hg
      have HRR := Lib.hid hg
      clear hg
      have s0 := HK.out.cell 0
      have s1 := HK.out.cell 1
      have s2 := HK.out.cell 2
      have s3 := HK.out.cell 3
      simp at s0 s1 s2 s3
      have y0 := HK.out.frozen 0
      have y1 := HK.out.frozen 1
      have y2 := HK.out.frozen 2
      have y3 := HK.out.frozen 3
      have hb9 := (((HK.out.set_ 0 (.int .i64 0)).set_ 1 (.string ⟨#[]⟩)).set_ 2 (.slice none 0 0)).set_ 3 (.int .i64 0)
      have he9 : Below w.heap.size w (((((wr).setCell ⟨w.heap.size, 0, none⟩ (.int .i64 0)).setCell ⟨w.heap.size, 1, none⟩ (.string ⟨#[]⟩)).setCell ⟨w.heap.size, 2, none⟩ (.slice none 0 0)).setCell ⟨w.heap.size, 3, none⟩ (.int .i64 0)) := (((HB.out.setCell (p := ⟨w.heap.size, 0, none⟩) (Nat.le_refl _) _).setCell (p := ⟨w.heap.size, 1, none⟩) (Nat.le_refl _) _).setCell (p := ⟨w.heap.size, 2, none⟩) (Nat.le_refl _) _).setCell (p := ⟨w.heap.size, 3, none⟩) (Nat.le_refl _) _
      have HB9 := Lib.hid hb9
      have HE9 := Lib.hid he9
      clear hb9 he9
      go_wp2_with fail
      obtain ⟨w9, hw9⟩ : ∃ w9, (((((wr).setCell ⟨w.heap.size, 0, none⟩ (.int .i64 0)).setCell ⟨w.heap.size, 1, none⟩ (.string ⟨#[]⟩)).setCell ⟨w.heap.size, 2, none⟩ (.slice none 0 0)).setCell ⟨w.heap.size, 3, none⟩ (.int .i64 0)) = w9 := ⟨_, rfl⟩
      rw [hw9] at HB9 HE9 ⊢
      have v0 := HB9.out.cell 0
      have v1 := HB9.out.cell 1
      have v2 := HB9.out.cell 2
      have v3 := HB9.out.cell 3
      simp at v0 v1 v2 v3
      refine bodyPost_ret (v := .tuple #[.agg #[.int .i64 0, .string ⟨#[]⟩, .slice none 0 0, .int .i64 0], .int .i64 (best : Nat), .bool false]) ?_ rfl (by rw [← HRR.out]; exact ⟨rfl, HE9.out⟩)
      simp [results, Tryz.f21, go_sem, v0, v1, v2, v3]
end Go.Proofs.YtjfcdfhcmkdicaaGreatDoor.Ps
