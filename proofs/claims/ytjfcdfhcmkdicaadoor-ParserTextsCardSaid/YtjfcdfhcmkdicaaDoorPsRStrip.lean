/- The reference: Strip. -/
import Derived.Test.YtjfcdfhcmkdicaaDoorPsA
namespace Go.Proofs.YtjfcdfhcmkdicaaDoor.Ps
open Go.RowKit Go.Proofs.YtjfcdfhcmkdicaaDoor.Lx Go.Proofs.YtjfcdfhcmkdicaaDoor.Pr
set_option linter.unusedVariables false

set_option maxRecDepth 100000 in
set_option maxHeartbeats 2000000 in
theorem rstrip_val (A : Option Addr) (n c : Nat) (l : List Cm) (w : World) (h : IsCms w A n c l) (hn : n ≤ 100000) :
    Calls Tryd.prog 16 #[.slice A n c] w fun e w' => ∃ A' c', e = .returned (.slice A' n c') ∧ IsCms w' A' n c' (l.map bareC) ∧ Below w.heap.size w w' := by
  obtain ⟨i0, hi, hz0, hz1, hz2⟩ := info_parts info_cmd
  have HI := Lib.hid h
  have HN := Lib.hid h.1
  clear h
  go_enter Tryd.func16, Tryd.ntmps16
  go_wp2_with fail
  go_loopw [3, 4] (fun o i wr => ∃ (k : Nat) (O : Option Addr) (oc : Nat), k ≤ n ∧ o = .slice O k oc ∧ i = i64 (k : Nat) ∧ Hid (wr.ownsRow w.heap.size 29 4 (.slice O k oc) k (((l.take k).map bareC).flatMap decC)) ∧ Hid (Below w.heap.size w wr)) (fun _ i _ => n - (intOf i).toNat)
  case atStart => exact ⟨0, none, 0, Nat.zero_le _, rfl, rfl, Lib.hid (World.ownsRow_nil _ _ _ _), Lib.hid (Below.refl _ _)⟩
  case round =>
    obtain ⟨k, O, oc, hk, rfl, rfl, HO, HB⟩ := hrel
    by_cases hlt : k < n
    · have hlt' : (k : Int) < (n : Int) := by omega
      have hkl : k < l.length := by rw [HN.out]; exact hlt
      obtain ⟨b, off, rfl, hb, hc⟩ := rd_el (dec := decC) (s := 4) (fun _ => rfl) (HI.out.up HB.out).2.1 HN.out hkl
      have htk : (l.take (k + 1)).map bareC = (l.take k).map bareC ++ [bareC l[k]] := by rw [List.take_succ_eq_append_getElem hkl, List.map_append]; rfl
      obtain ⟨⟨xk, xm, xA, xn, xc, xs, xp⟩, hx⟩ : ∃ x, l[k] = x := ⟨_, rfl⟩
      rw [hx] at hc htk
      have c0 := hc 0 _ rfl
      have c1 := hc 1 _ rfl
      have c2 := hc 2 _ rfl
      have c3 := hc 3 _ rfl
      rw [Nat.add_zero] at c0
      dsimp only at c0 c1 c2 c3
      have HTK : Hid (((l.take (k + 1)).map bareC).flatMap decC = ((l.take k).map bareC).flatMap decC ++ [.int .i64 xk, .string xm, .slice xA xn xc, .int .i64 0]) := Lib.hid (by rw [htk, List.flatMap_append, List.flatMap_singleton]; rfl)
      obtain ⟨W2, hW2⟩ : ∃ W2, wr.alloc (.cells #[.int .i64 xk, .string xm, .slice xA xn xc, .int .i64 0] 29) = W2 := ⟨_, rfl⟩
      have hbb : Below wr.heap.size wr W2 := by rw [← hW2]; exact (Below.refl _ wr).alloc (Nat.le_refl _) _
      have hsz : W2.heap.size = wr.heap.size + 1 := by rw [← hW2]; simp
      have BT := Lib.hid (Blk.new wr 29 #[.int .i64 xk, .string xm, .slice xA xn xc, .int .i64 xp])
      have z3 := BT.out.frozen 3
      have b3 := BT.out.cell 3
      have hBa := (below_trans' HB.out hbb).alloc (below_trans' HB.out hbb).size (.cells #[.int .i64 xk, .string xm, .slice xA xn xc, .int .i64 0] 29)
      have hOa := (own_keep HO.out hbb).kept (World.grownBy_alloc W2 (.cells #[.int .i64 xk, .string xm, .slice xA xn xc, .int .i64 0] 29) none) (Classical.em _)
      have hRa := rd_fresh W2 29 #[.int .i64 xk, .string xm, .slice xA xn xc, .int .i64 0] 4 1 [.int .i64 xk, .string xm, .slice xA xn xc, .int .i64 0] rfl rfl
      rw [hsz] at hRa
      rw [← hW2] at hBa hOa hRa
      have HBA := Lib.hid hBa
      have HOA := Lib.hid hOa
      have HRA := Lib.hid hRa
      have HON : Hid (∀ u ∈ [Value.int .i64 xk, .string xm, .slice xA xn xc, .int .i64 0], u.oneCell' = true) := Lib.hid (fun u hu => by
        simp only [List.mem_cons, List.not_mem_nil, or_false] at hu
        rcases hu with rfl | rfl | rfl | rfl <;> rfl)
      have h63 : k + 1 ≤ maxLen := by simp only [maxLen]; omega
      have hby : (k + 1) * 56 ≤ 140737488355328 := by omega
      simp at b3
      clear hb hc hx htk hbb hsz hBa hOa hRa hW2 hkl
      go_wp2_with (at_builtin; refine wpList_append_rd _ rfl (.tmp 17) (.tmp 19) _ rfl w.heap.size 29 i0 _ 4 56 Tryd.underlying23 hi hz0 hz1 hz2 rfl (by decide) _ k _ rfl HOA.out _ (some ⟨wr.heap.size + 1, 0, none⟩) 1 1 _ rfl HRA.out HON.out h63 hby HBA.out.size ?_; intro A5 c5 w5 hown hfm hgr; have HO5 := Lib.hid hown; have HB5 := Lib.hid (own_below HOA.out hgr HBA.out (Nat.le_refl _) HBA.out.size); clear hown hfm hgr)
      refine ⟨⟨k + 1, A5, c5, by omega, rfl, rfl, Lib.hid (by rw [HTK.out]; exact HO5.out), HB5⟩, ?_⟩
      simp only [intOf]; omega
    · have hlt' : ¬ (k : Int) < (n : Int) := by omega
      obtain rfl : k = n := by omega
      have hw := HO.out
      rw [List.take_of_length_le (by rw [HN.out]; exact Nat.le_refl _)] at hw
      have HF := Lib.hid hw
      clear hw HO
      go_wp2_with fail
      go_ret
      refine ⟨_, _, rfl, cms_own HF.out (by rw [List.length_map]; exact HN.out) (fun x hx => ?_), HB.out⟩
      obtain ⟨y, hy, rfl⟩ := List.mem_map.1 hx
      have := (HI.out.up HB.out).2.2.2.2 y hy
      exact ⟨this.kind, this.name, this.rd, this.len, this.nc, this.cm, this.wf, show w64 0 by decide⟩
end Go.Proofs.YtjfcdfhcmkdicaaDoor.Ps
