/- slices.Clone, parser.Strip. -/
import Derived.WalkSpells
import Derived.Test.YtmdogklgbifacaaDoorPrJoin
namespace Go.Proofs.YtmdogklgbifacaaDoor.Ps
open Go.RowKit Go.Proofs.YtmdogklgbifacaaDoor.Lx Go.Proofs.YtmdogklgbifacaaDoor.Pr
set_option linter.unusedVariables false

def bareC (x : Cm) : Cm := { x with pos := 0 }
set_option maxRecDepth 100000 in
set_option maxHeartbeats 1000000 in
theorem clone_val (A : Option Addr) (n c : Nat) (l : List Cm) (w : World) (h : IsCms w A n c l) (hn : n ≤ 100000) :
    Calls Tryd.prog 31 #[.slice A n c] w fun e w' => ∃ A' c', e = .returned (.slice A' n c') ∧ w'.ownsRow w.heap.size 46 4 (.slice A' n c') n (l.flatMap decC) ∧ Below w.heap.size w w' := by
  obtain ⟨i0, hi, hz0, hz1, hz2⟩ := info_parts info_cmd
  have HI := Lib.hid h
  have hnl := h.1
  clear h
  cases A with
  | none =>
    have h0 : n = 0 := by
      rcases Nat.eq_zero_or_pos n with h0 | h0
      · exact h0
      · obtain ⟨b, off, h, _⟩ := HI.out.2.1.2 h0
        cases h
    subst h0
    have hl : l = [] := List.eq_nil_of_length_eq_zero hnl
    subst hl
    have hq := fun (W : World) => Lib.run_eql_slice_nil (P := Tryd.prog) W 22 46 none 0 c 0 0 Tryd.underlying22
    clear hnl
    go_enter Tryd.func31, Tryd.ntmps31
    go_wp2_with fail
    go_ret
    exact ⟨none, 0, rfl, World.ownsRow_nil _ _ _ _, Below.refl _ _⟩
  | some ad =>
    have hq := fun (W : World) => Lib.run_eql_slice_nil (P := Tryd.prog) W 22 46 (some ad) n c 0 0 Tryd.underlying22
    have HO := Lib.hid (own_zero w 46 4)
    have HBa := Lib.hid ((Below.refl w.heap.size w).alloc (Nat.le_refl _) (.cells #[] 46))
    have HRa := Lib.hid (HI.out.2.1.below HBa.out)
    have HOa := Lib.hid (one_flat one_decC l)
    clear hnl
    go_enter Tryd.func31, Tryd.ntmps31
    go_wp2_with (at_builtin; refine wpList_append_rd _ rfl (.tmp 5) (.tmp 6) _ rfl w.heap.size 46 i0 _ 4 56 Tryd.underlying22 hi hz0 hz1 hz2 rfl (by decide) _ 0 _ rfl HO.out _ (some ad) n c _ rfl HRa.out HOa.out (by simp only [maxLen]; omega) (by omega) HBa.out.size ?_; intro Aw5 cw5 w5 hown hfm hg; have HO5 : Hid (w5.ownsRow w.heap.size 46 4 (.slice Aw5 n cw5) n (l.flatMap decC)) := Lib.hid (by rw [Nat.zero_add, List.nil_append] at hown; exact hown); have HB5 := Lib.hid (own_below HO.out hg HBa.out (Nat.le_refl _) HBa.out.size); clear hown hfm hg)
    go_ret
    exact ⟨Aw5, cw5, by simp, HO5.out, HB5.out⟩

/-- Row g holds at least the cells xs. -/
def RowIs (w : World) (g : Nat) (xs : List Value) (cap : Nat) : Prop := ∃ cs, Blk w g 46 cs ∧ cs.size = cap ∧ cs.toList.take xs.length = xs
theorem RowIs.cell {w : World} {g cap : Nat} {xs : List Value} (h : RowIs w g xs cap) {i : Nat} {u : Value} (hu : xs[i]? = some u) : w.cell? ⟨g, i, none⟩ = some u := by
  obtain ⟨cs, hb, _, ht⟩ := h
  have hi := (List.getElem?_eq_some_iff.1 hu).1
  rw [hb.cell i, ← hu, ← ht, List.getElem?_take, if_pos hi, Array.getElem?_toList]
theorem RowIs.frozen {w : World} {g cap : Nat} {xs : List Value} (h : RowIs w g xs cap) (i : Nat) : w.frozen? ⟨g, i, none⟩ = false := by
  obtain ⟨cs, hb, _, _⟩ := h
  exact hb.frozen i
theorem RowIs.set {w : World} {g cap : Nat} {xs : List Value} (h : RowIs w g xs cap) (i : Nat) (u : Value) : RowIs (w.setCell ⟨g, i, none⟩ u) g (xs.set i u) cap := by
  obtain ⟨cs, hb, hs, ht⟩ := h
  refine ⟨_, hb.set_ i u, by simpa using hs, ?_⟩
  rw [List.length_set, Array.toList_setIfInBounds, List.take_set, ht]
set_option maxRecDepth 100000 in
set_option maxHeartbeats 1000000 in
theorem strip_val (A : Option Addr) (n c : Nat) (l : List Cm) (w : World) (h : IsCms w A n c l) (hn : n ≤ 100000) :
    Calls Tryd.prog 17 #[.slice A n c] w fun e w' => ∃ A' c', e = .returned (.slice A' n c') ∧ IsCms w' A' n c' (l.map bareC) ∧ Below w.heap.size w w' := by
  have HC := Lib.hid (clone_val A n c l w h hn)
  have HI := Lib.hid h
  have HN := Lib.hid h.1
  clear h
  go_enter Tryd.func17, Tryd.ntmps17
  go_wp2_with fail
  refine HC.out.mono ?_
  rintro e w1 ⟨A1, c1, rfl, ho, hb1⟩
  have HB1 := Lib.hid hb1
  have HO := Lib.hid ho
  clear ho hb1
  by_cases h0 : n = 0
  · subst h0
    have hl : l = [] := List.eq_nil_of_length_eq_zero HN.out
    go_wp2_with fail
    go_loopw [9] (fun i wr => i = i64 0 ∧ w1 = wr) (fun _ _ => 0)
    case atStart => exact ⟨rfl, rfl⟩
    case round =>
      obtain ⟨rfl, rfl⟩ := hrel
      go_wp2_with fail
      go_ret
      refine ⟨A1, c1, rfl, ?_, HB1.out⟩
      rw [hl] at HO ⊢
      exact cms_own HO.out rfl (fun x hx => by cases hx)
  · obtain ⟨g, cap, cur, hv, hbg, hgg, hnc, hcm, hcs, htk⟩ : ∃ g cap cur, (Value.slice A1 n c1) = .slice (some ⟨g, 0, none⟩) n cap ∧ w.heap.size ≤ g ∧ w1.heap[g]? = some (.cells cur 46 (0, 0)) ∧ n ≤ cap ∧ cap ≤ maxLen ∧ cur.size = cap * 4 ∧ cur.toList.take (n * 4) = l.flatMap decC := by
      rcases HO.out.2 with ⟨_, h2⟩ | h2
      · exact absurd h2 h0
      · exact h2
    injection hv with hA _ hc
    subst hA hc
    have hlen : (l.flatMap decC).length = n * 4 := by rw [flat_len (k := 4) (fun _ => rfl), HN.out]
    have HR : Hid (RowIs w1 g (l.flatMap decC) (c1 * 4)) := Lib.hid ⟨cur, hgg, hcs, by rw [hlen]; exact htk⟩
    clear hgg hcs htk HO hlen
    go_wp2_with fail
    go_loopw [9, 4] (fun i z wr => ∃ (k : Nat) (zz : Value), k ≤ n ∧ i = i64 (k : Nat) ∧ z = zz ∧ Hid (RowIs wr g (((l.take k).map bareC ++ l.drop k).flatMap decC) (c1 * 4)) ∧ Hid (Below w.heap.size w wr)) (fun i _ _ => n - (intOf i).toNat)
    case atStart => exact ⟨0, _, Nat.zero_le _, rfl, rfl, HR, HB1⟩
    case round =>
      obtain ⟨k, zz, hk, rfl, rfl, HW, HB⟩ := hrel
      by_cases hlt : k < n
      · have hlt' : (k : Int) < (n : Int) := by omega
        have hkl : k < l.length := by rw [HN.out]; exact hlt
        have hL : ((l.take k).map bareC).length = k := by rw [List.length_map, List.length_take]; omega
        have hlk : k < ((l.take k).map bareC ++ l.drop k).length := by rw [List.length_append, hL, List.length_drop]; omega
        have hget : ((l.take k).map bareC ++ l.drop k)[k] = l[k] := by
          rw [List.getElem_append_right (by omega)]
          simp only [hL, Nat.sub_self, List.getElem_drop, Nat.add_zero]
        have hcell : wr.cell? ⟨g, k * 4 + 3, none⟩ = some (.int .i64 l[k].pos) := HW.out.cell (by
          rw [flat_get (k := 4) (fun _ => rfl) _ k 3 _ (List.getElem?_eq_getElem hlk) (by decide), hget]; rfl)
        have hfz : wr.frozen? ⟨g, k * 4 + 3, none⟩ = false := HW.out.frozen _
        have hset := HW.out.set (k * 4 + 3) (.int .i64 0)
        rw [flat_set (s := 4) (fun _ => rfl) _ k 3 _ (bareC l[k]) hlk (by decide) (by rw [hget]; rfl)] at hset
        have hnew : (((l.take k).map bareC ++ l.drop k).set k (bareC l[k])) = (l.take (k + 1)).map bareC ++ l.drop (k + 1) := by
          rw [List.set_append_right _ _ (by omega), hL, Nat.sub_self, List.drop_eq_getElem_cons hkl, List.set_cons_zero, List.take_succ_eq_append_getElem hkl, List.map_append, List.append_assoc]; rfl
        rw [hnew] at hset
        have HS := Lib.hid hset
        have HB2 : Hid (Below w.heap.size w (wr.setCell ⟨g, k * 4 + 3, none⟩ (.int .i64 0))) := Lib.hid (HB.out.setCell (p := ⟨g, k * 4 + 3, none⟩) hbg _)
        obtain ⟨pp, hpp⟩ : ∃ pp, l[k].pos = pp := ⟨_, rfl⟩
        rw [hpp] at hcell
        clear hset hnew hget hlk hL hpp hkl
        go_wp2_with fail
        case roundEnd =>
          refine ⟨⟨k + 1, _, by omega, rfl, rfl, HS, HB2⟩, ?_⟩
          simp only [intOf]; omega
      · have hlt' : ¬ (k : Int) < (n : Int) := by omega
        obtain rfl : k = n := by omega
        have hw := HW.out
        rw [List.take_of_length_le (by rw [HN.out]; exact Nat.le_refl _), List.drop_of_length_le (by rw [HN.out]; exact Nat.le_refl _), List.append_nil] at hw
        have HF := Lib.hid hw
        clear hw
        go_wp2_with fail
        go_ret
        refine ⟨_, _, rfl, ⟨by rw [List.length_map]; exact HN.out, ⟨by rw [flat_len (k := 4) (fun _ => rfl), List.length_map, HN.out], fun _ => ⟨g, 0, rfl, ?_, fun j u hu => ?_⟩⟩, hnc, hcm, fun x hx => ?_⟩, HB.out⟩
        · obtain ⟨cs, hb, _⟩ := HF.out; exact hb.lt
        · rw [Nat.zero_add]; exact HF.out.cell hu
        · obtain ⟨y, hy, rfl⟩ := List.mem_map.1 hx
          have := (HI.out.up HB.out).2.2.2.2 y hy
          exact ⟨this.kind, this.name, this.rd, this.len, this.nc, this.cm, this.wf, show w64 0 by decide⟩
end Go.Proofs.YtmdogklgbifacaaDoor.Ps
