/- tree.Root and tree.Proof, over the levels. -/
import Derived.Test.YthaibmkieflafaaTrLev
namespace Go.Proofs.Ythaibmkieflafaa.Tr
open Go.RowKit Go.Shelf Go.Proofs.Ythaibmkieflafaa.Dig
set_option linter.unusedVariables false
attribute [local go_sem] Oper.semAt_some

theorem LV.own (ls : List UInt64) (B : Nat) (pre : List Lv) (x : Lv) (h : Nat) : OwnFrom B (fun (_ : Unit) W => LV ls pre x h W) := fun _ A A' row hs hg hr => ⟨hs.1, row_own hs.2 hg (fun r e => (hr r e).2)⟩
/-- A level in hand: where it lies. -/
theorem LV.form {ls : List UInt64} {pre : List Lv} {x : Lv} {h : Nat} {W : World} (hl : LV ls pre x h W) (h0 : 0 < ls.length) : ∃ g c, x.v = .slice (some ⟨g, 0, none⟩) (lev ls pre.length).length c ∧ x.A = some ⟨g, 0, none⟩ ∧ h ≤ g ∧ g < W.heap.size ∧
    (∃ cs, W.heap[g]? = some (.cells cs 23 (0, 0))) ∧ ∀ j, j < (lev ls pre.length).length → W.cell? ⟨g, j, none⟩ = some (u64 ((lev ls pre.length).getD j 0)) := by
  obtain ⟨hlt, hr⟩ := hl
  obtain ⟨A, n, c⟩ := x
  dsimp only [Lv.v] at hr
  have hn : n = (lev ls pre.length).length := by simpa using hr.1.symm
  have hp := lev_pos h0 pre.length
  rcases hr.2 with ⟨_, h2⟩ | ⟨g, cap, cur, h1, h2, h3, _⟩
  · omega
  · injection h1 with h1 h1' h1''
    subst h1
    subst hn
    obtain ⟨h4, h5, h6⟩ := row_cells hr hp
    exact ⟨g, c, rfl, rfl, h2, h4, ⟨cur, h3⟩, h6⟩
theorem LK.of {x : Lv} {W W' : World} (hs : W.heap.size ≤ W'.heap.size) {g B : Nat} {t : TypeId} {cs : Array Value} (hx : x.A = some ⟨g, 0, none⟩) (hB : Blk W B t cs) (hne : g ≠ B) (hk : ∀ k, k ≠ B → k < W.heap.size → W'.heap[k]? = W.heap[k]?) : LK x W W' := by
  refine ⟨hs, fun g' t' cs' fz e h1 => ?_, fun k d h1 => ?_⟩
  · rw [hx] at e
    injection e with e
    injection e with e
    subst e
    rw [hk _ hne (Array.getElem?_eq_some_iff.1 h1).1]
    exact h1
  · rw [hk k (by rintro rfl; rw [show W.heap[k]? = _ from hB] at h1; cases h1) (Array.getElem?_eq_some_iff.1 h1).1]
    exact h1

theorem root_bad (A : Option Addr) (n c B : Nat) (l : List Pg) (hv : okp l = false) (w : World) (hR : Pgs w B A n l) (hn : n ≤ maxLen) :
    Calls Try.prog 27 #[.slice A n c] w fun e w' => e = .returned (.tuple #[u64 0, i64 1]) ∧ Below w.heap.size w w' := by
  refine (callsIn_wide (n := 6)).1 ?_
  refine callsIn_of_wp_marks Try.func27 rfl trivial ?_ rfl
  simp only [Try.ntmps27, List.size_toArray, List.length_cons, List.length_nil, Nat.reduceAdd, Nat.reduceSub, Array.replicate_succ, Array.replicate_zero, List.push_toArray, List.append_toArray, List.nil_append, List.cons_append]
  gi_wp2_with fail
  refine ⟨trivial, (callsIn_wide.2 (arePages_val A n c B l false hv w hR hn)).mono ?_⟩
  rintro e w1 ⟨rfl, rfl⟩
  gi_wp2_with fail
  exact ⟨_, results_tmp2 rfl _ _ _, rfl, Below.refl _ _⟩

/-- Root's cell when some levels have come. -/
def RI (S : Nat) (ls : List UInt64) (pre : List Lv) (W : World) : Prop := Blk W S 23 #[u64 (rt ls pre.length)]

theorem RI.own (S : Nat) (ls : List UInt64) : Own (RI S ls) := fun _ _ _ _ h hg hr => blk_own h hg hr
set_option maxRecDepth 100000 in
set_option maxHeartbeats 2000000 in
theorem root_good (A : Option Addr) (n c : Nat) (l : List Pg) (hv : okp l = true) (w : World) (hR : Pgs w w.heap.size A n l) (hn : n ≤ maxLen) :
    Calls Try.prog 27 #[.slice A n c] w fun e w' => e = .returned (.tuple #[u64 (top (lvs l)), i64 0]) ∧ Below w.heap.size w w' := by
  have hok : 1 ≤ n ∧ n ≤ 16 := by
    have := hR.len
    unfold okp at hv
    simp only [Bool.and_eq_true, decide_eq_true_eq] at hv
    omega
  have hls : 0 < (lvs l).length := by rw [lvs_length, hR.len]; omega
  refine (callsIn_wide (n := 6)).1 ?_
  refine callsIn_of_wp_marks Try.func27 rfl trivial ?_ rfl
  simp only [Try.ntmps27, List.size_toArray, List.length_cons, List.length_nil, Nat.reduceAdd, Nat.reduceSub, Array.replicate_succ, Array.replicate_zero, List.push_toArray, List.append_toArray, List.nil_append, List.cons_append]
  gi_wp2_with fail
  refine ⟨trivial, (callsIn_wide.2 (arePages_val A n c _ l true hv w hR hn)).mono ?_⟩
  rintro e w1 ⟨rfl, rfl⟩
  gi_wp2_with fail
  refine ⟨trivial, (levels_in _ _ _ _ _ rfl).mono ?_⟩
  rintro e w1 ⟨rfl, rfl⟩
  gi_wp2_with fail
  have b0 := (Blk.new w 23 #[u64 0]).alloc (.cells #[.slice A n c] 38)
  have b1 := Blk.new (w.alloc (.cells #[u64 0] 23)) 38 #[.slice A n c]
  simp only [World.size_alloc] at b1
  have hB := ((Below.refl w.heap.size w).alloc (Nat.le_refl _) (.cells #[u64 0] 23)).alloc (by simp) (.cells #[.slice A n c] 38)
  have hz : ((w.alloc (.cells #[u64 0] 23)).alloc (.cells #[.slice A n c] 38)).heap.size = w.heap.size + 2 := by simp
  obtain ⟨W0, hW0⟩ : ∃ W0, (w.alloc (.cells #[u64 0] 23)).alloc (.cells #[.slice A n c] 38) = W0 := ⟨_, rfl⟩
  have hW0' : (w.alloc (.cells #[.int .u64 0] 23)).alloc (.cells #[.slice A n c] 38) = W0 := hW0
  rw [hW0] at b0 b1 hB hz
  rw [hW0']
  clear hW0 hW0'
  refine wpIn_rv [(5, 11)] (fun x : Lv => [(11, x.v)]) (gf := 52) (lb := #[.pointer (some ⟨w.heap.size + 1, 0, none⟩)]) rfl (enters_of Try.func52 (by kernel_rfl) rfl)
    (levels_seq (w.heap.size + 1) w.heap.size n c A l hok.1 hok.2 W0 b1 (hR.below' hB (Nat.le_refl _)) (by omega)) (fun h k => h.trans k) (fun x W l r o' _ hW => LK.put x W l r o' hW) (fun _ => rfl) (fun pre x h => LV.own _ _ pre x h)
    (fun pre W => RI w.heap.size (lvs l) pre W ∧ Below w.heap.size w W) (OwnFrom.and (Own.from (RI.own _ _) _) (ownFrom_below (Nat.le_refl _) (by omega)))
    ⟨b0, hB⟩ ?assign ?body ?done
  case assign =>
    intro l₁ x W K hK
    simp only [rfL, List.foldl_cons, List.foldl_nil, List.set_cons_succ, List.set_cons_zero, List.getD_cons_succ, List.getD_cons_zero] at hK
    gi_wp2
    exact hK
  case body =>
    rintro l₁ pre x Wp W ⟨hI, hB1⟩ hs hBp hV
    obtain ⟨g, c', hx, hxA, hg, hgW, _, hcell⟩ := hV.form hls
    have hb := hI.up' hBp
    have c0 := hcell 0 (lev_pos hls _)
    have hlt := hV.1
    simp only [rfL, List.foldl_cons, List.foldl_nil, List.set_cons_succ, List.set_cons_zero, List.getD_cons_succ, List.getD_cons_zero]
    have hp := lev_pos hls pre.length
    rw [hx]
    have hrt : rt (lvs l) (pre ++ [x]).length = (lev (lvs l) pre.length).getD 0 0 := by
      rw [List.length_append]
      show (lev (lvs l) pre.length).headD 0 = _
      cases lev (lvs l) pre.length <;> rfl
    have HI : Hid (∀ W', Blk W' w.heap.size 23 #[u64 ((lev (lvs l) pre.length).getD 0 0)] → RI w.heap.size (lvs l) (pre ++ [x]) W') := fun W' h => by unfold RI; rw [hrt]; exact h
    clear hrt
    generalize (lev (lvs l) pre.length).getD 0 0 = y at *
    generalize (lev (lvs l) pre.length).length = m at *
    have hB2 := hB1.trans (hBp.mono hB1.size)
    have k0 := hb.cell 0
    have k1 := hb.frozen 0
    have HB := Lib.hid hb
    clear hb hI hcell hV hx
    gi_wp2_with fail
    refine ⟨keepsFrom_set _ _ _, LK.of (by simp [World.setCell]) hxA HB.out (by omega) (fun k hk _ => Below.heap_setCell _ ⟨w.heap.size, 0, none⟩ _ _ hk), HI.out _ (HB.out.set_ 0 _), hB2.setCell (p := ⟨w.heap.size, 0, none⟩) (Nat.le_refl _) _⟩
  case done =>
    rintro D ys W hD hys ⟨hI, hB1⟩ hK
    have hI' : Blk W w.heap.size 23 #[u64 (top (lvs l))] := by
      have := hI
      unfold RI at this
      rwa [hys, rt_all] at this
    have k0 := hI'.cell 0
    clear hI hI'
    gi_wp2_with fail
    refine ⟨by simp, .inl ⟨_, _, rfl, run_takeDeferred hK, ?_⟩⟩
    exact ⟨_, results_tmp2 rfl _ _ _, rfl, hB1.trans (belowK_b (w := W0) (by omega) W D _ _ hD hK rfl rfl)⟩
end Go.Proofs.Ythaibmkieflafaa.Tr
