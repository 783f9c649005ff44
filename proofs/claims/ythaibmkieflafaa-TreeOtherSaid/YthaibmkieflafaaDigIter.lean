/- digest.words (an iterator over the bytes of one string) and digest.Add over it. -/
import Derived.RangeFuncNested
import Derived.RangeFuncBound
import Derived.RangeFuncCalls
import Derived.RangeFuncLeaves
import Derived.Shelf.Abstract
import Derived.Shelf.RegionOpen
import Derived.OwnWalkIn
import Derived.TacticsInMore
import Derived.LoopNIn
import Derived.LoopIn
import Derived.Test.YthaibmkieflafaaDigWalk
namespace Go.Proofs.Ythaibmkieflafaa.Dig
open Go.RowKit Go.Shelf
attribute [local go_sem] Oper.semAt_some

set_option maxRecDepth 100000 in
set_option maxHeartbeats 1000000 in
theorem words1_in (l Bs n₀ bp cp n c : Nat) (A : Option Addr) (bs : List UInt8) (hn : n ≤ maxLen) (J Jx : List UInt8 → World → Prop)
    (hY : ∀ pre x W, J pre W → pre.length < bs.length → YieldAt Fence.wide 3 Try.prog l #[u64 x.toUInt64] W fun e W' =>
      (e = .returned (.bool true) ∧ J (pre ++ [x]) W' ∧ Below n₀ W W') ∨ (e = .returned (.bool false) ∧ Jx (pre ++ [x]) W'))
    (W : World) (hBs : W.cell? ⟨Bs, 0, none⟩ = some (.slice (some ⟨bp, 0, none⟩) 1 cp)) (hbp : W.cell? ⟨bp, 0, none⟩ = some (.slice A n c)) (hR : Rd W n₀ 1 A n (bs.map ub)) (h0 : J [] W) :
    CallsIn Fence.wide 4 Try.prog 49 #[.func (.yield l) #[] #[], .pointer (some ⟨Bs, 0, none⟩)] W fun e W' => (∃ v, e = .returned v) ∧
      ((∃ ys, ys = bs ∧ J ys W') ∨ (∃ pre, pre <+: bs ∧ Jx pre W')) := by
  unfold maxLen at hn
  have hl : bs.length = n := by simpa using hR.1
  have HL := Lib.hid hl; clear hl
  have H0 := Lib.hid h0; clear h0
  refine callsIn_of_wp Try.func49 rfl trivial ?_ rfl
  simp only [Try.ntmps49, List.size_toArray, List.length_cons, List.length_nil, Nat.reduceAdd, Nat.reduceSub, Array.replicate_succ, Array.replicate_zero, List.push_toArray, List.append_toArray, List.nil_append, List.cons_append]
  gi_wp2
  gi_loopw [9] (fun i wr => (i = .int .i64 0 ∧ W = wr) ∨ (i = .int .i64 1 ∧ Hid (J bs wr)))
    (fun i _ => 2 - (intOf i).toNat)
  case atStart => exact .inl ⟨rfl, rfl⟩
  case round =>
    rcases hrel with ⟨rfl, rfl⟩ | ⟨rfl, HJ⟩
    · gi_wp2
      gi_loopw [15] (fun i wr => ∃ k : Nat, k ≤ n ∧ i = .int .i64 k ∧ Hid (J (bs.take k) wr) ∧ Below n₀ W wr)
        (fun i _ => n - (intOf i).toNat)
      case atStart => exact ⟨0, Nat.zero_le _, rfl, H0, Below.refl _ _⟩
      case round =>
        obtain ⟨k, hk, rfl, HJ, hnx⟩ := hrel
        by_cases hlt : k < n
        · obtain ⟨b, off, u, rfl, hb, hx, hc⟩ := (hR.below hnx).at_ hlt
          have hkl : k < bs.length := by have := HL.out; omega
          have hu : u = ub bs[k] := by rw [List.getElem?_map, List.getElem?_eq_getElem hkl] at hx; simpa using hx.symm
          subst hu
          clear hx
          obtain ⟨fn, tmps, assign, body, hy, hRd⟩ := hY _ bs[k] wr HJ.out (by rw [List.length_take]; omega)
          rw [u64_byte] at hy
          gi_wp2
          refine hRd.mono ?_
          rintro e W3 (⟨rfl, hJ3, hk3⟩ | ⟨rfl, hJx3⟩)
          · have HJ3 := Lib.hid hJ3; clear hJ3
            gi_wp2
            go_roundw
            case rel => exact ⟨k + 1, by omega, by simp, by rw [List.take_succ_eq_append_getElem hkl]; exact HJ3, hnx.trans hk3⟩
            case measure => simp [intOf]; omega
          · have HJx3 := Lib.hid hJx3; clear hJx3
            gi_wp2
            refine bodyPost_ret (results_none rfl _ _ _) rfl ?_
            exact ⟨⟨_, rfl⟩, .inr ⟨_, ⟨bs.drop (k + 1), by rw [← List.take_succ_eq_append_getElem hkl, List.take_append_drop]⟩, HJx3⟩⟩
        · have hkn : k = bs.length := by have := HL.out; omega
          have HJ2 : Hid (J bs wr) := by rw [hkn, List.take_length] at HJ; exact HJ
          clear HJ hkn
          gi_wp2
          go_roundw
          case rel => exact .inr ⟨rfl, HJ2⟩
          case measure => simp [intOf]
    · gi_wp2
      go_end0
      exact ⟨⟨_, rfl⟩, .inl ⟨_, rfl, HJ⟩⟩

theorem words_in (v : Value) (w : World) (A : Option Addr) (n c : Nat) (hv : v = .slice A n c) :
    CallsIn Fence.wide 4 Try.prog 38 #[v] w fun e w' => e = .returned (.func (.func 49) #[] #[.pointer (some ⟨w.heap.size, 0, none⟩)]) ∧ w.alloc (.cells #[v] 38) = w' := by
  subst hv
  refine callsIn_of_wp Try.func38 rfl trivial ?_ rfl
  simp only [Try.ntmps38, List.size_toArray, List.length_cons, List.length_nil, Nat.reduceAdd, Nat.reduceSub, Array.replicate_succ, Array.replicate_zero, List.push_toArray, List.append_toArray, List.nil_append, List.cons_append]
  gi_wp2
  go_ret
  exact ⟨rfl, rfl⟩

theorem words_stops (Bs n₀ bp cp n c : Nat) (A : Option Addr) (bs : List UInt8) (hn : n ≤ maxLen) (w : World) (hlt : Bs < w.heap.size) (hlp : bp < w.heap.size) (hn₀ : n₀ ≤ w.heap.size)
    (hBs : w.cell? ⟨Bs, 0, none⟩ = some (.slice (some ⟨bp, 0, none⟩) 1 cp)) (hbp : w.cell? ⟨bp, 0, none⟩ = some (.slice A n c)) (hR : Rd w n₀ 1 A n (bs.map ub)) :
    SeqStopsK Fence.wide 4 Try.prog 49 #[.pointer (some ⟨Bs, 0, none⟩)] (fun x : UInt8 => #[u64 x.toUInt64]) (Below n₀) (fun ys => ys = bs) (fun pre => pre <+: bs) bs.length w := fun l J Jx W hW _ _ hY h0 =>
  words1_in l Bs n₀ bp cp n c A bs hn J Jx hY W ((hW.cell (p := ⟨Bs, 0, none⟩) hlt).trans hBs) ((hW.cell (p := ⟨bp, 0, none⟩) hlp).trans hbp) (hR.below' hW hn₀) h0

set_option maxRecDepth 100000 in
set_option maxHeartbeats 1000000 in
theorem add_in (x : UInt64) (A : Option Addr) (n c : Nat) (bs : List UInt8) (w : World) (hR : Rd w w.heap.size 1 A n (bs.map ub)) (hn : n ≤ maxLen) :
    CallsIn Fence.wide 5 Try.prog 18 #[u64 x, .slice A n c] w fun e w' => e = .returned (u64 (dadd x bs)) ∧ Below w.heap.size w w' := by
  refine callsIn_of_wp_marks Try.func18 rfl trivial ?_ rfl
  simp only [Try.ntmps18, List.size_toArray, List.length_cons, List.length_nil, Nat.reduceAdd, Nat.reduceSub, Array.replicate_succ, Array.replicate_zero, List.push_toArray, List.append_toArray, List.nil_append, List.cons_append]
  gi_wp2_with (refine ⟨trivial, ?_⟩; gi_at_call 38; refine (words_in _ _ _ _ _ rfl).mono ?_; rintro e w' ⟨rfl, rfl⟩)
  have b0 := Boxed.new w 56 (u64 x)
  have b1 := Boxed.new (w.alloc (.cells #[u64 x] 56)) 22 (.slice A n c)
  have b2 := Boxed.new ((w.alloc (.cells #[u64 x] 56)).alloc (.cells #[.slice A n c] 22)) 38 (.slice (some ⟨w.heap.size + 1, 0, none⟩) 1 1)
  simp only [World.size_alloc] at b1 b2
  have hB0 : Below w.heap.size w (((w.alloc (.cells #[u64 x] 56)).alloc (.cells #[.slice A n c] 22)).alloc (.cells #[.slice (some ⟨w.heap.size + 1, 0, none⟩) 1 1] 38)) :=
    (((Below.refl _ w).alloc (Nat.le_refl _) _).alloc (by simp) _).alloc (by simp; omega) _
  refine wpIn_rangeFunc_ownG rfl (by decide) (gf := 49) (lb := #[.pointer (some ⟨w.heap.size + 1 + 1, 0, none⟩)]) rfl trivial (enters_of Try.func49 (by kernel_rfl) rfl)
    (words_stops (w.heap.size + 1 + 1) w.heap.size (w.heap.size + 1) 1 n c A bs hn _ (by simp) (by simp <;> omega) (by simp <;> omega) b2.cell ((b1.alloc _).cell) (hR.below hB0)) belowK_t (belowK_b (by simp; omega)) (Below.refl _ _) (fun _ => rfl)
    (fun pre W => Boxed W w.heap.size 56 (u64 (dadd x pre)) ∧ Below w.heap.size w W)
    (fun _ _ _ => False)
    (OwnFrom.and (Own.from (boxed_own _ _ _) _) (ownFrom_below (Nat.le_refl _) (by simp; omega)))
    (fun _ _ _ _ _ hs _ _ => hs)
    ⟨(b0.alloc _).alloc _, hB0⟩
    (fun y => { tmps := #[u64 x, .slice A n c, undef, undef, .int .u64 0, .pointer (some ⟨w.heap.size, 0, none⟩), u64 y.toUInt64, u64 x, .slice A n c, .slice (some ⟨w.heap.size + 1, 0, none⟩) 1 1, .func (.func 49) #[] #[.pointer (some ⟨w.heap.size + 1 + 1, 0, none⟩)], u64 y.toUInt64, undef, undef, undef, undef], defers := [] }) ?assign ?body ?done ?stop
  case assign =>
    intro l x W K hK
    gi_wp2
    exact hK
  case body =>
    rintro l pre y W ⟨hb, hB⟩ _
    have hc := hb.cell
    have hf := hb.frozen
    gi_wp2_with (refine ⟨trivial, ?_⟩; gi_at_call 39; refine (CallsIn.inRound l (callsIn_wide.2 (step_any _ _ _))).mono ?_; rintro e w' ⟨rfl, rfl⟩)
    exact ⟨(KeepsOthers.setCell _ _ _).from _, (Below.refl w.heap.size W).setCell (p := ⟨w.heap.size, 0, none⟩) (Nat.le_refl _) _, by rw [dadd_snoc]; exact hb.set _, hB.setCell (p := ⟨w.heap.size, 0, none⟩) (Nat.le_refl _) _⟩
  case done =>
    rintro D ys W hD rfl ⟨hb, hB⟩ hK
    have hc := hb.cell
    gi_wp2
    refine ⟨by simp, .inl ⟨_, _, rfl, run_takeDeferred hK, ?_⟩⟩
    exact ⟨_, results_tmp rfl _ _ _, rfl, hB.trans (belowK_b (w := w) (Nat.le_refl _) W D _ _ (by simp at hD; omega) hK rfl rfl)⟩
  case stop =>
    rintro D c pre W _ _ h _
    exact h.elim

theorem add_any (x : UInt64) (A : Option Addr) (n c : Nat) (bs : List UInt8) (w : World) (hR : Rd w w.heap.size 1 A n (bs.map ub)) (hn : n ≤ maxLen) :
    Calls Try.prog 18 #[u64 x, .slice A n c] w fun e w' => e = .returned (u64 (dadd x bs)) ∧ Below w.heap.size w w' :=
  callsIn_wide.1 (add_in x A n c bs w hR hn)
end Go.Proofs.Ythaibmkieflafaa.Dig
