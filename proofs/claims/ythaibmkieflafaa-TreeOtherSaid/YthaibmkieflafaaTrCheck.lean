/- tree.walk (an iterator that keeps its state in captured variables) and tree.Check. -/
import Derived.Test.YthaibmkieflafaaRv3
import Derived.Test.YthaibmkieflafaaTrProof
import Derived.Test.YthaibmkieflafaaFl2
namespace Go.Proofs.Ythaibmkieflafaa.Tr
open Go.RowKit Go.Shelf Go.Proofs.Ythaibmkieflafaa.Dig
set_option linter.unusedVariables false
attribute [local go_sem] Oper.semAt_some

/-- What walk hands over. -/
def stps (n i : Nat) : List (Bool × Bool) := if h : n ≤ 1 then [] else (decide (sib i < n), decide (i % 2 = 1)) :: stps ((n + 1) / 2) (i / 2)
termination_by n
theorem stps_nil {n i : Nat} (h : n ≤ 1) : stps n i = [] := by rw [stps, dif_pos h]
theorem stps_cons {n i : Nat} (h : ¬ n ≤ 1) : stps n i = (decide (sib i < n), decide (i % 2 = 1)) :: stps ((n + 1) / 2) (i / 2) := by rw [stps, dif_neg h]
/-- What Check makes of one step. -/
def chk (s : Option (UInt64 × List UInt64)) (p : Bool × Bool) : Option (UInt64 × List UInt64) :=
  s.bind fun (x, pr) => if p.1 then (match pr with | [] => none | d :: pr => some (if p.2 then pair d x else pair x d, pr)) else some (x, pr)
theorem chk_none (l : List (Bool × Bool)) : l.foldl chk none = none := by induction l <;> simp_all [chk]
theorem up_chk (n i : Nat) (x : UInt64) (pr : List UInt64) : up n i x pr = ((stps n i).foldl chk (some (x, pr))).bind fun (y, r) => if r = [] then some y else none := by
  by_cases h : n ≤ 1
  · rw [stps_nil h, up.eq_def, dif_pos h]
    rfl
  · rw [stps_cons h, up.eq_def, dif_neg h, List.foldl_cons]
    by_cases hs : sib i < n
    · rw [if_pos hs]
      cases pr with
      | nil =>
        rw [show chk (some (x, [])) (decide (sib i < n), decide (i % 2 = 1)) = none by simp [chk, hs], chk_none]
        rfl
      | cons d pr =>
        show up _ _ _ pr = _
        rw [up_chk]
        congr 2
        simp [chk, hs, mix]
    · rw [if_neg hs, up_chk]
      congr 2
      simp [chk, hs]
termination_by n
def cellInt (W : World) (b : Nat) : Nat := match W.cell? ⟨b, 0, none⟩ with | some (.int _ z) => z.toNat | _ => 0
theorem cellInt_of {W : World} {b : Nat} {t : TypeId} {z : Int} (h : Blk W b t #[i64 z]) : cellInt W b = z.toNat := by
  unfold cellInt
  rw [h.cell 0]
  rfl
def Kw (Bn Bi : Nat) (W W' : World) : Prop := W'.heap[Bn]? = W.heap[Bn]? ∧ W'.heap[Bi]? = W.heap[Bi]?

set_option maxRecDepth 100000 in
set_option maxHeartbeats 2000000 in
theorem walk1_in (l₀ Bn Bi n i : Nat) (hn : n ≤ 16) (hi : i < 16) (hne : Bn ≠ Bi) (J Jx : List (Bool × Bool) → World → Prop)
    (W : World) (hJ : OwnO (fun r => r = Bn ∨ r = Bi) W.heap.size J) (hJx : OwnO (fun r => r = Bn ∨ r = Bi) W.heap.size Jx)
    (hY : ∀ pre x W1, J pre W1 → pre.length < (stps n i).length → YieldAt Fence.wide 3 Try.prog l₀ #[.bool x.1, .bool x.2] W1 fun e W' =>
      (e = .returned (.bool true) ∧ J (pre ++ [x]) W' ∧ Kw Bn Bi W1 W') ∨ (e = .returned (.bool false) ∧ Jx (pre ++ [x]) W'))
    (hw1 : Blk W Bn 3 #[i64 (n : Nat)]) (hw2 : Blk W Bi 3 #[i64 (i : Nat)]) (h0 : J [] W) :
    CallsIn Fence.wide 4 Try.prog 54 #[.func (.yield l₀) #[] #[], .pointer (some ⟨Bn, 0, none⟩), .pointer (some ⟨Bi, 0, none⟩)] W fun e W' => (∃ v, e = .returned v) ∧
      ((∃ ys, ys = stps n i ∧ J ys W') ∨ (∃ pre, pre <+: stps n i ∧ Jx pre W')) := by
  have H0 := Lib.hid h0; clear h0
  have HW1 := Lib.hid hw1; clear hw1
  have HW2 := Lib.hid hw2; clear hw2
  have HJ := Lib.hid hJ; clear hJ
  have HJX := Lib.hid hJx; clear hJx
  refine callsIn_of_wp Try.func54 rfl trivial ?_ rfl
  simp only [Try.ntmps54, List.size_toArray, List.length_cons, List.length_nil, Nat.reduceAdd, Nat.reduceSub, Array.replicate_succ, Array.replicate_zero, List.push_toArray, List.append_toArray, List.nil_append, List.cons_append]
  gi_wp2
  gi_loopw [] (fun wr => ∃ (pre : List (Bool × Bool)) (nk ik : Nat), stps n i = pre ++ stps nk ik ∧ nk ≤ 16 ∧ ik < 16 ∧ Hid (J pre wr) ∧ Hid (Blk wr Bn 3 #[i64 (nk : Nat)]) ∧ Hid (Blk wr Bi 3 #[i64 (ik : Nat)]))
    (fun wr => cellInt wr Bn)
  case atStart => exact ⟨[], n, i, rfl, hn, hi, H0, HW1, HW2⟩
  case round =>
    obtain ⟨pre, nk, ik, hst, hn, hi, HJ1, B1, B2⟩ := hrel
    have k1 := B1.out.cell 0
    have k2 := B2.out.cell 0
    simp only [List.getElem?_toArray, List.getElem?_cons_zero] at k1 k2
    by_cases hlt : nk ≤ 1
    · rw [stps_nil hlt, List.append_nil] at hst
      have hlt' : ((nk : Nat) : Int) ≤ 1 := by omega
      gi_wp2_with fail
      go_end0
      exact ⟨⟨_, rfl⟩, .inl ⟨_, hst.symm, HJ1.out⟩⟩
    · rw [stps_cons hlt] at hst
      have hlt' : (1 : Int) < ((nk : Nat) : Int) := by omega
      have hxor := xor1 ik hi
      have hlen : pre.length < (stps n i).length := by rw [hst]; simp
      obtain ⟨fn, tmps, assign, body, hy, hRd⟩ := hY pre (decide (sib ik < nk), decide (ik % 2 = 1)) wr HJ1.out hlen
      have hbe : decide (ik % 2 = 1) = ((ik : Int) % 2 == 1) := by
        rw [Bool.eq_iff_iff]
        simp
        omega
      dsimp only at hy
      rw [hbe] at hy
      rw [hbe] at hRd
      have HS := Lib.hid hst
      clear hst hY
      gi_wp2_with fail
      refine hRd.mono ?_
      rintro e W3 (⟨rfl, hJ3, hk3⟩ | ⟨rfl, hJx3⟩)
      · have hb1 : Blk W3 Bn 3 #[i64 (nk : Nat)] := hk3.1.trans B1.out
        have hb2 : Blk W3 Bi 3 #[i64 (ik : Nat)] := hk3.2.trans B2.out
        have HJ3 := Lib.hid hJ3; clear hJ3
        have hup : ∀ a b, Below W3.heap.size W3 a → Below a.heap.size a b → Below W3.heap.size W3 b := fun a b h k => below_trans' h k
        have f1 : ∀ s : WOf (Below W3.heap.size W3), s.w.cell? ⟨Bn, 0, none⟩ = some (i64 (nk : Nat)) := fun s => (hb1.up' s.ok).cell 0
        have f2 : ∀ s : WOf (Below W3.heap.size W3), s.w.cell? ⟨Bi, 0, none⟩ = some (i64 (ik : Nat)) := fun s => (hb2.up' s.ok).cell 0
        have C1 := Lib.hid hb1
        have C2 := Lib.hid hb2
        clear hb1 hb2 k1 k2 hy hRd
        gi_wp2_with fail
        have k1 := C1.out.cell 0
        have d1 := C1.out.frozen 0
        have k2 := C2.out.cell 0
        have d2 := C2.out.frozen 0
        simp only [List.getElem?_toArray, List.getElem?_cons_zero] at k1 k2
        have hne2 : Bi ≠ Bn := Ne.symm hne
        gi_region
        gi_wp2_with fail
        have e2 : ((nk : Int) + 1) / 2 = (((nk + 1) / 2 : Nat) : Int) := by omega
        have e3 : (ik : Int) / 2 = ((ik / 2 : Nat) : Int) := by omega
        rw [e2, e3]
        have hA := ((C1.out.set_ 0 (i64 ((nk + 1) / 2 : Nat))).far (p := ⟨Bi, 0, none⟩) hne (i64 (ik / 2 : Nat))).drew
        have hB := ((C2.out.far (p := ⟨Bn, 0, none⟩) hne2 (i64 ((nk + 1) / 2 : Nat))).set_ 0 (i64 (ik / 2 : Nat))).drew
        have hJ4 := HJ.out.below (HJ.out.set (.inr rfl) (i64 (ik / 2 : Nat)) (HJ.out.set (.inl rfl) (i64 ((nk + 1) / 2 : Nat)) HJ3.out)) (Below.refl _ _).drew
        refine ⟨?rel, ?measure⟩
        case rel => exact ⟨pre ++ [(decide (sib ik < nk), decide (ik % 2 = 1))], (nk + 1) / 2, ik / 2, by rw [HS.out, List.append_assoc]; rfl, by omega, by omega, by rw [hbe]; exact hJ4, hA, hB⟩
        case measure =>
          rw [cellInt_of hA, cellInt_of B1.out]
          omega
      · have HJx3 := Lib.hid hJx3; clear hJx3
        gi_wp2_with fail
        refine bodyPost_ret (results_none rfl _ _ _) rfl ?_
        exact ⟨⟨_, rfl⟩, .inr ⟨_, by rw [HS.out, hbe]; exact ⟨_, by rw [List.append_assoc]; rfl⟩, HJx3.out⟩⟩

theorem walk_in (a b : Int) (w : World) :
    CallsIn Fence.wide 4 Try.prog 46 #[i64 a, i64 b] w fun e w' => e = .returned (.func (.func 54) #[] #[.pointer (some ⟨w.heap.size, 0, none⟩), .pointer (some ⟨w.heap.size + 1, 0, none⟩)]) ∧ (w.alloc (.cells #[i64 a] 3)).alloc (.cells #[i64 b] 3) = w' := by
  refine callsIn_of_wp Try.func46 rfl trivial ?_ rfl
  simp only [Try.ntmps46, List.size_toArray, List.length_cons, List.length_nil, Nat.reduceAdd, Nat.reduceSub, Array.replicate_succ, Array.replicate_zero, List.push_toArray, List.append_toArray, List.nil_append, List.cons_append]
  gi_wp2
  go_ret
  exact ⟨rfl, rfl⟩
theorem walk_seq (Bn Bi n i : Nat) (hn : n ≤ 16) (hi : i < 16) (hne : Bn ≠ Bi) (w : World) (hw1 : Blk w Bn 3 #[i64 (n : Nat)]) (hw2 : Blk w Bi 3 #[i64 (i : Nat)]) :
    SeqO Fence.wide 4 Try.prog 54 #[.pointer (some ⟨Bn, 0, none⟩), .pointer (some ⟨Bi, 0, none⟩)] (fun x : Bool × Bool => #[.bool x.1, .bool x.2]) (Kw Bn Bi) (fun ys => ys = stps n i) (fun pre => pre <+: stps n i) (stps n i).length (fun r => r = Bn ∨ r = Bi) w :=
  fun l₀ J Jx W hW hJ hJx hY h0 => walk1_in l₀ Bn Bi n i hn hi hne J Jx W hJ hJx hY (hw1.up' hW) (hw2.up' hW) h0

/-- What Check returns. -/
def okc (n i : Int) (m : Nat) : Bool := decide (1 ≤ n) && (decide (n ≤ 16) && (decide (0 ≤ i) && (decide (i < n) && decide (m ≤ 256))))
theorem check_bad (r : UInt64) (n i : Int) (A P : Option Addr) (m c k d : Nat) (hv : okc n i m = false) (hm : m ≤ maxLen) (w : World) :
    Calls Try.prog 32 #[u64 r, i64 n, i64 i, .slice A m c, .slice P k d] w fun e w' => e = .returned (.bool false) ∧ Below w.heap.size w w' := by
  have hB := ((Below.refl w.heap.size w).alloc (Nat.le_refl _) (.cells #[.slice P k d] 39)).alloc (by simp) (.cells #[.bool false] 4)
  have b1 := Blk.new (w.alloc (.cells #[.slice P k d] 39)) 4 #[.bool false]
  rw [World.size_alloc] at b1
  have k1 := b1.cell 0
  have d1 := b1.frozen 0
  refine (callsIn_wide (n := 5)).1 ?_
  refine callsIn_of_wp_marks Try.func32 rfl trivial ?_ rfl
  simp only [Try.ntmps32, List.size_toArray, List.length_cons, List.length_nil, Nat.reduceAdd, Nat.reduceSub, Array.replicate_succ, Array.replicate_zero, List.push_toArray, List.append_toArray, List.nil_append, List.cons_append]
  have hcase : n < 1 ∨ (1 ≤ n ∧ 16 < n) ∨ (1 ≤ n ∧ n ≤ 16 ∧ i < 0) ∨ (1 ≤ n ∧ n ≤ 16 ∧ 0 ≤ i ∧ n ≤ i) ∨ (1 ≤ n ∧ n ≤ 16 ∧ 0 ≤ i ∧ i < n ∧ (256 : Int) < m) := by
    unfold okc at hv
    apply Classical.byContradiction
    intro h
    have : (decide (1 ≤ n) && (decide (n ≤ 16) && (decide (0 ≤ i) && (decide (i < n) && decide (m ≤ 256))))) = true := by
      simp only [Bool.and_eq_true, decide_eq_true_eq]
      omega
    rw [this] at hv
    cases hv
  clear hv
  rcases hcase with h1 | ⟨h1, h2⟩ | ⟨h1, h2, h3⟩ | ⟨h1, h2, h3, h4⟩ | ⟨h1, h2, h3, h4, h5⟩
  all_goals
    gi_wp2_with fail
    refine ⟨.bool false, ?_, rfl, hB⟩
    simp [results, Try.f32, go_sem, k1]

/-- Check's cells when some steps have come: S the boxes of the proof and of the result, X that of the digest. -/
def CI (w : World) (S X : Nat) (lf : UInt64) (pf : List UInt64) (pre : List (Bool × Bool)) (W : World) : Prop :=
  ∃ y pr P k d, pre.foldl chk (some (lf, pf)) = some (y, pr) ∧ Blk W S 39 #[.slice P k d] ∧ Blk W (S + 1) 4 #[.bool false] ∧ Blk W X 23 #[u64 y] ∧ k = pr.length ∧ k ≤ d ∧ d ≤ maxLen ∧ Rd W S 1 P k (pr.map u64) ∧ Below S w W ∧ X + 3 ≤ W.heap.size
def CX (w : World) (S : Nat) (lf : UInt64) (pf : List UInt64) (c : Code) (pre : List (Bool × Bool)) (W : World) : Prop :=
  c = .ret ∧ pre.foldl chk (some (lf, pf)) = none ∧ Blk W (S + 1) 4 #[.bool false] ∧ Below S w W
theorem blk_O {W W' : World} {row : Option Nat} {g B : Nat} {O : Nat → Prop} {t : TypeId} {cs : Array Value} (h : Blk W g t cs) (hg : W.grownBy W' row) (hO : ¬ O g) (hr : ∀ r, row = some r → O r ∨ (B ≤ r ∧ ∃ o : Obj, W.heap[r]? = some o ∧ o.isCells = false)) : Blk W' g t cs :=
  h.grown hg (fun e => by
    rcases hr g e.symm with h1 | ⟨_, o, ho, hc⟩
    · exact hO h1
    · rw [show W.heap[g]? = _ from h] at ho
      cases ho; cases hc)
theorem CI.own (w : World) (S X B : Nat) (lf : UInt64) (pf : List UInt64) (hX : S + 1 < X) (hB : X < B) (hw : S ≤ w.heap.size) : OwnO (fun r => r = X + 1 ∨ r = X + 1 + 1) B (CI w S X lf pf) := fun _ A A' row ⟨y, pr, P, k, d, h1, h2, h3, h4, h5, h6, h6', h7, h8, h9⟩ hg hr => by
  have hge : ∀ r, row = some r → S ≤ r := fun r e => by rcases hr r e with (rfl | rfl) | ⟨h, _⟩ <;> omega
  exact ⟨y, pr, P, k, d, h1, blk_O h2 hg (by omega) hr, blk_O h3 hg (by omega) hr, blk_O h4 hg (by omega) hr, h5, h6, h6', h7.grown hg (by have := h8.size; omega) hge, h8.grown hg (by have := h8.size; omega) hge, Nat.le_trans h9 hg.size⟩
theorem CX.own (w : World) (S X B : Nat) (lf : UInt64) (pf : List UInt64) (c : Code) (hX : S + 1 < X) (hB : X < B) (hw : S ≤ w.heap.size) : OwnO (fun r => r = X + 1 ∨ r = X + 1 + 1) B (CX w S lf pf c) := fun _ A A' row ⟨h1, h2, h3, h8⟩ hg hr => by
  have hge : ∀ r, row = some r → S ≤ r := fun r e => by rcases hr r e with (rfl | rfl) | ⟨h, _⟩ <;> omega
  exact ⟨h1, h2, blk_O h3 hg (by omega) hr, h8.grown hg (by have := h8.size; omega) hge⟩

theorem slice_runs {f : Operand → Value} {w : World} {o : Oper} (x : Operand) (A : Option Addr) (k d : Nat) (ho : o.op = .slice 39 x (some (.const (.int .i64 1))) none none) (hx : f x = .slice A (k + 1) d) (hc : f (.const (.int .i64 1)) = .int .i64 1) (hd : k + 1 ≤ d) :
    (execOp f o).run Try.prog w = .ok (.value (.slice (if d = 1 then A else A.map (·.add (1 * 1))) (k + 1 - 1) (d - 1))) w := by
  unfold execOp
  simp only [ho, hx]
  simp [Instr.slice, Instr.sliceBounds, go_sem, run_underlying Try.underlying39, hc]
  intro h
  omega
theorem quiet_one {P : Program} {ops : Array Oper} {C : World → Prop} {Lq : Act → Prop} {o : Oper} {r : List Oper} {a : Act} (hg : o.guard = none) (v : Value) (hr : ∀ w, (execOp a.eval o).run P w = .ok (.value v) w) (h : wpQuiet P ops C Lq r (a.put o.dst v)) : wpQuiet P ops C Lq (o :: r) a := by
  unfold wpQuiet
  rw [if_pos (wanted_of hg _)]
  refine ⟨v, fun w _ => ?_, h⟩
  unfold Oper.quietAt
  rw [hr w]
  exact ⟨rfl, rfl⟩
/-- The worlds of the last region of a round of Check. -/
def PD (S X b off k d : Nat) (w W : World) (B : Nat) (W' : World) : Prop :=
  Below S w W' ∧ Blk W' S 39 #[.slice (some ⟨b, off, none⟩) k d] ∧ Blk W' (S + 1) 4 #[.bool false] ∧ (∃ v, Blk W' X 23 #[v]) ∧ Kw (X + 1) (X + 1 + 1) W W' ∧ KeepsFrom B W W'
theorem PD.drew {S X b off k d B : Nat} {w W W' : World} (h : PD S X b off k d w W B W') : PD S X b off k d w W B W'.drew :=
  ⟨h.1.drew, h.2.1, h.2.2.1, h.2.2.2.1, h.2.2.2.2.1, kf_trans h.2.2.2.2.2 (keepsFrom_drew _)⟩
theorem PD.set {S X b off k d B : Nat} {w W W' : World} (h : PD S X b off k d w W B W') (v : Value) (hSX : S + 1 < X) : PD S X b off k d w W B (W'.setCell ⟨X, 0, none⟩ v) := by
  obtain ⟨h1, h2, h3, ⟨u, h4⟩, h5, h6⟩ := h
  refine ⟨h1.setCell (p := ⟨X, 0, none⟩) (by show S ≤ X; omega) _, h2.far (p := ⟨X, 0, none⟩) (by show S ≠ X; omega) _, h3.far (p := ⟨X, 0, none⟩) (by show S + 1 ≠ X; omega) _, ⟨v, h4.set_ 0 v⟩, ⟨?_, ?_⟩, kf_trans h6 (keepsFrom_set _ _ _)⟩
  · exact (Below.heap_setCell _ ⟨X, 0, none⟩ _ _ (by show X + 1 ≠ X; omega)).trans h5.1
  · exact (Below.heap_setCell _ ⟨X, 0, none⟩ _ _ (by show X + 1 + 1 ≠ X; omega)).trans h5.2

set_option maxRecDepth 100000 in
set_option maxHeartbeats 4000000 in
theorem check_good (r : UInt64) (n i : Nat) (A P : Option Addr) (m c k d : Nat) (pg : List UInt8) (pf : List UInt64) (v : Bool) (hz : decide (up n i (leaf pg) pf = some r) = v) (hv : okc n i m = true) (w : World) (hA : Rd w w.heap.size 1 A m (pg.map ub)) (hP : Rd w w.heap.size 1 P k (pf.map u64)) (hk : k ≤ d) (hd : d ≤ maxLen) :
    Calls Try.prog 32 #[u64 r, i64 (n : Nat), i64 (i : Nat), .slice A m c, .slice P k d] w fun e w' => e = .returned (.bool v) ∧ Below w.heap.size w w' := by
  have hok : 1 ≤ n ∧ n ≤ 16 ∧ i < n ∧ m ≤ 256 := by
    unfold okc at hv
    simp only [Bool.and_eq_true, decide_eq_true_eq] at hv
    omega
  obtain ⟨h1, h2, h4, h5⟩ := hok
  have g1 : (1 : Int) ≤ (n : Nat) := by omega
  have g2 : ((n : Nat) : Int) ≤ 16 := by omega
  have g3 : (0 : Int) ≤ ((i : Nat) : Int) := by omega
  have g4 : ((i : Nat) : Int) < (n : Nat) := by omega
  have g5 : ((m : Nat) : Int) ≤ 256 := by omega
  have HZ := Lib.hid hz
  clear hz
  have hB := ((Below.refl w.heap.size w).alloc (Nat.le_refl _) (.cells #[.slice P k d] 39)).alloc (by simp) (.cells #[.bool false] 4)
  refine (callsIn_wide (n := 5)).1 ?_
  refine callsIn_of_wp_marks Try.func32 rfl trivial ?_ rfl
  simp only [Try.ntmps32, List.size_toArray, List.length_cons, List.length_nil, Nat.reduceAdd, Nat.reduceSub, Array.replicate_succ, Array.replicate_zero, List.push_toArray, List.append_toArray, List.nil_append, List.cons_append]
  gi_wp2_with fail
  have b0 := ((Blk.new w 39 #[.slice P k d]).alloc (.cells #[.bool false] 4)).alloc (.cells #[.slice A m c] 22)
  have b1 := (Blk.new (w.alloc (.cells #[.slice P k d] 39)) 4 #[.bool false]).alloc (.cells #[.slice A m c] 22)
  have hR1 := Rd.new ((w.alloc (.cells #[.slice P k d] 39)).alloc (.cells #[.bool false] 4)) 22 #[.slice A m c] (0, 0) 1 1 rfl
  have hB1 := hB.alloc (by simp; omega) (.cells #[.slice A m c] 22)
  rw [World.size_alloc] at b1
  simp only [World.size_alloc] at hR1
  obtain ⟨W1, hW1⟩ : ∃ W1, ((w.alloc (.cells #[.slice P k d] 39)).alloc (.cells #[.bool false] 4)).alloc (.cells #[.slice A m c] 22) = W1 := ⟨_, rfl⟩
  have hz1 : W1.heap.size = w.heap.size + 1 + 1 + 1 := by rw [← hW1]; simp
  rw [hW1] at b0 b1 hR1 hB1 ⊢
  refine ⟨trivial, (callsIn_wide.2 (leaf_val _ _ _ _ _ W1.heap.size pg W1 (by rw [hz1]; exact hR1) ((hA.below hB1).more hB1.size) (Nat.le_refl _) (by unfold maxLen; omega))).mono ?_⟩
  rintro e w2 ⟨rfl, hb2⟩
  have c0 := b0.up' hb2
  have c1 := b1.up' hb2
  have hB2 := hB1.trans (hb2.mono hB1.size)
  have hz2 : w.heap.size + 1 + 1 + 1 ≤ w2.heap.size := by have := hb2.size; omega
  clear b0 b1 hR1 hW1
  gi_wp2_with fail
  refine ⟨trivial, (walk_in _ _ _).mono ?_⟩
  rintro e w3 ⟨rfl, rfl⟩
  gi_wp2_with fail
  generalize hX : w2.heap.size = X at *
  generalize hS : w.heap.size = S at *
  have e0 := ((c0.alloc (.cells #[u64 (leaf pg)] 23)).alloc (.cells #[i64 (n : Nat)] 3)).alloc (.cells #[i64 (i : Nat)] 3)
  have e1 := ((c1.alloc (.cells #[u64 (leaf pg)] 23)).alloc (.cells #[i64 (n : Nat)] 3)).alloc (.cells #[i64 (i : Nat)] 3)
  have e2 := ((Blk.new w2 23 #[u64 (leaf pg)]).alloc (.cells #[i64 (n : Nat)] 3)).alloc (.cells #[i64 (i : Nat)] 3)
  have e3 := (Blk.new (w2.alloc (.cells #[u64 (leaf pg)] 23)) 3 #[i64 (n : Nat)]).alloc (.cells #[i64 (i : Nat)] 3)
  have e4 := Blk.new ((w2.alloc (.cells #[u64 (leaf pg)] 23)).alloc (.cells #[i64 (n : Nat)] 3)) 3 #[i64 (i : Nat)]
  have hB3 := ((hB2.alloc (by omega) (.cells #[u64 (leaf pg)] 23)).alloc (by simp; omega) (.cells #[i64 (n : Nat)] 3)).alloc (by simp; omega) (.cells #[i64 (i : Nat)] 3)
  simp only [World.size_alloc, hX] at e2 e3 e4
  have hz3 : (((w2.alloc (.cells #[u64 (leaf pg)] 23)).alloc (.cells #[i64 (n : Nat)] 3)).alloc (.cells #[i64 (i : Nat)] 3)).heap.size = X + 3 := by simp; omega
  obtain ⟨W0, hW0⟩ : ∃ W0, ((w2.alloc (.cells #[u64 (leaf pg)] 23)).alloc (.cells #[i64 (n : Nat)] 3)).alloc (.cells #[i64 (i : Nat)] 3) = W0 := ⟨_, rfl⟩
  rw [hW0] at e0 e1 e2 e3 e4 hB3 hz3 ⊢
  clear c0 c1 hW0
  have hS3 : S + 1 < X := by omega
  have hR3 := hP.below hB3
  refine wpIn_ro [(12, 42), (13, 43)] (fun x : Bool × Bool => [(42, .bool x.1), (43, .bool x.2)]) (gf := 54) (lb := #[.pointer (some ⟨X + 1, 0, none⟩), .pointer (some ⟨X + 1 + 1, 0, none⟩)]) rfl (enters_of Try.func54 (by kernel_rfl) rfl)
    (walk_seq (X + 1) (X + 1 + 1) n i h2 (by omega) (by omega) W0 e3 e4) (fun r h => by rcases h with rfl | rfl <;> omega) (fun h k => ⟨k.1.trans h.1, k.2.trans h.2⟩) (fun W l r o' hl hW => ⟨World.putObj_heap_other (by omega), World.putObj_heap_other (by omega)⟩) (fun _ => rfl)
    (CI w S X (leaf pg) pf) (CX w S (leaf pg) pf) (CI.own w S X _ (leaf pg) pf (by omega) (by omega) (by omega)) (fun c => CX.own w S X _ (leaf pg) pf c (by omega) (by omega) (by omega))
    ⟨_, _, P, k, d, rfl, e0, e1, e2, by simpa using hP.1.symm, hk, hd, hR3, hB3, by omega⟩ ?assign ?body ?done ?stop
  case assign =>
    intro l₁ x W K hK
    simp only [rfL, List.foldl_cons, List.foldl_nil, List.set_cons_succ, List.set_cons_zero, List.getD_cons_succ, List.getD_cons_zero] at hK
    gi_wp2
    exact hK
  case body =>
    rintro l₁ pre ⟨pd, sc⟩ W ⟨y, pr, P', k', d', q1, q2, q3, q4, q5, q6, q6', q7, q8, q9⟩ _
    simp only [rfL, List.foldl_cons, List.foldl_nil, List.set_cons_succ, List.set_cons_zero, List.getD_cons_succ, List.getD_cons_zero]
    have k2 := q2.cell 0
    have k3 := q3.cell 0
    have k4 := q4.cell 0
    have d2 := q2.frozen 0
    have d3 := q3.frozen 0
    have d4 := q4.frozen 0
    simp only [List.getElem?_toArray, List.getElem?_cons_zero] at k2 k3 k4
    have hnew : (pre ++ [(pd, sc)]).foldl chk (some (leaf pg, pf)) = chk (some (y, pr)) (pd, sc) := by rw [List.foldl_append, q1]; rfl
    cases pd with
    | false =>
      have HC : Hid (CI w S X (leaf pg) pf (pre ++ [(false, sc)]) W) := ⟨y, pr, P', k', d', by rw [hnew]; simp [chk], q2, q3, q4, q5, q6, q6', q7, q8, q9⟩
      clear q1 q2 q3 q4 q7 hnew
      gi_wp2_with fail
      exact ⟨KeepsFrom.refl _ _, ⟨rfl, rfl⟩, HC.out⟩
    | true =>
      cases pr with
      | nil =>
        obtain rfl : k' = 0 := q5
        have HC : Hid (CX w S (leaf pg) pf .ret (pre ++ [(true, sc)]) W) := ⟨rfl, by rw [hnew]; simp [chk], q3, q8⟩
        clear q1 q2 q4 q7 hnew
        gi_wp2_with fail
        exact ⟨keepsFrom_set _ _ _, HC.out.1, HC.out.2.1, HC.out.2.2.1.set_ 0 _, HC.out.2.2.2.setCell (p := ⟨S + 1, 0, none⟩) (by show S ≤ S + 1; omega) _⟩
      | cons dg pr =>
        obtain rfl : k' = pr.length + 1 := q5
        generalize hkk : pr.length = k'' at *
        obtain ⟨b, off, hP', hb, hcl⟩ := q7.atc (k := 0) (by simp)
        subst hP'
        have kd : W.cell? ⟨b, off, none⟩ = some (u64 dg) := by simpa using hcl
        have hR' := q7.cut (k := 1) (cap := d') (by omega) q6
        have hup : ∀ W5 : World, ∀ a b, Below W5.heap.size W5 a → Below a.heap.size a b → Below W5.heap.size W5 b := fun W5 a b h k => below_trans' h k
        have f2 : ∀ s : WOf (Below W.heap.size W), s.w.cell? ⟨S, 0, none⟩ = some (.slice (some ⟨b, off, none⟩) (k'' + 1) d') := fun s => (q2.up' s.ok).cell 0
        have f4 : ∀ s : WOf (Below W.heap.size W), s.w.cell? ⟨X, 0, none⟩ = some (u64 y) := fun s => (q4.up' s.ok).cell 0
        have fd : ∀ s : WOf (Below W.heap.size W), s.w.cell? ⟨b, off, none⟩ = some (u64 dg) := fun s => (s.ok.cell (p := ⟨b, off, none⟩) (by have := q2.lt; show b < W.heap.size; omega)).trans kd
        have Q2 := Lib.hid q2
        have Q3 := Lib.hid q3
        have Q4 := Lib.hid q4
        obtain ⟨P1, hP1⟩ : ∃ P1, (if d' = 1 then some ⟨b, off, none⟩ else (some (⟨b, off, none⟩ : Addr)).map (·.add (1 * 1))) = P1 := ⟨_, rfl⟩
        rw [hP1] at hR'
        have HSR : Hid (∀ (f : Operand → Value) (w : World) (o : Oper), o.op = .slice 39 (.tmp 59) (some (.const (.int .i64 1))) none none → f (.tmp 59) = .slice (some ⟨b, off, none⟩) (k'' + 1) d' → f (.const (.int .i64 1)) = .int .i64 1 → (execOp f o).run Try.prog w = .ok (.value (.slice P1 k'' (d' - 1))) w) := by
          intro f w o e1 e2 e3
          have := slice_runs (w := w) (.tmp 59) (some ⟨b, off, none⟩) k'' d' e1 e2 e3 q6
          rw [hP1] at this
          exact this
        clear hP1
        have Q7 := Lib.hid hR'
        have NW := Lib.hid hnew
        clear q1 q2 q3 q4 q7 hnew hR'
        gi_wp2_with fail
        refine wpIn_region_ext' (WideF.round l₁) (Below W.heap.size W) (Below.refl _ _) (hup W) (by kernel_rfl) (by kernel_rfl) (by kernel_rfl) (fun hnn => ?_)
        try simp only [List.append_eq, List.cons_append, List.nil_append]
        repeat (go_big_quiet_step (fail))
        refine wpQuiet_nil ?_
        intro wx hx'
        obtain ⟨⟨_, hx⟩, hx''⟩ := hx'
        subst hx''
        cases sc with
        | true =>
          have HA : Hid (∀ W', PD S X b off (k'' + 1) d' w W W0.heap.size W' → True) := fun _ _ => trivial
          have NP := Lib.hid (fun W => pair_any dg y W)
          have hPD : PD S X b off (k'' + 1) d' w W W0.heap.size wx := ⟨q8.trans (hx.mono (by have := q8.size; omega)), Q2.out.up' hx, Q3.out.up' hx, ⟨_, Q4.out.up' hx⟩, ⟨hx.block _ (by omega), hx.block _ (by omega)⟩, keepsFrom_below hx⟩
          have f2' : ∀ s : WOf (PD S X b off (k'' + 1) d' w W W0.heap.size), s.w.cell? ⟨S, 0, none⟩ = some (.slice (some ⟨b, off, none⟩) (k'' + 1) d') := fun s => s.ok.2.1.cell 0
          clear f2 f4 fd hcl kd k2 k4 d2 d4 k3 d3
          gi_wp2_with fail
          refine wpIn_region_fl2 (PD S X b off (k'' + 1) d' w W W0.heap.size) 5 [3, 4] [4] hPD (fun _ h => h.drew) (by kernel_rfl) (by kernel_rfl) (fun ⟨_, _, h⟩ => h) (by kernel_rfl) (fun hnn => ?_)
          simp only [List.take_succ_cons, List.take_zero]
          repeat (go_big_quiet_step (with_reducible exact calls_ext_same (NP.out _)))
          refine quiet_one rfl (.slice P1 k'' (d' - 1)) (fun W' => HSR.out _ W' _ rfl rfl rfl) ?_
          refine wpQuiet_nil ?_
          intro s o ho
          obtain rfl := Option.some.inj ho
          obtain ⟨ws, hs⟩ := s
          obtain ⟨v4, hv4⟩ := hs.2.2.2.1
          have k4 := hv4.cell 0
          have d4 := hv4.frozen 0
          simp only [List.getElem?_toArray, List.getElem?_cons_zero] at k4
          have hs2 := hs.set (u64 (pair dg y)) hS3
          refine ⟨undef, ws.setCell ⟨X, 0, none⟩ (u64 (pair dg y)), ?_, hs2, ?_⟩
          · refine .inr ⟨?_, rfl⟩
            simp [execOp, Act.eval, go_sem, k4, d4]
          simp only [List.drop_succ_cons, List.drop_zero]
          have hX5 : Blk (ws.setCell ⟨X, 0, none⟩ (u64 (pair dg y))) X 23 #[u64 (pair dg y)] := hv4.set_ 0 _
          obtain ⟨w5, hw5⟩ : ∃ w5, ws.setCell ⟨X, 0, none⟩ (u64 (pair dg y)) = w5 := ⟨_, rfl⟩
          rw [hw5] at hs2 hX5 ⊢
          have k2 := hs2.2.1.cell 0
          have d2 := hs2.2.1.frozen 0
          simp only [List.getElem?_toArray, List.getElem?_cons_zero] at k2
          clear hv4 k4 d4 hs hw5
          have HX5 := Lib.hid hX5; clear hX5
          have HS2 := Lib.hid hs2; clear hs2
          go_wp2_with fail
          obtain ⟨p1, p2, p3, _, p5, p6⟩ := HS2.out
          have hBf := p1.setCell (p := ⟨S, 0, none⟩) (Nat.le_refl _) (.slice P1 k'' (d' - 1))
          refine ⟨kf_trans (b := w5) ?kf (keepsFrom_set _ _ _), ⟨(Below.heap_setCell _ ⟨S, 0, none⟩ _ _ (by show X + 1 ≠ S; omega)).trans p5.1, (Below.heap_setCell _ ⟨S, 0, none⟩ _ _ (by show X + 1 + 1 ≠ S; omega)).trans p5.2⟩,
            pair dg y, pr, P1, k'', d' - 1, by rw [NW.out]; rfl, p2.set_ 0 _, p3.far (p := ⟨S, 0, none⟩) (by show S + 1 ≠ S; omega) _, HX5.out.far (p := ⟨S, 0, none⟩) (by show X ≠ S; omega) _, hkk.symm, by omega, by omega, ?_, hBf, ?_⟩
          case kf => first | exact p6 | (rw [← hz3]; exact p6) | (rw [hz3]; exact p6)
          · have hR7 := Q7.out
            simp only [Nat.add_sub_cancel, Nat.one_mul, List.map_cons, List.drop_succ_cons, List.drop_zero] at hR7
            exact hR7.keep fun p hp => (hBf.cell hp).trans (q8.cell hp).symm
          · have h8 := (kf_trans p6 (keepsFrom_set w5 ⟨S, 0, none⟩ (.slice P1 k'' (d' - 1)))).size
            omega
        | false =>
          have HA : Hid (∀ W', PD S X b off (k'' + 1) d' w W W0.heap.size W' → True) := fun _ _ => trivial
          have NP := Lib.hid (fun W => pair_any y dg W)
          have hPD : PD S X b off (k'' + 1) d' w W W0.heap.size wx := ⟨q8.trans (hx.mono (by have := q8.size; omega)), Q2.out.up' hx, Q3.out.up' hx, ⟨_, Q4.out.up' hx⟩, ⟨hx.block _ (by omega), hx.block _ (by omega)⟩, keepsFrom_below hx⟩
          have f2' : ∀ s : WOf (PD S X b off (k'' + 1) d' w W W0.heap.size), s.w.cell? ⟨S, 0, none⟩ = some (.slice (some ⟨b, off, none⟩) (k'' + 1) d') := fun s => s.ok.2.1.cell 0
          clear f2 f4 fd hcl kd k2 k4 d2 d4 k3 d3
          gi_wp2_with fail
          refine wpIn_region_fl2 (PD S X b off (k'' + 1) d' w W W0.heap.size) 5 [3, 4] [4] hPD (fun _ h => h.drew) (by kernel_rfl) (by kernel_rfl) (fun ⟨_, _, h⟩ => h) (by kernel_rfl) (fun hnn => ?_)
          simp only [List.take_succ_cons, List.take_zero]
          repeat (go_big_quiet_step (with_reducible exact calls_ext_same (NP.out _)))
          refine quiet_one rfl (.slice P1 k'' (d' - 1)) (fun W' => HSR.out _ W' _ rfl rfl rfl) ?_
          refine wpQuiet_nil ?_
          intro s o ho
          obtain rfl := Option.some.inj ho
          obtain ⟨ws, hs⟩ := s
          obtain ⟨v4, hv4⟩ := hs.2.2.2.1
          have k4 := hv4.cell 0
          have d4 := hv4.frozen 0
          simp only [List.getElem?_toArray, List.getElem?_cons_zero] at k4
          have hs2 := hs.set (u64 (pair y dg)) hS3
          refine ⟨undef, ws.setCell ⟨X, 0, none⟩ (u64 (pair y dg)), ?_, hs2, ?_⟩
          · refine .inr ⟨?_, rfl⟩
            simp [execOp, Act.eval, go_sem, k4, d4]
          simp only [List.drop_succ_cons, List.drop_zero]
          have hX5 : Blk (ws.setCell ⟨X, 0, none⟩ (u64 (pair y dg))) X 23 #[u64 (pair y dg)] := hv4.set_ 0 _
          obtain ⟨w5, hw5⟩ : ∃ w5, ws.setCell ⟨X, 0, none⟩ (u64 (pair y dg)) = w5 := ⟨_, rfl⟩
          rw [hw5] at hs2 hX5 ⊢
          have k2 := hs2.2.1.cell 0
          have d2 := hs2.2.1.frozen 0
          simp only [List.getElem?_toArray, List.getElem?_cons_zero] at k2
          clear hv4 k4 d4 hs hw5
          have HX5 := Lib.hid hX5; clear hX5
          have HS2 := Lib.hid hs2; clear hs2
          go_wp2_with fail
          obtain ⟨p1, p2, p3, _, p5, p6⟩ := HS2.out
          have hBf := p1.setCell (p := ⟨S, 0, none⟩) (Nat.le_refl _) (.slice P1 k'' (d' - 1))
          refine ⟨kf_trans (b := w5) ?kf (keepsFrom_set _ _ _), ⟨(Below.heap_setCell _ ⟨S, 0, none⟩ _ _ (by show X + 1 ≠ S; omega)).trans p5.1, (Below.heap_setCell _ ⟨S, 0, none⟩ _ _ (by show X + 1 + 1 ≠ S; omega)).trans p5.2⟩,
            pair y dg, pr, P1, k'', d' - 1, by rw [NW.out]; rfl, p2.set_ 0 _, p3.far (p := ⟨S, 0, none⟩) (by show S + 1 ≠ S; omega) _, HX5.out.far (p := ⟨S, 0, none⟩) (by show X ≠ S; omega) _, hkk.symm, by omega, by omega, ?_, hBf, ?_⟩
          case kf => first | exact p6 | (rw [← hz3]; exact p6) | (rw [hz3]; exact p6)
          · have hR7 := Q7.out
            simp only [Nat.add_sub_cancel, Nat.one_mul, List.map_cons, List.drop_succ_cons, List.drop_zero] at hR7
            exact hR7.keep fun p hp => (hBf.cell hp).trans (q8.cell hp).symm
          · have h8 := (kf_trans p6 (keepsFrom_set w5 ⟨S, 0, none⟩ (.slice P1 k'' (d' - 1)))).size
            omega
  case stop =>
    rintro D cc pre W hD hpre ⟨rfl, hf, hb, hBW⟩ hK
    obtain rfl : v = false := by
      rw [← HZ.out, up_chk]
      obtain ⟨t, ht⟩ := hpre
      rw [← ht, List.foldl_append, hf, chk_none]
      rfl
    gi_wp2
    refine ⟨by simp, .inl ⟨_, _, rfl, run_takeDeferred hK, ?_⟩⟩
    have hc5 := cell_kept (hb.cell 0) (grownBy_putObj' _ D (.deferred none)) (fun r e => by cases e; exact ⟨_, hK, rfl⟩)
    refine ⟨.bool false, ?_, rfl, ?_⟩
    · simp [results, Try.f32, go_sem, hc5]
    · rw [hS]; exact hBW.trans (belowK_b (w := W0) (by omega) W D _ _ hD hK rfl rfl)
  case done =>
    rintro D ys W hD rfl ⟨y, pr, P', k', d', q1, q2, q3, q4, q5, q6, q6', q7, q8, q9⟩ hK
    have hv2 : v = (decide (k' = 0) && decide (y = r)) := by
      rw [← HZ.out, up_chk, q1, q5]
      cases pr <;> simp
    have k2 := q2.cell 0
    have k4 := q4.cell 0
    have d3 := q3.frozen 0
    have k3 := q3.cell 0
    simp only [List.getElem?_toArray, List.getElem?_cons_zero] at k2 k3 k4
    have C3 := Lib.hid q3
    clear q1 q2 q3 q4 q5 q7 HZ
    have hKD : ∀ u : Value, (W.setCell ⟨S + 1, 0, none⟩ u).heap[D]? = some (.deferred (some [])) := fun u => (Below.heap_setCell _ ⟨S + 1, 0, none⟩ _ _ (by show D ≠ S + 1; omega)).trans hK
    have fin : ∀ u : Value, (((W.setCell ⟨S + 1, 0, none⟩ u).putObj D (.deferred none)).cell? ⟨S + 1, 0, none⟩ = some u) ∧ Below w.heap.size w ((W.setCell ⟨S + 1, 0, none⟩ u).putObj D (.deferred none)) := fun u =>
      ⟨cell_kept ((C3.out.set_ 0 u).cell 0) (grownBy_putObj' _ D (.deferred none)) (fun r e => by cases e; exact ⟨_, hKD u, rfl⟩), by
        rw [hS]
        exact (q8.setCell (p := ⟨S + 1, 0, none⟩) (by show S ≤ S + 1; omega) _).trans (belowK_b (w := W0) (by omega) _ D _ _ hD (hKD u) rfl rfl)⟩
    by_cases hk0 : k' = 0
    · subst hk0
      have hv3 : v = decide (y = r) := by rw [hv2]; simp
      have hvb : ((y.toNat : Int) == (r.toNat : Int)) = v := by
        rw [hv3, Bool.eq_iff_iff]
        simp only [beq_iff_eq, decide_eq_true_eq]
        constructor
        · intro h
          exact UInt64.toNat_inj.1 (by omega)
        · intro h
          rw [h]
      clear hv2 hv3
      have HVB := Lib.hid hvb
      clear hvb
      gi_wp2_with fail
      rw [HVB.out]
      refine ⟨by simp, .inl ⟨_, _, rfl, run_takeDeferred (hKD _), ?_⟩⟩
      obtain ⟨hc5, hb5⟩ := fin (.bool v)
      refine ⟨.bool v, ?_, rfl, hb5⟩
      simp [results, Try.f32, go_sem, hc5]
    · obtain rfl : v = false := by rw [hv2]; simp [hk0]
      have hk1 : ((k' : Int) == 0) = false := by rw [beq_eq_false_iff_ne]; omega
      clear hv2
      gi_wp2_with fail
      refine ⟨by simp, .inl ⟨_, _, rfl, run_takeDeferred (hKD _), ?_⟩⟩
      obtain ⟨hc5, hb5⟩ := fin (.bool false)
      refine ⟨.bool false, ?_, rfl, hb5⟩
      simp [results, Try.f32, go_sem, hc5]
end Go.Proofs.Ythaibmkieflafaa.Tr
