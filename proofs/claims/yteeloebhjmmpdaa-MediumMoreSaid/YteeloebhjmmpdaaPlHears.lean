/- plane.Hears: the iterator over pairs, and the table that it fills. -/
import Derived.RangeFuncNested
import Derived.RangeFuncBound
import Derived.RangeFuncCalls
import Derived.RangeFuncLeaves
import Derived.Shelf.Abstract
import Derived.Shelf.RegionOpen
import Derived.OwnWalkIn
import Derived.TacticsInMore
import Derived.LoopNIn
import Derived.LoopIn
import Derived.Test.YteeloebhjmmpdaaRnd
import Derived.Test.YteeloebhjmmpdaaPlPlaces
namespace Go.Proofs.Yteeloebhjmmpdaa.Pl
open Go.RowKit Go.Shelf
set_option linter.unusedVariables false
attribute [local go_sem] Oper.semAt_some

/-- The pairs of indices below n. -/
abbrev Pr (n : Nat) := { p : Nat × Nat // p.1 < p.2 ∧ p.2 < n }
/-- All pairs with a first index below i, and those with the first index i and the second one below k. -/
def upto (n i k : Nat) (ys : List (Pr n)) : Prop := ∀ p : Pr n, p ∈ ys ↔ (p.1.1 < i ∨ (p.1.1 = i ∧ p.1.2 < k))
theorem upto_start {n m : Nat} {ys : List (Pr n)} (h : upto n m 0 ys) : upto n m (m + 1) ys := fun p => by
  rw [h p]; have := p.2; omega
theorem upto_step {n m k : Nat} {ys : List (Pr n)} (h : upto n m k ys) (hk : m < k ∧ k < n) : upto n m (k + 1) (ys ++ [⟨(m, k), hk⟩]) := fun p => by
  rw [List.mem_append, h p, List.mem_singleton, Subtype.ext_iff, Prod.ext_iff]
  simp only
  omega
theorem upto_end {n m : Nat} {ys : List (Pr n)} (h : upto n m n ys) : upto n (m + 1) 0 ys := fun p => by
  rw [h p]; have := p.2; omega
theorem upto_all {n : Nat} {ys : List (Pr n)} (h : upto n n 0 ys) (p : Pr n) : p ∈ ys := (h p).2 (by have := p.2; omega)
theorem rounds_lt {n m k : Nat} (hm : m < n) (hk : k < n) : m * n + k < n * n := by
  have : (m + 1) * n ≤ n * n := Nat.mul_le_mul_right _ hm
  rw [Nat.add_mul] at this
  omega

set_option maxRecDepth 100000 in
set_option maxHeartbeats 1000000 in
theorem pairs1_in (l Bn n : Nat) (hn : n ≤ 60) (J Jx : List (Pr n) → World → Prop) (W : World) (hBn : W.cell? ⟨Bn, 0, none⟩ = some (i64 n))
    (hY : ∀ pre x W, J pre W → pre.length < n * n → YieldAt Fence.wide 3 Try.prog l #[i64 x.1.1, i64 x.1.2] W fun e W' =>
      (e = .returned (.bool true) ∧ J (pre ++ [x]) W' ∧ W'.heap[Bn]? = W.heap[Bn]?) ∨ (e = .returned (.bool false) ∧ Jx (pre ++ [x]) W'))
    (h0 : J [] W) :
    CallsIn Fence.wide 4 Try.prog 49 #[.func (.yield l) #[] #[], .pointer (some ⟨Bn, 0, none⟩)] W fun e W' => (∃ v, e = .returned v) ∧
      ((∃ ys : List (Pr n), (∀ p, p ∈ ys) ∧ J ys W') ∨ (∃ pre, True ∧ Jx pre W')) := by
  have H0 := Lib.hid h0; clear h0
  refine callsIn_of_wp Try.func49 rfl trivial ?_ rfl
  simp only [Try.ntmps49, List.size_toArray, List.length_cons, List.length_nil, Nat.reduceAdd, Nat.reduceSub, Array.replicate_succ, Array.replicate_zero, List.push_toArray, List.append_toArray, List.nil_append, List.cons_append]
  gi_wp2
  gi_loopw [6] (fun i wr => ∃ (m : Nat) (pre : List (Pr n)), m ≤ n ∧ i = .int .i64 m ∧ Hid (upto n m 0 pre) ∧ Hid (pre.length ≤ m * n) ∧ Hid (J pre wr) ∧ Hid (wr.heap[Bn]? = W.heap[Bn]?))
    (fun i _ => n - (intOf i).toNat)
  case atStart =>
    exact ⟨0, [], Nat.zero_le _, rfl, fun p => by simp, by show _ ≤ _; simp, H0, rfl⟩
  case round =>
    obtain ⟨m, pre, hm, rfl, HU, HN, HJ, HB⟩ := hrel
    have hc : wr.cell? ⟨Bn, 0, none⟩ = some (i64 n) := (World.cell?_of_block (a := ⟨Bn, 0, none⟩) HB.out).trans hBn
    by_cases hlt : m < n
    · gi_wp2
      have HU1 := Lib.hid (upto_start HU.out)
      have HN1 : Hid (pre.length ≤ m * n + (m + 1)) := by have := HN.out; show _ ≤ _; omega
      gi_loopw [4] (fun i wr => ∃ (k : Nat) (pre : List (Pr n)), m < k ∧ k ≤ n ∧ i = .int .i64 k ∧ Hid (upto n m k pre) ∧ Hid (pre.length ≤ m * n + k) ∧ Hid (J pre wr) ∧ Hid (wr.heap[Bn]? = W.heap[Bn]?))
        (fun i _ => n - (intOf i).toNat)
      case atStart => exact ⟨m + 1, pre, by omega, by omega, by go_num, HU1, HN1, HJ, HB⟩
      case round =>
        clear HU HN HJ HB hc HU1 HN1 pre
        obtain ⟨k, pre, hk0, hk, rfl, HU, HN, HJ, HB⟩ := hrel
        have hc : wr.cell? ⟨Bn, 0, none⟩ = some (i64 n) := (World.cell?_of_block (a := ⟨Bn, 0, none⟩) HB.out).trans hBn
        by_cases hk1 : k < n
        · obtain ⟨fn, tmps, assign, body, hy, hRd⟩ := hY pre ⟨(m, k), hk0, hk1⟩ wr HJ.out (by have := HN.out; have := rounds_lt hlt hk1; omega)
          dsimp only at hy
          gi_wp2
          refine hRd.mono ?_
          rintro e W3 (⟨rfl, hJ3, hk3⟩ | ⟨rfl, hJx3⟩)
          · have HJ3 := Lib.hid hJ3; clear hJ3
            have HK3 := Lib.hid (hk3.trans HB.out); clear hk3
            have HU3 := Lib.hid (upto_step HU.out ⟨hk0, hk1⟩)
            have HN3 : Hid ((pre ++ [(⟨(m, k), hk0, hk1⟩ : Pr n)]).length ≤ m * n + (k + 1)) := by have := HN.out; show _ ≤ _; simp; omega
            gi_wp2
            go_roundw
            case rel => exact ⟨k + 1, _, by omega, by omega, by go_num, HU3, HN3, HJ3, HK3⟩
            case measure => simp [intOf]; omega
          · have HJx3 := Lib.hid hJx3; clear hJx3
            gi_wp2
            refine bodyPost_ret (results_none rfl _ _ _) rfl ?_
            exact ⟨⟨_, rfl⟩, .inr ⟨_, trivial, HJx3⟩⟩
        · obtain rfl : k = n := by omega
          have HU2 := Lib.hid (upto_end HU.out)
          have HN2 : Hid (pre.length ≤ (m + 1) * k) := by have := HN.out; show _ ≤ _; rw [Nat.add_mul]; omega
          gi_wp2
          go_roundw
          case rel => exact ⟨m + 1, pre, by omega, by go_num, HU2, HN2, HJ, HB⟩
          case measure => simp [intOf]; omega
    · obtain rfl : m = n := by omega
      gi_wp2
      go_end0
      exact ⟨⟨_, rfl⟩, .inl ⟨pre, upto_all HU.out, HJ⟩⟩

theorem pairs_in (n : Int) (w : World) :
    CallsIn Fence.wide 4 Try.prog 39 #[i64 n] w fun e w' => e = .returned (.func (.func 49) #[] #[.pointer (some ⟨w.heap.size, 0, none⟩)]) ∧ w.alloc (.cells #[i64 n] 3) = w' := by
  refine callsIn_of_wp Try.func39 rfl trivial ?_ rfl
  simp only [Try.ntmps39, List.size_toArray, List.length_cons, List.length_nil, Nat.reduceAdd, Nat.reduceSub, Array.replicate_succ, Array.replicate_zero, List.push_toArray, List.append_toArray, List.nil_append, List.cons_append]
  gi_wp2
  go_ret
  exact ⟨rfl, rfl⟩

theorem pairs_stops (Bn n : Nat) (hn : n ≤ 60) (w : World) (hlt : Bn < w.heap.size) (hBn : w.cell? ⟨Bn, 0, none⟩ = some (i64 n)) :
    SeqStopsK Fence.wide 4 Try.prog 49 #[.pointer (some ⟨Bn, 0, none⟩)] (fun x : Pr n => #[i64 x.1.1, i64 x.1.2]) (fun W W' => W'.heap[Bn]? = W.heap[Bn]?) (fun ys => ∀ p, p ∈ ys) (fun _ => True) (n * n) w := fun l J Jx W hW _ _ hY h0 =>
  pairs1_in l Bn n hn J Jx W ((hW.cell (p := ⟨Bn, 0, none⟩) hlt).trans hBn) hY h0

/-- A row of n values. -/
def arr (n : Nat) (f : Nat → Value) : Array Value := ((List.range n).map f).toArray
theorem arr_set (n k : Nat) (f : Nat → Value) (v : Value) : (arr n f).setIfInBounds k v = arr n (fun i => if i = k then v else f i) := by
  unfold arr
  rw [List.setIfInBounds_toArray]
  congr 1
  apply List.ext_getElem
  · simp
  · intro j h1 h2
    rw [List.getElem_set]
    simp
    by_cases h : k = j
    · simp [h]
    · simp [h, Ne.symm h]
theorem arr_at {n k : Nat} (f : Nat → Value) (h : k < n) : (arr n f)[k]? = some (f k) := by
  unfold arr
  simp [h]
theorem arr_congr {n : Nat} {f g : Nat → Value} (h : ∀ i, i < n → f i = g i) : arr n f = arr n g := by
  unfold arr
  congr 1
  exact List.map_congr_left (fun i hi => h i (List.mem_range.1 hi))
theorem made_one (z : Value) (n : Nat) : madeCells #[z] n = arr n (fun _ => z) := by
  apply Array.toList_inj.1
  rw [toList_madeCells_one]
  unfold arr
  simp [List.map_const']
theorem run_make1 {P : Program} (t e : TypeId) (i : TypeInfo) (z : Value) (ht : P.underlying t = some (.slice e)) (hi : P.info? e = some i) (hz : i.zero = some z) (hs : i.size = 1) (hzc : z.cells = #[z])
    (n : Nat) (hbytes : i.bytes * n ≤ 281474976710656) (h63 : n ≤ 9223372036854775807) (w : World) :
    (Instr.makeSlice t (.int .i64 (n : Int)) (.int .i64 (n : Int))).run P w = .ok (.slice (some ⟨w.heap.size, 0, none⟩) n n) (w.alloc (.cells (arr n fun _ => z) e)) := by
  have hb : (i.bytes : Int) * (n : Int) ≤ 281474976710656 := by
    have h : ((i.bytes * n : Nat) : Int) ≤ 281474976710656 := by omega
    rwa [Int.natCast_mul] at h
  have hr := run_make (P := P) w t e i z ht hi hz .i64 .i64 n n (by omega) (by omega) hb (by omega)
  simp only [Int.toNat_natCast] at hr
  rw [hs, Nat.mul_one, hzc, made_one] at hr
  exact hr
theorem info_bool : (Try.prog.info? 4).map (fun i => (i.zero, i.size, i.bytes)) = some (some (.bool false), 1, 1) := by kernel_rfl
theorem info_bools : (Try.prog.info? 36).map (fun i => (i.zero, i.size, i.bytes)) = some (some (.slice none 0 0), 1, 24) := by kernel_rfl

theorem okp_parts (l : List Pt) (r : Int) : okp l r = (decide (l.length ≤ 60) && (betw r 20000 && l.all vp)) := by
  unfold okp; rw [betw_inr, Bool.and_assoc]

theorem hears_bad (A : Option Addr) (n c B : Nat) (l : List Pt) (r : Int) (hv : okp l r = false) (w : World) (hR : Rd w B 2 A n (l.flatMap decP)) (hB : B ≤ w.heap.size) (hl : l.length = n) (hn : n ≤ maxLen) :
    Calls Try.prog 18 #[.slice A n c, i64 r] w fun e w' => e = .returned (.tuple #[.slice none 0 0, i64 1]) ∧ Below w.heap.size w w' := by
  have hq := okp_parts l r
  rw [hv, hl] at hq
  have hB0 := ((Below.refl w.heap.size w).alloc (Nat.le_refl _) (.cells #[.slice A n c] 22)).alloc (by simp) (.cells #[i64 r] 3)
  by_cases h1 : n ≤ 60
  · cases h2 : betw r 20000
    · have H2 := Lib.hid h2; clear h2 hq hv hR hl
      go_enter Try.func18, Try.ntmps18
      go_wp2_with fail
      refine (in_val _ _ _ H2.out _).mono ?_
      rintro e w' ⟨rfl, rfl⟩
      go_wp2_with fail
      go_ret2
      exact ⟨rfl, hB0⟩
    · have h3 : l.all vp = false := by simpa [h1, h2] using hq
      have H2 := Lib.hid h2; clear h2 hq hv
      have H3 := Lib.hid h3; clear h3
      have HL := Lib.hid hl; clear hl
      go_enter Try.func18, Try.ntmps18
      go_wp2_with fail
      refine (in_val _ _ _ H2.out _).mono ?_
      rintro e w' ⟨rfl, rfl⟩
      go_wp2_with fail
      refine (containsPlace_val _ _ _ B l _ H3.out _ (hR.below' hB0 hB) (by simp; omega) HL.out hn).mono ?_
      rintro e w1 ⟨rfl, hb⟩
      go_wp2_with fail
      go_ret2
      exact ⟨rfl, hB0.trans (hb.mono (by simp <;> omega))⟩
  · clear hq hv hR hl
    go_enter Try.func18, Try.ntmps18
    go_wp2_with fail
    go_ret2
    exact ⟨rfl, hB0⟩

/-- What the loop over the rows has laid: m rows of falsehoods behind G + 1. -/
def Laid (w : World) (G n m : Nat) : Prop :=
  Blk w G 36 (arr n fun i => if i < m then .slice (some ⟨G + 2 + i, 0, none⟩) n n else .slice none 0 0) ∧ Blk w (G + 1) 27 #[.slice (some ⟨G, 0, none⟩) n n] ∧
    (∀ i, i < m → Blk w (G + 2 + i) 4 (arr n fun _ => .bool false)) ∧ w.heap.size = G + 2 + m

theorem laid_step {w : World} {G n m : Nat} (h : Laid w G n m) (hm : m < n) :
    Laid (((w.setCell ⟨G, m, none⟩ (.slice (some ⟨w.heap.size, 0, none⟩) n n)).alloc (.cells (arr n fun _ => .bool false) 4)).drew) G n (m + 1) := by
  obtain ⟨g0, g1, g2, g3⟩ := h
  have hsz : (w.setCell ⟨G, m, none⟩ (.slice (some ⟨w.heap.size, 0, none⟩) n n)).heap.size = w.heap.size := by simp [World.setCell]
  refine ⟨?_, ?_, fun i hi => ?_, ?_⟩
  · have := (g0.set_ m (.slice (some ⟨w.heap.size, 0, none⟩) n n)).alloc (.cells (arr n fun _ => .bool false) 4)
    rw [arr_set] at this
    have key : ∀ i, i < n → (if i = m then Value.slice (some ⟨w.heap.size, 0, none⟩) n n else if i < m then .slice (some ⟨G + 2 + i, 0, none⟩) n n else .slice none 0 0) = if i < m + 1 then .slice (some ⟨G + 2 + i, 0, none⟩) n n else .slice none 0 0 := fun i _ => by
      by_cases e : i = m
      · rw [if_pos e, if_pos (by omega), e, g3]
      · rw [if_neg e]
        by_cases e2 : i < m
        · rw [if_pos e2, if_pos (by omega)]
        · rw [if_neg e2, if_neg (by omega)]
    rw [arr_congr key] at this
    exact this
  · exact (g1.far (p := ⟨G, m, none⟩) (by simp) _).alloc _
  · by_cases e : i < m
    · exact ((g2 i e).far (p := ⟨G, m, none⟩) (by simp; omega) _).alloc _
    · obtain rfl : i = m := by omega
      have := Blk.new (w.setCell ⟨G, i, none⟩ (.slice (some ⟨w.heap.size, 0, none⟩) n n)) 4 (arr n fun _ => .bool false)
      rw [hsz] at this
      rw [← g3]
      exact this
  · simp [g3]; omega

/-- The value in row i, column k, when the pairs ys have come. -/
def filled (l : List Pt) (r : Int) (ys : List (Nat × Nat)) (i k : Nat) : Bool := (ys.any fun p => (p == (i, k)) || (p == (k, i))) && near (l.getD i (0, 0)) (l.getD k (0, 0)) r
theorem filled_nil (l : List Pt) (r : Int) (i k : Nat) : filled l r [] i k = false := rfl
theorem filled_snoc (l : List Pt) (r : Int) (ys : List (Nat × Nat)) (a b i k : Nat) :
    filled l r (ys ++ [(a, b)]) i k = if i = a ∧ k = b ∨ i = b ∧ k = a then near (l.getD a (0, 0)) (l.getD b (0, 0)) r else filled l r ys i k := by
  unfold filled
  rw [List.any_append]
  by_cases h : i = a ∧ k = b ∨ i = b ∧ k = a
  · rw [if_pos h]
    rcases h with ⟨rfl, rfl⟩ | ⟨rfl, rfl⟩
    · simp
    · rw [near_symm]; simp
  · rw [if_neg h]
    have : ([(a, b)].any fun p => (p == (i, k)) || (p == (k, i))) = false := by
      simp
      omega
    rw [this, Bool.or_false]
theorem filled_all (l : List Pt) (r : Int) {n : Nat} {ys : List (Pr n)} (h : ∀ p, p ∈ ys) {i k : Nat} (hi : i < n) (hk : k < n) : filled l r (ys.map (·.1)) i k = hear l r i k := by
  unfold filled hear
  congr 1
  rw [Bool.eq_iff_iff, List.any_eq_true, decide_eq_true_iff]
  constructor
  · rintro ⟨p, hp, he⟩
    obtain ⟨q, _, rfl⟩ := List.mem_map.1 hp
    have := q.2
    rcases Bool.or_eq_true _ _ ▸ he with e | e <;> (have := eq_of_beq e; rw [Prod.ext_iff] at this; simp at this; omega)
  · intro hne
    rcases Nat.lt_or_gt_of_ne hne with e | e
    · exact ⟨(i, k), List.mem_map.2 ⟨⟨(i, k), e, hk⟩, h _, rfl⟩, by simp⟩
    · exact ⟨(k, i), List.mem_map.2 ⟨⟨(k, i), e, hi⟩, h _, rfl⟩, by simp⟩

/-- The table while the pairs come. -/
def TabI (w : World) (G : Nat) (A : Option Addr) (n c : Nat) (l : List Pt) (r : Int) (ys : List (Pr n)) (W : World) : Prop :=
  Blk W G 36 (arr n fun i => .slice (some ⟨G + 2 + i, 0, none⟩) n n) ∧ Blk W (G + 1) 27 #[.slice (some ⟨G, 0, none⟩) n n] ∧
    (∀ i, i < n → Blk W (G + 2 + i) 4 (arr n fun k => .bool (filled l r (ys.map (·.1)) i k))) ∧
    Blk W w.heap.size 22 #[.slice A n c] ∧ Blk W (w.heap.size + 1) 3 #[i64 r]
theorem blk_own {W W' : World} {row : Option Nat} {g : Nat} {t : TypeId} {cs : Array Value} (h : Blk W g t cs) (hg : W.grownBy W' row) (hr : ∀ r, row = some r → ∃ o : Obj, W.heap[r]? = some o ∧ o.isCells = false) : Blk W' g t cs :=
  h.grown hg (fun e => by
    obtain ⟨o, ho, hc⟩ := hr g e.symm
    rw [show W.heap[g]? = _ from h] at ho
    cases ho; cases hc)
theorem tabI_own (w : World) (G : Nat) (A : Option Addr) (n c : Nat) (l : List Pt) (r : Int) : Own (TabI w G A n c l r) := fun _ _ _ _ h hg hr =>
  ⟨blk_own h.1 hg hr, blk_own h.2.1 hg hr, fun i hi => blk_own (h.2.2.1 i hi) hg hr, blk_own h.2.2.2.1 hg hr, blk_own h.2.2.2.2 hg hr⟩
theorem tabI_start {w W : World} {G : Nat} {A : Option Addr} {n c : Nat} {l : List Pt} {r : Int} (h : Laid W G n n) (h1 : Blk W w.heap.size 22 #[.slice A n c]) (h2 : Blk W (w.heap.size + 1) 3 #[i64 r]) : TabI w G A n c l r [] W := by
  obtain ⟨g0, g1, g2, g3⟩ := h
  refine ⟨?_, g1, g2, h1, h2⟩
  rw [arr_congr (g := fun i => if i < n then .slice (some ⟨G + 2 + i, 0, none⟩) n n else .slice none 0 0) (fun i hi => by rw [if_pos hi])]
  exact g0

theorem TabI.up {w : World} {G : Nat} {A : Option Addr} {n c : Nat} {l : List Pt} {r : Int} {ys : List (Pr n)} {W W' : World} (h : TabI w G A n c l r ys W) (hb : Below W.heap.size W W') : TabI w G A n c l r ys W' :=
  ⟨h.1.up' hb, h.2.1.up' hb, fun i hi => (h.2.2.1 i hi).up' hb, h.2.2.2.1.up' hb, h.2.2.2.2.up' hb⟩
theorem TabI.drew {w : World} {G : Nat} {A : Option Addr} {n c : Nat} {l : List Pt} {r : Int} {ys : List (Pr n)} {W : World} (h : TabI w G A n c l r ys W) : TabI w G A n c l r ys W.drew := h
theorem TabI.step {w : World} {G : Nat} {A : Option Addr} {n c : Nat} {l : List Pt} {r : Int} {ys : List (Pr n)} {W : World} (h : TabI w G A n c l r ys W) (hG : w.heap.size + 2 ≤ G) {i k : Nat} (hik : i < k ∧ k < n) {v : Bool} (hv : near (l.getD i (0, 0)) (l.getD k (0, 0)) r = v) :
    TabI w G A n c l r (ys ++ [⟨(i, k), hik⟩]) ((W.setCell ⟨G + 2 + i, k, none⟩ (.bool v)).setCell ⟨G + 2 + k, i, none⟩ (.bool v)) := by
  obtain ⟨h1, h2, h3, h4, h5⟩ := h
  refine ⟨(h1.far (p := ⟨G + 2 + i, k, none⟩) (by simp; omega) _).far (p := ⟨G + 2 + k, i, none⟩) (by simp; omega) _, (h2.far (p := ⟨G + 2 + i, k, none⟩) (by simp; omega) _).far (p := ⟨G + 2 + k, i, none⟩) (by simp; omega) _, fun j hj => ?_,
    (h4.far (p := ⟨G + 2 + i, k, none⟩) (by simp; omega) _).far (p := ⟨G + 2 + k, i, none⟩) (by simp; omega) _, (h5.far (p := ⟨G + 2 + i, k, none⟩) (by simp; omega) _).far (p := ⟨G + 2 + k, i, none⟩) (by simp; omega) _⟩
  have h3 := h3 j hj
  rw [List.map_append, List.map_cons, List.map_nil]
  by_cases e1 : j = i
  · subst e1
    have := (h3.set_ k (.bool v)).far (p := ⟨G + 2 + k, j, none⟩) (by simp; omega) (.bool v)
    rw [arr_set] at this
    rw [arr_congr (g := fun i => if i = k then Value.bool v else .bool (filled l r (ys.map (·.1)) j i)) (fun q _ => ?_)]
    · exact this
    · rw [filled_snoc, hv]
      by_cases e : q = k
      · rw [if_pos (.inl ⟨rfl, e⟩), if_pos e]
      · rw [if_neg (by omega), if_neg e]
  · by_cases e2 : j = k
    · subst e2
      have := (h3.far (p := ⟨G + 2 + i, j, none⟩) (by simp; omega) (.bool v)).set_ i (.bool v)
      rw [arr_set] at this
      rw [arr_congr (g := fun q => if q = i then Value.bool v else .bool (filled l r (ys.map (·.1)) j q)) (fun q _ => ?_)]
      · exact this
      · rw [filled_snoc, hv]
        by_cases e : q = i
        · rw [if_pos (.inr ⟨rfl, e⟩), if_pos e]
        · rw [if_neg (by omega), if_neg e]
    · have := (h3.far (p := ⟨G + 2 + i, k, none⟩) (by simp; omega) (.bool v)).far (p := ⟨G + 2 + k, i, none⟩) (by simp; omega) (.bool v)
      rw [arr_congr (g := fun q => Value.bool (filled l r (ys.map (·.1)) j q)) (fun q _ => ?_)]
      · exact this
      · rw [filled_snoc, if_neg (by omega)]

/-- The table of who hears whom. -/
def table (l : List Pt) (r : Int) (n : Nat) : List (List Bool) := (List.range n).map fun i => (List.range n).map (hear l r i)
theorem table_row (l : List Pt) (r : Int) {n i : Nat} (hi : i < n) : (table l r n).getD i [] = (List.range n).map (hear l r i) := by
  unfold table
  simp [List.getD_eq_getElem?_getD, hi]
theorem rd_arr {W : World} {G : Nat} {t : TypeId} {n : Nat} {f : Nat → Value} (h : Blk W G t (arr n f)) : Rd W W.heap.size 1 (some ⟨G, 0, none⟩) n ((List.range n).map f) :=
  ⟨by simp, fun _ => ⟨G, 0, rfl, h.lt, fun j u hu => by
    rw [Nat.zero_add, h.cell]
    unfold arr
    rwa [List.getElem?_toArray]⟩⟩
theorem tab_of {w : World} {G : Nat} {A : Option Addr} {n c : Nat} {l : List Pt} {r : Int} {ys : List (Pr n)} {W : World} (hN : n ≤ 60) (hall : ∀ p, p ∈ ys) (h : TabI w G A n c l r ys W) : Tab W W.heap.size (some ⟨G, 0, none⟩) n (table l r n) := by
  obtain ⟨h1, h2, h3, h4, h5⟩ := h
  refine ⟨by simp [table], fun i => (some ⟨G + 2 + i, 0, none⟩, n), ?_, fun i hi => ?_⟩
  · have := rd_arr h1
    rw [List.map_congr_left (g := fun i => Value.slice (some ⟨G + 2 + i, 0, none⟩) ((table l r n).getD i []).length n) (fun i hi => by rw [table_row l r (List.mem_range.1 hi)]; simp)] at this
    exact this
  · rw [table_row l r hi]
    have := rd_arr (h3 i hi)
    rw [List.map_congr_left (g := fun k => Value.bool (hear l r i k)) (fun k hk => by rw [filled_all l r hall hi (List.mem_range.1 hk)])] at this
    rw [List.map_map]
    simp only [List.length_map, List.length_range]
    exact ⟨by have := hN; unfold maxLen; omega, this⟩

set_option maxRecDepth 100000 in
set_option maxHeartbeats 1000000 in
theorem hears_in (A : Option Addr) (n c : Nat) (l : List Pt) (r : Int) (hv : okp l r = true) (w : World) (hR : Rd w w.heap.size 2 A n (l.flatMap decP)) (hl : l.length = n) :
    CallsIn Fence.wide 5 Try.prog 18 #[.slice A n c, i64 r] w fun e w' => ∃ G, e = .returned (.tuple #[.slice (some ⟨G, 0, none⟩) n n, i64 0]) ∧ Tab w' w'.heap.size (some ⟨G, 0, none⟩) n (table l r n) ∧ Below w.heap.size w w' := by
  have hq := okp_parts l r
  rw [hv, hl] at hq
  obtain ⟨hn, h2, h3⟩ : n ≤ 60 ∧ betw r 20000 = true ∧ l.all vp = true := by simpa using hq.symm
  clear hq hv
  have H2 := Lib.hid h2; clear h2
  have H3 := Lib.hid h3; clear h3
  have HL := Lib.hid hl; clear hl
  have hB0 := ((Below.refl w.heap.size w).alloc (Nat.le_refl _) (.cells #[.slice A n c] 22)).alloc (by simp) (.cells #[i64 r] 3)
  obtain ⟨ib, hib, hz0, hz1, hz2⟩ := info_parts info_bool
  obtain ⟨is, his, sz0, sz1, sz2⟩ := info_parts info_bools
  have hmk1 := run_make1 (P := Try.prog) 36 4 ib _ Try.underlying36 hib hz0 hz1 rfl n (by rw [hz2]; omega) (by omega)
  have hmk2 := run_make1 (P := Try.prog) 27 36 is _ Try.underlying27 his sz0 sz1 rfl n (by rw [sz2]; omega) (by omega)
  refine callsIn_of_wp_marks Try.func18 rfl trivial ?_ rfl
  simp only [Try.ntmps18, List.size_toArray, List.length_cons, List.length_nil, Nat.reduceAdd, Nat.reduceSub, Array.replicate_succ, Array.replicate_zero, List.push_toArray, List.append_toArray, List.nil_append, List.cons_append]
  gi_wp2_with fail
  refine ⟨trivial, ?_⟩
  refine (callsIn_wide.2 (in_val _ _ _ H2.out _)).mono ?_
  rintro e w' ⟨rfl, rfl⟩
  gi_wp2_with fail
  refine ⟨trivial, ?_⟩
  refine (callsIn_wide.2 (containsPlace_val _ _ _ w.heap.size l _ H3.out _ (hR.below hB0) (by simp; omega) HL.out (by unfold maxLen; omega))).mono ?_
  rintro e w1 ⟨rfl, hb⟩
  have hB1 := hB0.trans (hb.mono (by simp <;> omega))
  have bP := (Blk.new w 22 #[.slice A n c]).alloc (.cells #[i64 r] 3)
  have bR := Blk.new (w.alloc (.cells #[.slice A n c] 22)) 3 #[i64 r]
  rw [World.size_alloc] at bR
  have HP := Lib.hid (bP.up' hb)
  have HR := Lib.hid (bR.up' hb)
  clear bP bR
  have p0 : w1.cell? ⟨w.heap.size, 0, none⟩ = some (.slice A n c) := HP.out.cell 0
  gi_wp2_with fail
  clear hmk2
  obtain ⟨G, hG⟩ : ∃ G, G = w1.heap.size := ⟨_, rfl⟩
  have hL0 : Laid ((w1.alloc (.cells (arr n fun _ => .slice none 0 0) 36)).alloc (.cells #[.slice (some ⟨w1.heap.size, 0, none⟩) n n] 27)) G n 0 := by
    subst hG
    refine ⟨?_, ?_, fun i hi => absurd hi (by omega), by simp⟩
    · have := (Blk.new w1 36 (arr n fun _ => .slice none 0 0)).alloc (.cells #[.slice (some ⟨w1.heap.size, 0, none⟩) n n] 27)
      rw [arr_congr (g := fun i => if i < 0 then .slice (some ⟨w1.heap.size + 2 + i, 0, none⟩) n n else .slice none 0 0) (fun i _ => by rw [if_neg (by omega)])] at this
      exact this
    · have := Blk.new (w1.alloc (.cells (arr n fun _ => .slice none 0 0) 36)) 27 #[.slice (some ⟨w1.heap.size, 0, none⟩) n n]
      rw [World.size_alloc] at this
      exact this
  have HL0 := Lib.hid hL0; clear hL0
  have hB2 := (hB1.alloc hB1.size (.cells (arr n fun _ => .slice none 0 0) 36)).alloc (by simp; have := hB1.size; omega) (.cells #[.slice (some ⟨w1.heap.size, 0, none⟩) n n] 27)
  have HP2 := Lib.hid ((HP.out.alloc (.cells (arr n fun _ => .slice none 0 0) 36)).alloc (.cells #[.slice (some ⟨w1.heap.size, 0, none⟩) n n] 27))
  have HR2 := Lib.hid ((HR.out.alloc (.cells (arr n fun _ => .slice none 0 0) 36)).alloc (.cells #[.slice (some ⟨w1.heap.size, 0, none⟩) n n] 27))
  rw [← hG] at HL0 hB2 HP2 HR2 ⊢
  have hGw : w.heap.size + 2 ≤ G := by have := hb.size; simp at this; omega
  clear hG p0 HP HR
  gi_loopw [28] (fun i wr => ∃ m : Nat, m ≤ n ∧ i = .int .i64 m ∧ Hid (Laid wr G n m) ∧ Below w.heap.size w wr ∧ Hid (Blk wr w.heap.size 22 #[.slice A n c]) ∧ Hid (Blk wr (w.heap.size + 1) 3 #[i64 r]))
    (fun i _ => n - (intOf i).toNat)
  case atStart => exact ⟨0, Nat.zero_le _, rfl, HL0, hB2, HP2, HR2⟩
  case round =>
    obtain ⟨m, hm, rfl, HLa, hBr, HP, HR⟩ := hrel
    clear HL0 hB2 HP2 HR2
    obtain ⟨g0, g1, g2, g3⟩ := HLa.out
    have q0 : wr.cell? ⟨w.heap.size, 0, none⟩ = some (.slice A n c) := HP.out.cell 0
    have q1 : wr.cell? ⟨G + 1, 0, none⟩ = some (.slice (some ⟨G, 0, none⟩) n n) := g1.cell 0
    by_cases hlt : m < n
    · have q2 : wr.cell? ⟨G, m, none⟩ = some (.slice none 0 0) := by rw [g0.cell, arr_at _ hlt, if_neg (by omega)]
      have q3 : wr.frozen? ⟨G, m, none⟩ = false := g0.frozen m
      have s1 : G + 1 < wr.heap.size := by omega
      have s2 : G < wr.heap.size := by omega
      have s3 : w.heap.size < wr.heap.size := by omega
      have G0 := Lib.hid g0; clear g0
      have G1 := Lib.hid g1; clear g1
      have G2 := Lib.hid g2; clear g2
      have G3 := Lib.hid g3; clear g3
      have HL1 := Lib.hid (laid_step HLa.out hlt)
      have hB3 := ((hBr.setCell (p := ⟨G, m, none⟩) (by show w.heap.size ≤ G; omega) (.slice (some ⟨wr.heap.size, 0, none⟩) n n)).alloc (by simp [World.setCell]; omega) (.cells (arr n fun _ => .bool false) 4)).drew
      have HP1 := Lib.hid (Blk.drew ((HP.out.far (p := ⟨G, m, none⟩) (by show w.heap.size ≠ G; omega) (.slice (some ⟨wr.heap.size, 0, none⟩) n n)).alloc (.cells (arr n fun _ => .bool false) 4)))
      have HR1 := Lib.hid (Blk.drew ((HR.out.far (p := ⟨G, m, none⟩) (by show w.heap.size + 1 ≠ G; omega) (.slice (some ⟨wr.heap.size, 0, none⟩) n n)).alloc (.cells (arr n fun _ => .bool false) 4)))
      gi_wp2_with fail
      gi_region
      gi_wp2_with fail
      go_roundw
      case rel => exact ⟨m + 1, by omega, by go_num, HL1, hB3, HP1, HR1⟩
      case measure => simp [intOf]; omega
    · obtain rfl : m = n := by omega
      have HT := Lib.hid (tabI_start (l := l) HLa.out HP.out HR.out)
      have hsz := g3
      clear g0 g1 g2 g3 q1 HLa HP HR
      gi_wp2_with fail
      refine ⟨trivial, ?_⟩
      refine (pairs_in _ _).mono ?_
      rintro e w' ⟨rfl, rfl⟩
      gi_wp2_with fail
      have bN := Blk.new wr 3 #[i64 (m : Int)]
      rw [hsz] at bN
      refine wpIn_rf [(8, 41), (9, 42)] (fun y => [(41, i64 y.1.1), (42, i64 y.1.2)]) (gf := 49) (lb := #[.pointer (some ⟨G + 2 + m, 0, none⟩)]) rfl (enters_of Try.func49 (by kernel_rfl) rfl)
        (pairs_stops (G + 2 + m) m hn _ (by simp; omega) (bN.cell 0)) (fun h k => k.trans h) (fun W l o o' hl _ _ _ => World.putObj_heap_other (by simp at hl; omega)) (fun _ => rfl)
        (fun pre W => TabI w G A m c l r pre W ∧ Below w.heap.size w W ∧ G + 2 + m < W.heap.size)
        (fun _ _ _ => False)
        (OwnFrom.and (Own.from (tabI_own w G A m c l r) _) (OwnFrom.and (ownFrom_below (Nat.le_refl _) (by simp; omega)) (fun _ _ _ _ hs hg _ => Nat.lt_of_lt_of_le hs hg.size)))
        (fun _ _ _ _ _ hs _ _ => hs)
        ⟨⟨HT.out.1.alloc _, HT.out.2.1.alloc _, fun i hi => (HT.out.2.2.1 i hi).alloc _, HT.out.2.2.2.1.alloc _, HT.out.2.2.2.2.alloc _⟩, hBr.alloc (by omega) _, by simp; omega⟩ ?assign ?body ?done ?stop
      case assign =>
        intro l x W K hK
        simp only [rfL, List.foldl_cons, List.foldl_nil, List.set_cons_succ, List.set_cons_zero, List.getD_cons_succ, List.getD_cons_zero] at hK
        gi_wp2
        exact hK
      case body =>
        rintro l₀ pre ⟨⟨i, k⟩, hik, hkm⟩ W ⟨hT, hB, hSz⟩ _
        dsimp only at hik hkm
        have him : i < m := by omega
        have hil : i < l.length := by have := HL.out; omega
        have hkl : k < l.length := by have := HL.out; omega
        obtain ⟨b, off, rfl, hbB, hc1⟩ := rd_el (dec := decP) (fun _ => rfl) (hR.below hB) HL.out hil
        obtain ⟨b', off', e', _, hc2⟩ := rd_el (dec := decP) (fun _ => rfl) (hR.below hB) HL.out hkl
        simp only [Option.some.injEq, Addr.mk.injEq, and_true] at e'
        obtain ⟨rfl, rfl⟩ := e'
        have a0 : W.cell? ⟨b, off + i * 2, none⟩ = some (i64 l[i].1) := hc1 0 _ rfl
        have a1 : W.cell? ⟨b, off + i * 2 + 1, none⟩ = some (i64 l[i].2) := hc1 1 _ rfl
        have a2 : W.cell? ⟨b, off + k * 2, none⟩ = some (i64 l[k].1) := hc2 0 _ rfl
        have a3 : W.cell? ⟨b, off + k * 2 + 1, none⟩ = some (i64 l[k].2) := hc2 1 _ rfl
        have a4 := hT.2.2.2.1.cell 0
        have a5 := hT.2.2.2.2.cell 0
        simp only [List.getElem?_toArray, List.getElem?_cons_zero] at a4 a5
        clear hc1 hc2
        have HTT := Lib.hid hT; clear hT
        simp only [rfL, List.foldl_cons, List.foldl_nil, List.set_cons_succ, List.set_cons_zero, List.getD_cons_succ, List.getD_cons_zero]
        gi_wp2_with fail
        refine wpIn_region_still_tail 9 (by kernel_rfl) (by kernel_rfl) (fun ⟨_, _, h⟩ => h) (by kernel_rfl) ?_
        simp only [List.take_succ_cons, List.take_zero, List.drop_succ_cons, List.drop_zero]
        repeat still_step
        refine wpStill_nil ?_
        go_wp2_with fail
        obtain ⟨v, hnv⟩ : ∃ v, near l[i] l[k] r = v := ⟨_, rfl⟩
        refine (near_val _ _ _ _ _ v hnv _).mono ?_
        rintro e w2 ⟨rfl, hb2⟩
        go_wp2_with fail
        have hT2 := (HTT.out.drew.up (hb2.mono (Nat.le_refl _)))
        clear HTT a0 a1 a2 a3 a4 a5
        have c0 : w2.cell? ⟨G + 1, 0, none⟩ = some (.slice (some ⟨G, 0, none⟩) m m) := hT2.2.1.cell 0
        have c1 : w2.cell? ⟨G, i, none⟩ = some (.slice (some ⟨G + 2 + i, 0, none⟩) m m) := by rw [hT2.1.cell, arr_at _ him]
        have c2 : w2.cell? ⟨G, k, none⟩ = some (.slice (some ⟨G + 2 + k, 0, none⟩) m m) := by rw [hT2.1.cell, arr_at _ hkm]
        obtain ⟨x1, c3⟩ : ∃ x, w2.cell? ⟨G + 2 + i, k, none⟩ = some x := ⟨_, by rw [(hT2.2.2.1 i him).cell, arr_at _ hkm]⟩
        obtain ⟨x2, c4⟩ : ∃ x, w2.cell? ⟨G + 2 + k, i, none⟩ = some x := ⟨_, by rw [(hT2.2.2.1 k hkm).cell, arr_at _ him]⟩
        have c5 : w2.frozen? ⟨G + 2 + i, k, none⟩ = false := (hT2.2.2.1 i him).frozen k
        have c6 : w2.frozen? ⟨G + 2 + k, i, none⟩ = false := (hT2.2.2.1 k hkm).frozen i
        have fin : ownPostG (wr.alloc (Obj.cells #[i64 m] 3)).heap.size (fun W W' => W'.heap[G + 2 + m]? = W.heap[G + 2 + m]?) (fun pre W => TabI w G (some ⟨b, off, none⟩) m c l r pre W ∧ Below w.heap.size w W ∧ G + 2 + m < W.heap.size) (fun _ _ _ => False) (pre ++ [⟨(i, k), hik, hkm⟩]) W .normal { tmps := #[], defers := [] } ((w2.drew.setCell ⟨G + 2 + i, k, none⟩ (.bool v)).setCell ⟨G + 2 + k, i, none⟩ (.bool v)) := by
          have hW : Below W.heap.size W w2 := (Below.refl W.heap.size W).drew.trans hb2
          refine ⟨?_, ?_, ?_, ?_, ?_⟩
          · exact (((keepsFrom_below hW).trans (keepsFrom_drew w2)).trans (keepsFrom_set _ _ _)).trans (keepsFrom_set _ _ _)
          · exact ((Below.heap_setCell _ ⟨G + 2 + k, i, none⟩ _ _ (by show G + 2 + m ≠ G + 2 + k; omega)).trans (Below.heap_setCell _ ⟨G + 2 + i, k, none⟩ _ _ (by show G + 2 + m ≠ G + 2 + i; omega))).trans (hW.block _ hSz)
          · exact TabI.step hT2.drew hGw ⟨hik, hkm⟩ (by rw [List.getD_eq_getElem?_getD, List.getD_eq_getElem?_getD, List.getElem?_eq_getElem hil, List.getElem?_eq_getElem hkl]; exact hnv)
          · exact (((below_trans' hB hW).drew).setCell (p := ⟨G + 2 + i, k, none⟩) (by show w.heap.size ≤ G + 2 + i; omega) _).setCell (p := ⟨G + 2 + k, i, none⟩) (by show w.heap.size ≤ G + 2 + k; omega) _
          · have := hW.size; simp; omega
        refine wpIn_region_of_any (by kernel_rfl) (noDefer_spec (by kernel_rfl)) (fun ⟨_, _, h⟩ => h) ?_
        refine wpAny_take (i := 1) (v := ?v1) rfl (by kernel_rfl) (by kernel_rfl) (by kernel_rfl) (fun _ _ _ h => h) (Or.inl ⟨by rfl, ?h1⟩) ?r1
        case h1 => intro w; go_simp; with_reducible rfl
        refine wpAny_take (i := 4) (v := ?v2) rfl (by kernel_rfl) (by kernel_rfl) (by kernel_rfl) (fun _ _ _ h => h) (Or.inl ⟨by rfl, ?h2⟩) ?r2
        case h2 => intro w; go_simp; with_reducible rfl
        refine wpAny_take (i := 6) (v := ?v3) rfl (by kernel_rfl) (by kernel_rfl) (by kernel_rfl) (fun _ _ _ h => h) (Or.inl ⟨by rfl, ?h3⟩) ?r3
        case h3 => intro w; go_simp; with_reducible rfl
        refine wpAny_take (i := 9) (v := ?v4) rfl (by kernel_rfl) (by kernel_rfl) (by kernel_rfl) (fun _ _ _ h => h) (Or.inl ⟨by rfl, ?h4⟩) ?r4
        case h4 => intro w; go_simp; with_reducible rfl
        refine wpAny_take (i := 10) (v := ?v5) rfl (by kernel_rfl) (by kernel_rfl) (by kernel_rfl) (fun _ _ _ h => h) (Or.inl ⟨by rfl, ?h5⟩) ?r5
        case h5 => intro w; go_simp; with_reducible rfl
        refine wpAny_take (i := 11) (v := ?v6) rfl (by kernel_rfl) (by kernel_rfl) (by kernel_rfl) (fun _ _ _ h => h) (Or.inl ⟨by rfl, ?h6⟩) ?r6
        case h6 => intro w; go_simp; with_reducible rfl
        refine wpAny_ready (rs := [0, 5]) (by kernel_rfl) (by simp) ?_
        refine AllReady.cons rfl (fun K hK => ?_) ?_
        · go_simp
          refine hK _ _ ?_; clear hK K
          refine wpAny_take (i := 2) (v := ?v7) rfl (by kernel_rfl) (by kernel_rfl) (by kernel_rfl) (fun _ _ _ h => h) (Or.inl ⟨by rfl, ?h7⟩) ?r7
          case h7 => intro w; go_simp; with_reducible rfl
          refine wpAny_ready (rs := [3, 5]) (by kernel_rfl) (by simp) ?_
          refine AllReady.cons rfl (fun K hK => ?_) ?_
          · go_simp
            refine hK _ _ ?_; clear hK K
            refine wpAny_ready (rs := [5]) (by kernel_rfl) (by simp) ?_
            refine AllReady.cons rfl (fun K hK => ?_) AllReady.nil
            go_simp
            refine hK _ _ ?_; clear hK K
            refine wpAny_ready (rs := [7]) (by kernel_rfl) (by simp) ?_
            refine AllReady.cons rfl (fun K hK => ?_) AllReady.nil
            go_simp
            refine hK _ _ ?_; clear hK K
            refine wpAny_ready (rs := [8]) (by kernel_rfl) (by simp) ?_
            refine AllReady.cons rfl (fun K hK => ?_) AllReady.nil
            go_simp
            refine hK _ _ ?_; clear hK K
            refine wpAny_ready (rs := [12]) (by kernel_rfl) (by simp) ?_
            refine AllReady.cons rfl (fun K hK => ?_) AllReady.nil
            go_simp
            refine hK _ _ ?_; clear hK K
            refine wpAny_ready (rs := [13]) (by kernel_rfl) (by simp) ?_
            refine AllReady.cons rfl (fun K hK => ?_) AllReady.nil
            go_simp
            refine hK _ _ ?_; clear hK K
            refine wpAny_ready (rs := [14]) (by kernel_rfl) (by simp) ?_
            refine AllReady.cons rfl (fun K hK => ?_) AllReady.nil
            go_simp
            refine hK _ _ ?_; clear hK K
            refine wpAny_ready (rs := [15]) (by kernel_rfl) (by simp) ?_
            refine AllReady.cons rfl (fun K hK => ?_) AllReady.nil
            go_simp
            refine hK _ _ ?_; clear hK K
            refine wpAny_done (by kernel_rfl) ?_ _
            exact fin
          refine AllReady.cons rfl (fun K hK => ?_) ?_
          · go_simp
            refine hK _ _ ?_; clear hK K
            refine wpAny_take (i := 7) (v := ?v8) rfl (by kernel_rfl) (by kernel_rfl) (by kernel_rfl) (fun _ _ _ h => h) (Or.inl ⟨by rfl, ?h8⟩) ?r8
            case h8 => intro w; go_simp; with_reducible rfl
            refine wpAny_ready (rs := [3, 8]) (by kernel_rfl) (by simp) ?_
            refine AllReady.cons rfl (fun K hK => ?_) ?_
            · go_simp
              refine hK _ _ ?_; clear hK K
              refine wpAny_ready (rs := [8]) (by kernel_rfl) (by simp) ?_
              refine AllReady.cons rfl (fun K hK => ?_) AllReady.nil
              go_simp
              refine hK _ _ ?_; clear hK K
              refine wpAny_ready (rs := [12]) (by kernel_rfl) (by simp) ?_
              refine AllReady.cons rfl (fun K hK => ?_) AllReady.nil
              go_simp
              refine hK _ _ ?_; clear hK K
              refine wpAny_ready (rs := [13]) (by kernel_rfl) (by simp) ?_
              refine AllReady.cons rfl (fun K hK => ?_) AllReady.nil
              go_simp
              refine hK _ _ ?_; clear hK K
              refine wpAny_ready (rs := [14]) (by kernel_rfl) (by simp) ?_
              refine AllReady.cons rfl (fun K hK => ?_) AllReady.nil
              go_simp
              refine hK _ _ ?_; clear hK K
              refine wpAny_ready (rs := [15]) (by kernel_rfl) (by simp) ?_
              refine AllReady.cons rfl (fun K hK => ?_) AllReady.nil
              go_simp
              refine hK _ _ ?_; clear hK K
              refine wpAny_done (by kernel_rfl) ?_ _
              exact fin
            refine AllReady.cons rfl (fun K hK => ?_) ?_
            · go_simp
              refine hK _ _ ?_; clear hK K
              refine wpAny_ready (rs := [3]) (by kernel_rfl) (by simp) ?_
              refine AllReady.cons rfl (fun K hK => ?_) AllReady.nil
              go_simp
              refine hK _ _ ?_; clear hK K
              refine wpAny_ready (rs := [12]) (by kernel_rfl) (by simp) ?_
              refine AllReady.cons rfl (fun K hK => ?_) AllReady.nil
              go_simp
              refine hK _ _ ?_; clear hK K
              refine wpAny_ready (rs := [13]) (by kernel_rfl) (by simp) ?_
              refine AllReady.cons rfl (fun K hK => ?_) AllReady.nil
              go_simp
              refine hK _ _ ?_; clear hK K
              refine wpAny_ready (rs := [14]) (by kernel_rfl) (by simp) ?_
              refine AllReady.cons rfl (fun K hK => ?_) AllReady.nil
              go_simp
              refine hK _ _ ?_; clear hK K
              refine wpAny_ready (rs := [15]) (by kernel_rfl) (by simp) ?_
              refine AllReady.cons rfl (fun K hK => ?_) AllReady.nil
              go_simp
              refine hK _ _ ?_; clear hK K
              refine wpAny_done (by kernel_rfl) ?_ _
              exact fin
            exact AllReady.nil
          exact AllReady.nil
        refine AllReady.cons rfl (fun K hK => ?_) ?_
        · go_simp
          refine hK _ _ ?_; clear hK K
          refine wpAny_take (i := 7) (v := ?v9) rfl (by kernel_rfl) (by kernel_rfl) (by kernel_rfl) (fun _ _ _ h => h) (Or.inl ⟨by rfl, ?h9⟩) ?r9
          case h9 => intro w; go_simp; with_reducible rfl
          refine wpAny_ready (rs := [0, 8]) (by kernel_rfl) (by simp) ?_
          refine AllReady.cons rfl (fun K hK => ?_) ?_
          · go_simp
            refine hK _ _ ?_; clear hK K
            refine wpAny_take (i := 2) (v := ?v10) rfl (by kernel_rfl) (by kernel_rfl) (by kernel_rfl) (fun _ _ _ h => h) (Or.inl ⟨by rfl, ?h10⟩) ?r10
            case h10 => intro w; go_simp; with_reducible rfl
            refine wpAny_ready (rs := [3, 8]) (by kernel_rfl) (by simp) ?_
            refine AllReady.cons rfl (fun K hK => ?_) ?_
            · go_simp
              refine hK _ _ ?_; clear hK K
              refine wpAny_ready (rs := [8]) (by kernel_rfl) (by simp) ?_
              refine AllReady.cons rfl (fun K hK => ?_) AllReady.nil
              go_simp
              refine hK _ _ ?_; clear hK K
              refine wpAny_ready (rs := [12]) (by kernel_rfl) (by simp) ?_
              refine AllReady.cons rfl (fun K hK => ?_) AllReady.nil
              go_simp
              refine hK _ _ ?_; clear hK K
              refine wpAny_ready (rs := [13]) (by kernel_rfl) (by simp) ?_
              refine AllReady.cons rfl (fun K hK => ?_) AllReady.nil
              go_simp
              refine hK _ _ ?_; clear hK K
              refine wpAny_ready (rs := [14]) (by kernel_rfl) (by simp) ?_
              refine AllReady.cons rfl (fun K hK => ?_) AllReady.nil
              go_simp
              refine hK _ _ ?_; clear hK K
              refine wpAny_ready (rs := [15]) (by kernel_rfl) (by simp) ?_
              refine AllReady.cons rfl (fun K hK => ?_) AllReady.nil
              go_simp
              refine hK _ _ ?_; clear hK K
              refine wpAny_done (by kernel_rfl) ?_ _
              exact fin
            refine AllReady.cons rfl (fun K hK => ?_) ?_
            · go_simp
              refine hK _ _ ?_; clear hK K
              refine wpAny_ready (rs := [3]) (by kernel_rfl) (by simp) ?_
              refine AllReady.cons rfl (fun K hK => ?_) AllReady.nil
              go_simp
              refine hK _ _ ?_; clear hK K
              refine wpAny_ready (rs := [12]) (by kernel_rfl) (by simp) ?_
              refine AllReady.cons rfl (fun K hK => ?_) AllReady.nil
              go_simp
              refine hK _ _ ?_; clear hK K
              refine wpAny_ready (rs := [13]) (by kernel_rfl) (by simp) ?_
              refine AllReady.cons rfl (fun K hK => ?_) AllReady.nil
              go_simp
              refine hK _ _ ?_; clear hK K
              refine wpAny_ready (rs := [14]) (by kernel_rfl) (by simp) ?_
              refine AllReady.cons rfl (fun K hK => ?_) AllReady.nil
              go_simp
              refine hK _ _ ?_; clear hK K
              refine wpAny_ready (rs := [15]) (by kernel_rfl) (by simp) ?_
              refine AllReady.cons rfl (fun K hK => ?_) AllReady.nil
              go_simp
              refine hK _ _ ?_; clear hK K
              refine wpAny_done (by kernel_rfl) ?_ _
              exact fin
            exact AllReady.nil
          refine AllReady.cons rfl (fun K hK => ?_) ?_
          · go_simp
            refine hK _ _ ?_; clear hK K
            refine wpAny_ready (rs := [0]) (by kernel_rfl) (by simp) ?_
            refine AllReady.cons rfl (fun K hK => ?_) AllReady.nil
            go_simp
            refine hK _ _ ?_; clear hK K
            refine wpAny_ready (rs := [2]) (by kernel_rfl) (by simp) ?_
            refine AllReady.cons rfl (fun K hK => ?_) AllReady.nil
            go_simp
            refine hK _ _ ?_; clear hK K
            refine wpAny_ready (rs := [3]) (by kernel_rfl) (by simp) ?_
            refine AllReady.cons rfl (fun K hK => ?_) AllReady.nil
            go_simp
            refine hK _ _ ?_; clear hK K
            refine wpAny_ready (rs := [12]) (by kernel_rfl) (by simp) ?_
            refine AllReady.cons rfl (fun K hK => ?_) AllReady.nil
            go_simp
            refine hK _ _ ?_; clear hK K
            refine wpAny_ready (rs := [13]) (by kernel_rfl) (by simp) ?_
            refine AllReady.cons rfl (fun K hK => ?_) AllReady.nil
            go_simp
            refine hK _ _ ?_; clear hK K
            refine wpAny_ready (rs := [14]) (by kernel_rfl) (by simp) ?_
            refine AllReady.cons rfl (fun K hK => ?_) AllReady.nil
            go_simp
            refine hK _ _ ?_; clear hK K
            refine wpAny_ready (rs := [15]) (by kernel_rfl) (by simp) ?_
            refine AllReady.cons rfl (fun K hK => ?_) AllReady.nil
            go_simp
            refine hK _ _ ?_; clear hK K
            refine wpAny_done (by kernel_rfl) ?_ _
            exact fin
          exact AllReady.nil
        exact AllReady.nil

      case done =>
        rintro D ys W hD hall ⟨hT, hB, _⟩ hK
        have d0 : W.cell? ⟨G + 1, 0, none⟩ = some (.slice (some ⟨G, 0, none⟩) m m) := hT.2.1.cell 0
        have HTT := Lib.hid hT; clear hT
        gi_wp2_with fail
        refine ⟨by simp, .inl ⟨_, _, rfl, run_takeDeferred hK, ?_⟩⟩
        refine ⟨_, results_tmp2 rfl _ _ _, G, rfl, tab_of (w := w) (A := A) (c := c) hn hall ?_, hB.trans (belowK_b (w := wr.alloc (Obj.cells #[i64 m] 3)) (n₀ := w.heap.size) (by have := hBr.size; simp; omega) W D _ _ hD hK rfl rfl)⟩
        exact tabI_own w G A m c l r ys W _ (some D) HTT.out (grownBy_putObj' W D _) (fun r e => by cases e; exact ⟨_, hK, rfl⟩)
      case stop =>
        rintro D c pre W _ _ h _
        exact h.elim
end Go.Proofs.Yteeloebhjmmpdaa.Pl
