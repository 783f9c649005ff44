/- tree.levels: an iterator over the levels of the tree of pages; it makes the memory that it hands over. -/
import Derived.Test.YthaibmkieflafaaApp2
import Derived.Test.YthaibmkieflafaaFl
import Derived.Test.YthaibmkieflafaaRv2
import Derived.Test.YthaibmkieflafaaTrChunk
namespace Go.Proofs.Ythaibmkieflafaa.Tr
open Go.RowKit Go.Shelf Go.Proofs.Ythaibmkieflafaa.Dig
set_option linter.unusedVariables false
attribute [local go_sem] Oper.semAt_some

theorem info_u64 : (Try.prog.info? 23).map (fun i => (i.zero, i.size, i.bytes)) = some (some (.int .u64 0), 1, 8) := by kernel_rfl
theorem own_keep {w w' : World} {base size n : Nat} {e : TypeId} {v : Value} {xs : List Value} (h : w.ownsRow base e size v n xs) (hb : Below w.heap.size w w') : w'.ownsRow base e size v n xs :=
  h.kept (row := none) ⟨hb.os, hb.tape, hb.output, hb.size, fun k hk _ => hb.block k hk⟩ (by cases v.ownBlock <;> simp)
/-- A level as a value. -/
structure Lv where
  A : Option Addr
  n : Nat
  c : Nat
def Lv.v (x : Lv) : Value := .slice x.A x.n x.c
/-- What a level holds when it is handed over. -/
def LV (ls : List UInt64) (pre : List Lv) (x : Lv) (h : Nat) (W : World) : Prop :=
  pre.length < hgt ls ∧ W.ownsRow h 23 1 x.v x.n ((lev ls pre.length).map u64)
/-- What a round keeps: the level itself, and the marks of loops. -/
def LK (x : Lv) (W W' : World) : Prop :=
  W.heap.size ≤ W'.heap.size ∧ (∀ g t cs fz, x.A = some ⟨g, 0, none⟩ → W.heap[g]? = some (.cells cs t fz) → W'.heap[g]? = some (.cells cs t fz)) ∧ ∀ (k : Nat) (d : Option (List Deferred)), W.heap[k]? = some (.deferred d) → W'.heap[k]? = some (.deferred d)
theorem LK.trans {x : Lv} {A B C : World} (h : LK x A B) (k : LK x B C) : LK x A C :=
  ⟨Nat.le_trans h.1 k.1, fun g t cs fz e h1 => k.2.1 g t cs fz e (h.2.1 g t cs fz e h1), fun i d h1 => k.2.2 i d (h.2.2 i d h1)⟩
theorem LK.put (x : Lv) (W : World) (l : Nat) (r : Loop) (o' : Obj) (hW : W.heap[l]? = some (.loop r)) : LK x W (W.putObj l o') :=
  ⟨by simp, fun g t cs fz e h1 => by
    rw [World.putObj_heap_other (by rintro rfl; rw [hW] at h1; cases h1)]
    exact h1, fun k d h1 => by
    rw [World.putObj_heap_other (by rintro rfl; rw [hW] at h1; cases h1)]
    exact h1⟩
theorem LK.marks {x : Lv} {B : Nat} {W W' : World} {ds : List Deferred} (h : LK x W W') (hm : Marks B W ds) : Marks B W' ds := by
  obtain ⟨Ds, rfl, h1, h2⟩ := hm
  exact ⟨Ds, rfl, h1, fun D hD => ⟨(h2 D hD).1, h.2.2 _ _ (h2 D hD).2⟩⟩
theorem LK.row {x : Lv} {W W' : World} {b : Nat} {e : TypeId} {xs : List Value} (h : LK x W W') (hr : W.ownsRow b e 1 x.v x.n xs) : W'.ownsRow b e 1 x.v x.n xs := by
  refine ⟨hr.1, ?_⟩
  rcases hr.2 with h1 | ⟨g, cap, cur, h1, h2, h3, h4⟩
  · exact .inl h1
  · have : x.A = some ⟨g, 0, none⟩ := by
      unfold Lv.v at h1
      injection h1
    exact .inr ⟨g, cap, cur, h1, h2, h.2.1 g _ _ _ this h3, h4⟩

/-- What one pair, or the rest, of a level becomes. -/
def el (ls : List UInt64) (k : Nat) : UInt64 := if 2 * k + 1 < ls.length then pair (ls.getD (2 * k) 0) (ls.getD (2 * k + 1) 0) else ls.getD (2 * k) 0
theorem el_all (ls : List UInt64) (n : Nat) (h : ls.length = n) : (List.finRange (prs n)).map (fun x => el ls x.1) = nxt ls := by
  subst h
  apply List.ext_getElem?
  intro k
  rw [List.getElem?_map]
  by_cases hk : k < prs ls.length
  · rw [List.getElem?_eq_getElem (by simpa using hk)]
    simp only [List.getElem_finRange, Option.map_some, Fin.val_cast]
    by_cases h2 : 2 * k + 1 < ls.length
    · rw [nxt_at2 ls k h2, el, if_pos h2]
    · rw [nxt_at1 ls k (by unfold prs at hk; omega), el, if_neg h2]
  · rw [List.getElem?_eq_none (by simpa using hk), List.getElem?_eq_none (by rw [nxt_length]; unfold prs at hk; omega)]
    rfl
/-- The next level while its pairs come. -/
def NI (D m : Nat) (ls : List UInt64) (c1 : Array Value) (W3 : World) (pre : List (Fin m)) (W : World) : Prop :=
  ∃ Y q, Blk W D 39 #[.slice Y pre.length q] ∧ W.ownsRow D 23 1 (.slice Y pre.length q) pre.length ((pre.map fun x => el ls x.1).map u64) ∧ Below D W3 W ∧ D + 3 ≤ W.heap.size ∧ Blk W (D + 1) 39 c1 ∧ Blk W (D + 1 + 1) 3 #[i64 2]
theorem blk_own {W W' : World} {row : Option Nat} {g : Nat} {t : TypeId} {cs : Array Value} (h : Blk W g t cs) (hg : W.grownBy W' row) (hr : ∀ r, row = some r → ∃ o : Obj, W.heap[r]? = some o ∧ o.isCells = false) : Blk W' g t cs :=
  h.grown hg (fun e => by
    obtain ⟨o, ho, hc⟩ := hr g e.symm
    rw [show W.heap[g]? = _ from h] at ho
    cases ho; cases hc)
theorem row_own {W W' : World} {row : Option Nat} {b n s : Nat} {e : TypeId} {v : Value} {xs : List Value} (h : W.ownsRow b e s v n xs) (hg : W.grownBy W' row) (hr : ∀ r, row = some r → ∃ o : Obj, W.heap[r]? = some o ∧ o.isCells = false) : W'.ownsRow b e s v n xs := by
  refine h.kept hg ?_
  rcases h.2 with ⟨rfl, _⟩ | ⟨g, cap, cur, rfl, _, hh, _⟩
  · exact .inl rfl
  · refine .inr (fun e => ?_)
    obtain ⟨o, ho, hc⟩ := hr g e.symm
    rw [hh] at ho
    cases ho; cases hc
theorem NI.own (D m B : Nat) (ls : List UInt64) (c1 : Array Value) (W3 : World) (hD : D ≤ B) : OwnFrom B (NI D m ls c1 W3) := fun _ A A' row ⟨Y, q, h1, h2, h3, h4, h5, h6⟩ hg hr =>
  ⟨Y, q, blk_own h1 hg (fun r e => (hr r e).2), row_own h2 hg (fun r e => (hr r e).2), h3.grown hg (by omega) (fun r e => Nat.le_trans hD (hr r e).1), Nat.le_trans h4 hg.size, blk_own h5 hg (fun r e => (hr r e).2), blk_own h6 hg (fun r e => (hr r e).2)⟩
theorem lvs_snoc (l : List Pg) (k : Nat) (hk : k < l.length) : ((lvs l).take k).map u64 ++ [u64 (leaf l[k].b)] = ((lvs l).take (k + 1)).map u64 := by
  rw [List.take_succ_eq_append_getElem (by simpa [lvs] using hk), List.map_append]
  simp [lvs]

def lenV : Value → Nat
  | .slice _ n _ => n
  | _ => 0
/-- Between two levels: slot 3 holds the level; ds are the marks of the loops that are over. -/
def LR (l : List Pg) (n : Nat) (W : World) (J : List Lv → World → Prop) (v : Value) (ds : List Deferred) (w' : World) : Prop :=
  ∃ (pre : List Lv) (Wp : World) (g m q : Nat), v = .slice (some ⟨g, 0, none⟩) m q ∧ m = (lev (lvs l) pre.length).length ∧ pre.length < hgt (lvs l) ∧ J pre Wp ∧ Below Wp.heap.size Wp w' ∧ W.heap.size ≤ Wp.heap.size ∧
    w'.ownsRow Wp.heap.size 23 1 (.slice (some ⟨g, 0, none⟩) m q) m ((lev (lvs l) pre.length).map u64) ∧ Marks W.heap.size w' ds

theorem blk_far_row {W W' : World} {g : Nat} {t : TypeId} {cs : Array Value} {b n s : Nat} {e : TypeId} {v : Value} {xs : List Value} (h : Blk W g t cs) (hr : W.ownsRow b e s v n xs) (hne : t ≠ e) (hg : W.grownBy W' v.ownBlock) : Blk W' g t cs :=
  h.grown hg (fun he => by
    rcases hr.2 with ⟨rfl, _⟩ | ⟨g', cap, cur, rfl, _, hh, _⟩
    · cases he
    · obtain rfl : g = g' := by simpa [Value.ownBlock] using he
      rw [show W.heap[g]? = _ from h] at hh
      injection hh with hh
      injection hh with _ h2
      exact hne h2)
theorem row_set {w : World} {D : Nat} {t : TypeId} {cs : Array Value} {b n s : Nat} {e : TypeId} {v : Value} {xs : List Value} (h : w.ownsRow b e s v n xs) (hb : Blk w D t cs) (hne : t ≠ e) (u : Value) : (w.setCell ⟨D, 0, none⟩ u).ownsRow b e s v n xs := by
  refine ⟨h.1, ?_⟩
  rcases h.2 with h1 | ⟨g, cap, cur, h1, h2, h3, h4⟩
  · exact .inl h1
  · refine .inr ⟨g, cap, cur, h1, h2, ?_, h4⟩
    rw [Below.heap_setCell _ ⟨D, 0, none⟩ _ _ ?_]
    · exact h3
    · rintro rfl
      rw [show w.heap[g]? = _ from hb] at h3
      injection h3 with h3
      injection h3 with _ h5
      exact hne h5
theorem row_cells {w : World} {b g n c : Nat} {e : TypeId} {xs : List UInt64} (h : w.ownsRow b e 1 (.slice (some ⟨g, 0, none⟩) n c) n (xs.map u64)) (hn : 1 ≤ n) : g < w.heap.size ∧ n ≤ c ∧ ∀ j, j < n → w.cell? ⟨g, j, none⟩ = some (u64 (xs.getD j 0)) := by
  obtain ⟨g', off, e1, h1, h2⟩ := (Rd.of_own h).2 hn
  have hlen : xs.length = n := by simpa using h.1
  injection e1 with e1
  injection e1 with e1 e2
  subst e1 e2
  refine ⟨h1, ?_, fun j hj => ?_⟩
  · rcases h.2 with ⟨e, _⟩ | ⟨g2, cap, cur, e, _, _, hc, _⟩
    · cases e
    · injection e with _ _ e3
      omega
  · have := h2 j (u64 (xs.getD j 0)) (by
      rw [List.getElem?_map, List.getElem?_eq_getElem (by omega), List.getD_eq_getElem?_getD, List.getElem?_eq_getElem (by omega)]
      rfl)
    rwa [Nat.zero_add] at this

set_option maxRecDepth 100000 in
set_option maxHeartbeats 4000000 in
theorem levels1_in (l₀ Bp n₀ n c : Nat) (A : Option Addr) (l : List Pg) (hn1 : 1 ≤ n) (hn : n ≤ 16) (J : List Lv → World → Prop) (W : World) (hJ : OwnFrom W.heap.size J)
    (hY : ∀ pre x Wp W1, J pre Wp → Below Wp.heap.size Wp W1 → LV (lvs l) pre x Wp.heap.size W1 → YieldAt Fence.wide 4 Try.prog l₀ #[x.v] W1 fun e W' =>
      e = .returned (.bool true) ∧ J (pre ++ [x]) W' ∧ LK x W1 W')
    (hw1 : Blk W Bp 38 #[.slice A n c]) (hP : Pgs W n₀ A n l) (hn₀ : n₀ ≤ W.heap.size) (h0 : J [] W) :
    CallsIn Fence.wide 5 Try.prog 52 #[.func (.yield l₀) #[] #[], .pointer (some ⟨Bp, 0, none⟩)] W fun e W' => (∃ v, e = .returned v) ∧ ∃ ys, ys.length = hgt (lvs l) ∧ J ys W' := by
  have HW1 := Lib.hid hw1
  have k1 : W.cell? ⟨Bp, 0, none⟩ = some (.slice A n c) := hw1.cell 0
  clear hw1
  have H0 := Lib.hid h0; clear h0
  have HP := Lib.hid hP; clear hP
  obtain ⟨ib, hib, hz0, hz1, hz2⟩ := info_parts info_u64
  refine callsIn_of_wp_marks Try.func52 rfl trivial ?_ rfl
  simp only [Try.ntmps52, List.size_toArray, List.length_cons, List.length_nil, Nat.reduceAdd, Nat.reduceSub, Array.replicate_succ, Array.replicate_zero, List.push_toArray, List.append_toArray, List.nil_append, List.cons_append]
  gi_wp2_with fail
  gi_loopw [3, 10] (fun v i wr => ∃ (k : Nat) (X : Option Addr) (q : Nat), k ≤ n ∧ v = .slice X k q ∧ i = .int .i64 k ∧ Hid (wr.ownsRow W.heap.size 23 1 (.slice X k q) k (((lvs l).take k).map u64)) ∧ Below W.heap.size W wr) (fun _ i _ => n - (intOf i).toNat)
  case atStart => exact ⟨0, none, 0, Nat.zero_le _, rfl, rfl, ⟨rfl, .inl ⟨rfl, rfl⟩⟩, Below.refl _ _⟩
  case round =>
    obtain ⟨k, X, q, hk, rfl, rfl, HO, hB⟩ := hrel
    by_cases hlt : k < n
    · obtain ⟨b, off, rfl, hbB, hkl, hc⟩ := (HP.out.below' hB hn₀).at_ hlt
      have HI := Lib.hid ((HP.out.below' hB hn₀).2 l[k] (List.getElem_mem hkl))
      gi_wp2_with fail
      have hB1 := hB.alloc hB.size (.cells #[.slice l[k].A l[k].n l[k].c] 22)
      refine ⟨trivial, (callsIn_wide.2 (leaf_val _ _ _ _ _ (wr.heap.size + 1) l[k].b _ (by simpa using Rd.new wr 22 #[.slice l[k].A l[k].n l[k].c] (0, 0) 1 1 rfl) ((HI.out.1.below' ((Below.refl wr.heap.size wr).alloc (Nat.le_refl _) _) (Nat.le_trans hn₀ hB.size)).more (by have := hB.size; omega)) (by simp) HI.out.2)).mono ?_⟩
      rintro e w2 ⟨rfl, hb2⟩
      have hb2' := ext1 (Below.refl _ wr) _ hb2
      have hB2 := below_trans' hB hb2'
      have hO2 := own_keep HO.out hb2'
      have HX := Lib.hid (lvs_snoc l k hkl)
      have hB3 := hB2.alloc hB2.size (.cells #[u64 (leaf l[k].b)] 23)
      clear HO HI hb2 hb2' hB1
      gi_wp2_with (gi_at_builtin; refine wpListIn_append_rd _ rfl (.tmp 14) (.tmp 18) _ rfl W.heap.size 23 ib _ 1 8 Try.underlying39 hib hz0 hz1 hz2 rfl (by omega) _ _ _ rfl (hO2.alloc _) _ _ 1 _ _ rfl (Rd.new w2 _ _ _ 1 1 rfl) (by simp [Value.oneCell']) (by simp only [maxLen]; omega) (by omega) hB3.size ?_; intro Yb qb w4 hown2 _ hg2; have hB4 := own_below (hO2.alloc _) hg2 hB3 (Nat.le_refl _) hB3.size; clear hg2; rw [HX.out] at hown2; have HO4 := Lib.hid hown2; clear hown2)
      go_roundw
      case rel => exact ⟨k + 1, _, _, by omega, rfl, by go_num, HO4, hB4⟩
      case measure => simp [intOf]; omega
    · obtain rfl : k = n := by omega
      have hls : (lvs l).length = k := by rw [lvs_length]; exact HP.out.len
      obtain ⟨g, hg, hO⟩ : ∃ g, X = some ⟨g, 0, none⟩ ∧ wr.ownsRow W.heap.size 23 1 (.slice X k q) k ((lvs l).map u64) := by
        have hO := HO.out
        rw [← hls, List.take_length, hls] at hO
        obtain ⟨A', c', e, h1⟩ := own_form hO
        injection e with e1 e2 e3
        obtain ⟨g, hg⟩ := h1 (by omega)
        exact ⟨g, by rw [e1, hg], hO⟩
      subst hg
      have HR : Hid (LR l k W J (.slice (some ⟨g, 0, none⟩) k q) [] wr) :=
        ⟨[], W, g, k, q, rfl, hls.symm, hgt_pos _, H0.out, hB, Nat.le_refl _, hO, Marks.nil _ _⟩
      clear HO hO H0
      gi_wp2_with fail

      refine wpIn_loop (fun a' w' => ∃ (u3 u6 u21 u22 u23 u24 u25 u26 u27 u28 u29 u30 u51 : Value) (ds : List Deferred), LR l k W J u3 ds w' ∧ a' = { tmps := #[Value.func (Fn.yield l₀) #[] #[], Value.pointer (some { block := Bp, off := 0 }), undef, u3, undef, u5, u6, undef, Value.slice A k c, Value.int IntKind.i64 ↑k, Value.int IntKind.i64 ↑k, Value.bool false, u12, u13, u14, u15, u16, u17, u18, u19, u20, u21, u22, u23, u24, u25, u26, u27, u28, u29, u30, undef, undef, undef, undef, undef, undef, undef, undef, undef, undef, undef, undef, undef, undef, undef, undef, undef, undef, undef, undef, u51], defers := ds }) (fun a' _ => lenV (a'.tmps.getD 3 undef)) ?start ?rnd
      case start =>
        (repeat apply Exists.intro)
        refine ⟨HR.out, rfl⟩
      case rnd =>
        intro a' wr' hinv
        obtain ⟨u3, u6, u21, u22, u23, u24, u25, u26, u27, u28, u29, u30, u51, ds, hrel, rfl⟩ := hinv
        obtain ⟨pre, Wp, g, m, q, rfl, hm, hlt, hJp, hbp, hsp, hrow, hmk⟩ := hrel
        have hls' : 0 < (lvs l).length := by omega
        have hmp : 1 ≤ m := by rw [hm]; exact lev_pos hls' _
        have hm16 : m ≤ 16 := by rw [hm]; exact lev_le _ (by omega) _
        obtain ⟨fn, tmps, assign, body, hy, hRd⟩ := hY pre ⟨some ⟨g, 0, none⟩, m, q⟩ Wp wr' hJp hbp ⟨hlt, hrow⟩
        dsimp only [Lv.v] at hy
        have HJ := Lib.hid hJ
        clear hJ hY HP HR
        by_cases h1 : m ≤ 1
        · obtain rfl : m = 1 := by omega
          have HF : Hid (pre.length + 1 = hgt (lvs l)) := lev_len1 _ _ (by rw [← hm]; exact Nat.le_refl _) hlt
          have HM := Lib.hid hmk
          clear hm hmk hJp hbp hsp hrow hlt
          gi_wp2_with fail
          refine hRd.mono ?_
          rintro e W3 ⟨rfl, hJ3, hk3⟩
          have HJ3 := Lib.hid hJ3
          have HM3 := Lib.hid (hk3.marks HM.out)
          clear hJ3 hk3
          gi_wp2_with fail
          refine Marks.leaves HM3.out ?_
          intro W' _ _ _ _ _ h6
          exact ⟨_, results_none rfl _ _ _, ⟨_, rfl⟩, _, by simpa using HF.out, h6 _ J _ HJ.out HJ3.out⟩
        · have h2 : (1 : Int) < m := by omega
          have HF : Hid (pre.length + 1 < hgt (lvs l)) := lev_more _ _ (by rw [← hm]; exact h1) hlt
          have HM := Lib.hid hmk
          have HR := Lib.hid hrow
          have Hm := Lib.hid hm
          have Hb := Lib.hid hbp
          clear hm hmk hJp hbp hrow hlt
          gi_wp2_with fail
          refine hRd.mono ?_
          rintro e W3 ⟨rfl, hJ3, hk3⟩
          have hsz3 : W.heap.size ≤ W3.heap.size := Nat.le_trans hsp (Nat.le_trans Hb.out.size hk3.1)
          have HJ3 := Lib.hid hJ3
          have HM3 := Lib.hid (hk3.marks HM.out)
          have HR3 := Lib.hid (hk3.row HR.out)
          clear hJ3 hk3
          gi_wp2_with fail
          refine ⟨trivial, (chunk_in _ _ _ _ _ rfl).mono ?_⟩
          rintro e w' ⟨rfl, rfl⟩
          gi_wp2_with fail
          obtain ⟨D, hD⟩ : ∃ D, W3.heap.size = D := ⟨_, rfl⟩
          obtain ⟨ls, hL⟩ : ∃ ls, lev (lvs l) pre.length = ls := ⟨_, rfl⟩
          have HF2 := HF.out
          have hrw := HR3.out
          rw [hL] at hrw
          have hm := Hm.out
          rw [hL] at hm
          clear HR3 HR Hm
          have Hml := Lib.hid hm; clear hm
          dsimp only [Lv.v] at hrw
          obtain ⟨hgD, hmq, hcell⟩ := row_cells hrw hmp
          have b0 := ((Blk.new W3 39 #[.slice none 0 0]).alloc (.cells #[.slice (some ⟨g, 0, none⟩) m q] 39)).alloc (.cells #[i64 2] 3)
          have b1 := (Blk.new (W3.alloc (.cells #[.slice none 0 0] 39)) 39 #[.slice (some ⟨g, 0, none⟩) m q]).alloc (.cells #[i64 2] 3)
          have b2 := Blk.new ((W3.alloc (.cells #[.slice none 0 0] 39)).alloc (.cells #[.slice (some ⟨g, 0, none⟩) m q] 39)) 3 #[i64 2]
          have hB4 := (((Below.refl W3.heap.size W3).alloc (Nat.le_refl _) (.cells #[.slice none 0 0] 39)).alloc (by simp) (.cells #[.slice (some ⟨g, 0, none⟩) m q] 39)).alloc (by simp; omega) (.cells #[i64 2] 3)
          have hs4 : (((W3.alloc (.cells #[.slice none 0 0] 39)).alloc (.cells #[.slice (some ⟨g, 0, none⟩) m q] 39)).alloc (.cells #[i64 2] 3)).heap.size = D + 3 := by simp; omega
          simp only [World.size_alloc] at b1 b2
          rw [hD] at b0 b1 b2 hB4 hgD hsz3
          rw [hD]
          generalize ((W3.alloc (.cells #[.slice none 0 0] 39)).alloc (.cells #[.slice (some ⟨g, 0, none⟩) m q] 39)).alloc (.cells #[i64 2] 3) = W4 at *
          have hup : ∀ W5 : World, ∀ a b, Below W5.heap.size W5 a → Below a.heap.size a b → Below W5.heap.size W5 b := fun W5 a b h k => below_trans' h k
          refine wpIn_rfd [(7, 31)] (fun x : Fin (prs m) => [(31, chv g 0 m x.1)]) (gf := 56) (lb := #[.pointer (some ⟨D + 1, 0, none⟩), .pointer (some ⟨D + 1 + 1, 0, none⟩)]) rfl (enters_of Try.func56 (by kernel_rfl) rfl)
            (chunk_stops (D + 1) (D + 1 + 1) D g 0 m q hm16 hmq W4 b1 b2 (by omega)) (fun h k => h.trans k) (fun W l o o' hl ho hc hw => ⟨belowK_b (w := W4) (by omega) W l o o' hl ho hc hw, World.putObj_heap_other (by omega), World.putObj_heap_other (by omega)⟩) (fun _ => rfl)
            (NI D (prs m) ls #[.slice (some ⟨g, 0, none⟩) m q] W3) (fun _ _ _ => False) (NI.own D (prs m) W4.heap.size ls _ W3 (by omega)) (fun _ _ _ _ _ hs _ _ => hs)
            ⟨none, 0, b0, ⟨rfl, .inl ⟨rfl, rfl⟩⟩, hB4, by omega, b1, b2⟩ ?assign ?body ?done ?stop
          case assign =>
            intro l₁ x W5 K hK
            simp only [rfL, List.foldl_cons, List.foldl_nil, List.set_cons_succ, List.set_cons_zero, List.getD_cons_succ, List.getD_cons_zero] at hK
            gi_wp2
            exact hK
          case body =>
            rintro l₁ pre' x W5 ⟨Y, q', n1, n2, n3, n4, n5, n6⟩ hlen
            simp only [rfL, List.foldl_cons, List.foldl_nil, List.set_cons_succ, List.set_cons_zero, List.getD_cons_succ, List.getD_cons_zero]
            have NP := Lib.hid (fun a b W => pair_any a b W)
            have N1 := Lib.hid n1
            have N2 := Lib.hid n2
            have N5 := Lib.hid n5
            have N6 := Lib.hid n6
            have hb5 : Below W5.heap.size W5 W5 := Below.refl _ _
            have hg5 : g < W5.heap.size := by omega
            have hD5 : D < W5.heap.size := n1.lt
            have HX : Hid ((pre'.map fun x => el ls x.1).map u64 ++ [u64 (el ls x.1)] = ((pre' ++ [x]).map fun x => el ls x.1).map u64) := by show _ = _; simp
            have HLn : Hid ((pre' ++ [x]).length = pre'.length + 1) := by show _ = _; simp
            have f1 : ∀ s : WOf (Below W5.heap.size W5), s.w.cell? ⟨D, 0, none⟩ = some (.slice Y pre'.length q') := fun s => (N1.out.up' s.ok).cell 0
            have hp8 : prs m ≤ 8 := by unfold prs; omega
            generalize hkk : pre'.length = kk at *
            clear n1 n2 n5 n6
            have hc5 : ∀ j, j < m → W5.cell? ⟨g, j, none⟩ = some (u64 (ls.getD j 0)) := fun j hj => (n3.cell (p := ⟨g, j, none⟩) hgD).trans (hcell j hj)
            by_cases hx : 2 * x.1 + 1 < m
            · rw [chv2 g 0 m x.1 hx, Nat.zero_add]
              have f2 : ∀ s : WOf (Below W5.heap.size W5), s.w.cell? ⟨g, 2 * x.1, none⟩ = some (u64 (ls.getD (2 * x.1) 0)) := fun s => (s.ok.cell (p := ⟨g, 2 * x.1, none⟩) hg5).trans (hc5 _ (by omega))
              have f3 : ∀ s : WOf (Below W5.heap.size W5), s.w.cell? ⟨g, 2 * x.1 + 1, none⟩ = some (u64 (ls.getD (2 * x.1 + 1) 0)) := fun s => (s.ok.cell (p := ⟨g, 2 * x.1 + 1, none⟩) hg5).trans (hc5 _ (by omega))
              have HEl : Hid (pair (ls.getD (2 * x.1) 0) (ls.getD (2 * x.1 + 1) 0) = el ls x.1) := by show _ = _; unfold el; rw [if_pos (by rw [← Hml.out]; exact hx)]
              generalize ls.getD (2 * x.1) 0 = y0 at *
              generalize ls.getD (2 * x.1 + 1) 0 = y1 at *
              clear hc5 hcell
              gi_wp2_with fail
              refine wpIn_region_fl (Below W5.heap.size W5) 8 (Below.refl _ _) (hup W5) (by kernel_rfl) (by kernel_rfl) (fun ⟨_, _, h⟩ => h) (by kernel_rfl) (fun hne => ?_)
              simp only [List.take_succ_cons, List.take_zero, List.drop_succ_cons, List.drop_zero]
              repeat (go_big_quiet_step (with_reducible exact calls_ext_same (NP.out _ _ _)))
              refine wpQuiet_nil ?_
              clear hne
              intro s
              refine ⟨fun o ho => ?_, ?_⟩
              · obtain rfl := Option.some.inj ho
                exact ⟨_, _, build_runs 39 23 _ (u64 (pair y0 y1)) rfl ib _ Try.underlying39 hib hz0 hz1 rfl rfl, s.ok.alloc s.ok.size _⟩
              obtain ⟨wx, hwx⟩ := s
              clear f1 f2 f3 NP
              have hN2 := own_keep N2.out hwx
              have hB6 := (n3.trans (hwx.mono (by omega))).alloc (by have := hwx.size; show D ≤ wx.heap.size; omega) (.cells #[u64 (pair y0 y1)] 23)
              have hb6 : Blk (wx.alloc (.cells #[u64 (pair y0 y1)] 23)) D 39 #[.slice Y kk q'] := (N1.out.up' hwx).alloc _
              have hz6 : D ≤ (wx.alloc (.cells #[u64 (pair y0 y1)] 23)).heap.size := by have := hwx.size; simp; omega
              have hk6 : KeepsFrom W4.heap.size W5 (wx.alloc (.cells #[u64 (pair y0 y1)] 23)) := kf_trans (keepsFrom_below hwx) ((KeepsOthers.alloc _ _).from _)
              have p6 := (N5.out.up' hwx).alloc (.cells #[u64 (pair y0 y1)] 23)
              have q6 := (N6.out.up' hwx).alloc (.cells #[u64 (pair y0 y1)] 23)
              have b6 : Below D W5 (wx.alloc (.cells #[u64 (pair y0 y1)] 23)) := (hwx.mono (by omega)).alloc (by have := hwx.size; omega) _
              have hn7 := (hN2.alloc (.cells #[u64 (pair y0 y1)] 23))
              go_wp2_with (at_builtin; refine wpList_append_rd _ rfl (.tmp 35) (.tmp 43) _ rfl D 23 ib _ 1 8 Try.underlying39 hib hz0 hz1 hz2 rfl (by omega) _ _ _ rfl hn7 _ _ 1 _ _ rfl (Rd.new wx _ _ _ 1 1 rfl) (by simp [Value.oneCell']) (by simp only [maxLen]; omega) (by omega) hz6 ?_; intro Yb qb w7 hown2 _ hg2; have hb7 := blk_far_row hb6 hn7 (by decide) hg2; have hB7 := own_below hn7 hg2 hB6 (Nat.le_refl _) hz6; have hk7 := kf_trans hk6 (keepsFrom_grown hn7 hg2); have hs7 := hg2.size; have p7 := blk_far_row p6 hn7 (by decide) hg2; have q7 := blk_far_row q6 hn7 (by decide) hg2; have b7 := own_below hn7 hg2 b6 (Nat.le_refl _) hz6; clear hg2; rw [HEl.out, HX.out] at hown2; have HO7 := Lib.hid hown2; clear hown2; have c7 := hb7.cell 0; have d7 := hb7.frozen 0)
              have p8 := p7.far (p := ⟨D, 0, none⟩) (by show D + 1 ≠ D; omega) (.slice Yb (kk + 1) qb)
              have q8 := q7.far (p := ⟨D, 0, none⟩) (by show D + 1 + 1 ≠ D; omega) (.slice Yb (kk + 1) qb)
              refine ⟨kf_trans hk7 (keepsFrom_set _ _ _), ⟨b7.setCell (p := ⟨D, 0, none⟩) (Nat.le_refl _) _, ?_, ?_⟩, Yb, qb, ?_, ?_, ?_, ?_, p8, q8⟩
              · exact Eq.trans (show _ = _ from p8) (show _ = _ from N5.out).symm
              · exact Eq.trans (show _ = _ from q8) (show _ = _ from N6.out).symm
              · rw [HLn.out]; exact hb7.set_ 0 _
              · rw [HLn.out]; exact row_set HO7.out hb7 (by decide) _
              · exact hB7.setCell (p := ⟨D, 0, none⟩) (Nat.le_refl _) _
              · have h8 := (kf_trans hk7 (keepsFrom_set w7 ⟨D, 0, none⟩ (.slice Yb (kk + 1) qb))).size
                omega
            · rw [show chv g 0 m x.1 = .slice (some ⟨g, 2 * x.1, none⟩) 1 1 by unfold chv cnt; rw [if_neg hx, Nat.zero_add]]
              have f2 : ∀ s : WOf (Below W5.heap.size W5), s.w.cell? ⟨g, 2 * x.1, none⟩ = some (u64 (ls.getD (2 * x.1) 0)) := fun s => (s.ok.cell (p := ⟨g, 2 * x.1, none⟩) hg5).trans (hc5 _ (by have := x.2; unfold prs at this; omega))
              have HEl : Hid (ls.getD (2 * x.1) 0 = el ls x.1) := by show _ = _; unfold el; rw [if_neg (by rw [← Hml.out]; exact hx)]
              generalize ls.getD (2 * x.1) 0 = y0 at *
              clear hc5 hcell
              gi_wp2_with fail
              refine wpIn_region_fl (Below W5.heap.size W5) 4 (Below.refl _ _) (hup W5) (by kernel_rfl) (by kernel_rfl) (fun ⟨_, _, h⟩ => h) (by kernel_rfl) (fun hne => ?_)
              simp only [List.take_succ_cons, List.take_zero, List.drop_succ_cons, List.drop_zero]
              repeat (go_big_quiet_step (fail))
              refine wpQuiet_nil ?_
              clear hne
              intro s
              refine ⟨fun o ho => ?_, ?_⟩
              · obtain rfl := Option.some.inj ho
                exact ⟨_, _, build_runs 39 23 _ (u64 y0) rfl ib _ Try.underlying39 hib hz0 hz1 rfl rfl, s.ok.alloc s.ok.size _⟩
              obtain ⟨wx, hwx⟩ := s
              clear f1 f2 NP
              have hN2 := own_keep N2.out hwx
              have hB6 := (n3.trans (hwx.mono (by omega))).alloc (by have := hwx.size; show D ≤ wx.heap.size; omega) (.cells #[u64 y0] 23)
              have hb6 : Blk (wx.alloc (.cells #[u64 y0] 23)) D 39 #[.slice Y kk q'] := (N1.out.up' hwx).alloc _
              have hz6 : D ≤ (wx.alloc (.cells #[u64 y0] 23)).heap.size := by have := hwx.size; simp; omega
              have hk6 : KeepsFrom W4.heap.size W5 (wx.alloc (.cells #[u64 y0] 23)) := kf_trans (keepsFrom_below hwx) ((KeepsOthers.alloc _ _).from _)
              have p6 := (N5.out.up' hwx).alloc (.cells #[u64 y0] 23)
              have q6 := (N6.out.up' hwx).alloc (.cells #[u64 y0] 23)
              have b6 : Below D W5 (wx.alloc (.cells #[u64 y0] 23)) := (hwx.mono (by omega)).alloc (by have := hwx.size; omega) _
              have hn7 := (hN2.alloc (.cells #[u64 y0] 23))
              go_wp2_with (at_builtin; refine wpList_append_rd _ rfl (.tmp 45) (.tmp 49) _ rfl D 23 ib _ 1 8 Try.underlying39 hib hz0 hz1 hz2 rfl (by omega) _ _ _ rfl hn7 _ _ 1 _ _ rfl (Rd.new wx _ _ _ 1 1 rfl) (by simp [Value.oneCell']) (by simp only [maxLen]; omega) (by omega) hz6 ?_; intro Yb qb w7 hown2 _ hg2; have hb7 := blk_far_row hb6 hn7 (by decide) hg2; have hB7 := own_below hn7 hg2 hB6 (Nat.le_refl _) hz6; have hk7 := kf_trans hk6 (keepsFrom_grown hn7 hg2); have hs7 := hg2.size; have p7 := blk_far_row p6 hn7 (by decide) hg2; have q7 := blk_far_row q6 hn7 (by decide) hg2; have b7 := own_below hn7 hg2 b6 (Nat.le_refl _) hz6; clear hg2; rw [HEl.out, HX.out] at hown2; have HO7 := Lib.hid hown2; clear hown2; have c7 := hb7.cell 0; have d7 := hb7.frozen 0)
              have p8 := p7.far (p := ⟨D, 0, none⟩) (by show D + 1 ≠ D; omega) (.slice Yb (kk + 1) qb)
              have q8 := q7.far (p := ⟨D, 0, none⟩) (by show D + 1 + 1 ≠ D; omega) (.slice Yb (kk + 1) qb)
              refine ⟨kf_trans hk7 (keepsFrom_set _ _ _), ⟨b7.setCell (p := ⟨D, 0, none⟩) (Nat.le_refl _) _, ?_, ?_⟩, Yb, qb, ?_, ?_, ?_, ?_, p8, q8⟩
              · exact Eq.trans (show _ = _ from p8) (show _ = _ from N5.out).symm
              · exact Eq.trans (show _ = _ from q8) (show _ = _ from N6.out).symm
              · rw [HLn.out]; exact hb7.set_ 0 _
              · rw [HLn.out]; exact row_set HO7.out hb7 (by decide) _
              · exact hB7.setCell (p := ⟨D, 0, none⟩) (Nat.le_refl _) _
              · have h8 := (kf_trans hk7 (keepsFrom_set w7 ⟨D, 0, none⟩ (.slice Yb (kk + 1) qb))).size
                omega
          case stop =>
            rintro D' c' pre' W5 _ _ h _
            exact h.elim
          case done =>
            rintro D' ys W5 hD' rfl ⟨Y, q', n1, n2, n3, n4, n5, n6⟩ hK
            have hlen : (List.finRange (prs m)).length = prs m := by simp
            rw [hlen] at n1 n2
            have hnl : prs m = (lev (lvs l) (pre.length + 1)).length := by
              show _ = (nxt (lev (lvs l) pre.length)).length
              rw [nxt_length, hL, ← Hml.out]; rfl
            have hel : ((List.finRange (prs m)).map fun x => el ls x.1) = lev (lvs l) (pre.length + 1) := by
              show _ = nxt (lev (lvs l) pre.length)
              rw [hL]
              exact el_all ls m Hml.out.symm
            rw [hel] at n2
            have hg' : ∃ g', Y = some ⟨g', 0, none⟩ := by
              obtain ⟨A', c', e, h1⟩ := own_form n2
              injection e with e1 e2 e3
              obtain ⟨g', hg'⟩ := h1 (by unfold prs; omega)
              exact ⟨g', by rw [e1, hg']⟩
            obtain ⟨g', rfl⟩ := hg'
            have hmk5 : Marks W.heap.size W5 ds := HM3.out.up (by rw [hD]; exact n3)
            have hmk6 := hmk5.cons HM3.out (D := D') (by omega) (by omega) hK
            have hj5 : Below W3.heap.size W3 W5 := by rw [hD]; exact n3
            have hrow5 : W5.ownsRow W3.heap.size 23 1 (.slice (some ⟨g', 0, none⟩) (prs m) q') (prs m) ((lev (lvs l) (pre.length + 1)).map u64) := by rw [hD]; exact n2
            have hsz5 : W.heap.size ≤ W3.heap.size := by omega
            have HLR : Hid (LR l k W J (.slice (some ⟨g', 0, none⟩) (prs m) q') ({ target := .collected D', args := #[] } :: ds) W5) :=
              ⟨pre ++ [⟨some ⟨g, 0, none⟩, m, q⟩], W3, g', prs m, q', rfl, by simpa using hnl, by simpa using HF.out, HJ3.out, hj5, hsz5, by simpa using hrow5, hmk6⟩
            have c6 := n1.cell 0
            simp only [List.getElem?_toArray, List.getElem?_cons_zero] at c6
            have hmm : prs m < m := by unfold prs; omega
            clear n1 n2 n5 n6 hmk5 hmk6 hj5 hrow5 hnl hel hlen
            gi_wp2_with fail
            refine ⟨⟨_, _, _, _, _, _, _, _, _, _, _, _, _, _, HLR.out, rfl⟩, hmm⟩

theorem levels_in (v : Value) (w : World) (A : Option Addr) (n c : Nat) (hv : v = .slice A n c) :
    CallsIn Fence.wide 5 Try.prog 41 #[v] w fun e w' => e = .returned (.func (.func 52) #[] #[.pointer (some ⟨w.heap.size, 0, none⟩)]) ∧ w.alloc (.cells #[v] 38) = w' := by
  subst hv
  refine callsIn_of_wp Try.func41 rfl trivial ?_ rfl
  simp only [Try.ntmps41, List.size_toArray, List.length_cons, List.length_nil, Nat.reduceAdd, Nat.reduceSub, Array.replicate_succ, Array.replicate_zero, List.push_toArray, List.append_toArray, List.nil_append, List.cons_append]
  gi_wp2
  go_ret
  exact ⟨rfl, rfl⟩
theorem levels_seq (Bp n₀ n c : Nat) (A : Option Addr) (l : List Pg) (hn1 : 1 ≤ n) (hn : n ≤ 16) (w : World) (hw1 : Blk w Bp 38 #[.slice A n c]) (hP : Pgs w n₀ A n l) (hn₀ : n₀ ≤ w.heap.size) :
    SeqV2 Fence.wide 5 Try.prog 52 #[.pointer (some ⟨Bp, 0, none⟩)] (fun x : Lv => #[x.v]) (LV (lvs l)) LK (fun ys => ys.length = hgt (lvs l)) w :=
  fun l₀ J W hW hJ hY h0 => levels1_in l₀ Bp n₀ n c A l hn1 hn J W hJ hY (hw1.up' hW) (hP.below' hW hn₀) (Nat.le_trans hn₀ hW.size) h0
end Go.Proofs.Ythaibmkieflafaa.Tr
