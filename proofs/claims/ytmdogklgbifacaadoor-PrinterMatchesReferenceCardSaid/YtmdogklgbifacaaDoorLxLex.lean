/- lexer.Lex. -/
import Derived.Test.YtmdogklgbifacaaDoorFlat
import Derived.Test.YtmdogklgbifacaaDoorQt
import Derived.Test.YtmdogklgbifacaaDoorLxTok
import Derived.Test.YtmdogklgbifacaaDoorLxIter
namespace Go.Proofs.YtmdogklgbifacaaDoor.Lx
open Go.RowKit Go.Shelf
set_option linter.unusedVariables false
attribute [local go_sem] Oper.semAt_some

def decT (t : Tok) : List Value := [i64 (t.kind : Nat), .string t.text, i64 (t.n : Nat), i64 (t.pos : Nat)]
theorem one_decT (a : Tok) : ∀ u ∈ decT a, u.oneCell' = true := by
  intro u hu
  unfold decT at hu
  simp only [List.mem_cons, List.not_mem_nil, or_false] at hu
  rcases hu with rfl | rfl | rfl | rfl <;> rfl
theorem info_tok : (Tryd.prog.info? 41).map (fun i => (i.zero, i.size, i.bytes)) = some (some (.agg #[.int .i64 0, .string ⟨#[]⟩, .int .i64 0, .int .i64 0]), 4, 40) := by kernel_rfl
/-- The tokens ts lie at the slice (A, n, c), in w. -/
def Toks (w : World) (A : Option Addr) (n c : Nat) (ts : List Tok) : Prop := Rd w w.heap.size 4 A n (ts.flatMap decT) ∧ ts.length = n ∧ n ≤ c ∧ c ≤ maxLen
theorem Toks.up {w w' : World} {A : Option Addr} {n c : Nat} {ts : List Tok} (h : Toks w A n c ts) (hb : Below w.heap.size w w') : Toks w' A n c ts := ⟨h.1.up hb, h.2⟩
theorem Toks.nil_ (w : World) : Toks w none 0 0 [] := ⟨Rd.nil_, rfl, Nat.le_refl _, by decide⟩

theorem token_any (k : Nat) (s : ByteArray) (hk : k = 3 ∨ k = 4 ∨ k = 5) (h0 : s.data.toList ≠ []) (hd : k = 4 → ∀ c ∈ s.data.toList, cls c = 4) (hs : s.size ≤ 8000) (w : World) (hw : Vars w) :
    Calls Tryd.prog 43 #[.agg #[i64 (k : Nat), .string s]] w fun e w' => e = .returned (tokV (tokenOf k s.data.toList)) ∧ Below w.heap.size w w' := by
  rcases hk with rfl | rfl | rfl
  · exact tok_name s hs w
  · exact tok_num s h0 (hd rfl) hs w hw
  · exact tok_punct s hs w

theorem spans_in (s : ByteArray) (w : World) :
    CallsIn Fence.wide 4 Tryd.prog 42 #[.string s] w fun e w' => e = .returned (.func (.func 65) #[] #[.pointer (some ⟨w.heap.size, 0, none⟩)]) ∧ w.alloc (.cells #[.string s] 9) = w' := by
  refine callsIn_of_wp Tryd.func42 rfl trivial ?_ rfl
  simp only [Tryd.ntmps42, List.size_toArray, List.length_cons, List.length_nil, Nat.reduceAdd, Nat.reduceSub, Array.replicate_succ, Array.replicate_zero, List.push_toArray, List.append_toArray, List.nil_append, List.cons_append]
  gi_wp2
  go_ret
  exact ⟨rfl, rfl⟩
theorem spans_stops (Bs n₀ : Nat) (s : ByteArray) (hs : s.size ≤ 8000) (w : World) (hBs : Blk w Bs 9 #[.string s]) :
    SeqStopsK Fence.wide 4 Tryd.prog 65 #[.pointer (some ⟨Bs, 0, none⟩)] Sp.enc (Kp n₀ Bs) (fun ys => ys.map (·.1) = spans s.data.toList 0) (fun pre => pre.map (·.1) <+: spans s.data.toList 0) (spans s.data.toList 0).length w :=
  fun l J Jx W hW _ _ hY h0 => spans1_in l Bs n₀ s hs J Jx hY W (hBs.up' hW) h0

/-- Between two rounds. -/
def LI (F : Nat) (s : ByteArray) (pre : List Sp) (W : World) : Prop :=
  ∃ (acc : List Tok) (A : Option Addr) (c : Nat), lexE [] (pre.map (·.1)) = .ok acc ∧ acc.length ≤ 2000 ∧ Blk W F 30 #[.slice none 0 0] ∧ Blk W (F + 1) 25 #[i64 0] ∧ Blk W (F + 2) 3 #[i64 0] ∧
    Blk W (F + 3) 30 #[.slice A acc.length c] ∧ W.ownsRow F 41 4 (.slice A acc.length c) acc.length (acc.flatMap decT) ∧ Blk W (F + 4) 9 #[.string s] ∧ F + 5 ≤ W.heap.size
/-- A round has left. -/
def LX (F : Nat) (co : Code) (pre : List Sp) (W : World) : Prop :=
  co = .ret ∧ ∃ e : Nat × Nat, lexE [] (pre.map (·.1)) = .error e ∧ Blk W F 30 #[.slice none 0 0] ∧ Blk W (F + 1) 25 #[i64 (e.1 : Nat)] ∧ Blk W (F + 2) 3 #[i64 (e.2 : Nat)]
theorem blk_kept {X Y : World} {row : Option Nat} {g : Nat} {t : TypeId} {cs : Array Value} (h : Blk X g t cs) (hg : X.grownBy Y row) (hr : ∀ r, row = some r → ∃ o : Obj, X.heap[r]? = some o ∧ o.isCells = false) : Blk Y g t cs :=
  h.grown hg (fun e => by
    obtain ⟨o, ho, hc⟩ := hr g e.symm
    unfold Blk at h
    rw [h] at ho
    cases ho
    cases hc)
theorem own_kept' {X Y : World} {row : Option Nat} {base size n : Nat} {e : TypeId} {v : Value} {xs : List Value} (h : X.ownsRow base e size v n xs) (hg : X.grownBy Y row) (hr : ∀ r, row = some r → ∃ o : Obj, X.heap[r]? = some o ∧ o.isCells = false) : Y.ownsRow base e size v n xs := by
  refine h.kept hg ?_
  rcases h.2 with ⟨rfl, _⟩ | ⟨g, cap, cur, rfl, _, hgb, _⟩
  · exact .inl rfl
  · refine .inr fun e' => ?_
    obtain ⟨o, ho, hc⟩ := hr g (by simpa [Value.ownBlock] using e'.symm)
    rw [hgb] at ho; cases ho; cases hc
theorem li_own (F : Nat) (s : ByteArray) : Own (LI F s) := by
  rintro pre X Y row ⟨acc, A, c, h1, h2, h3, h4, h5, h6, h7, h8, h9⟩ hg hr
  exact ⟨acc, A, c, h1, h2, blk_kept h3 hg hr, blk_kept h4 hg hr, blk_kept h5 hg hr, blk_kept h6 hg hr, own_kept' h7 hg hr, blk_kept h8 hg hr, Nat.le_trans h9 hg.size⟩
theorem lx_own (F : Nat) (co : Code) : Own (LX F co) := by
  rintro pre X Y row ⟨h0, e, h1, h2, h3, h4⟩ hg hr
  exact ⟨h0, e, h1, blk_kept h2 hg hr, blk_kept h3 hg hr, blk_kept h4 hg hr⟩

theorem own_blk {w : World} {base n s : Nat} {e t : TypeId} {v : Value} {xs : List Value} (k : w.ownsRow base e s v n xs) {B : Nat} {cs : Array Value} (hB : Blk w B t cs) (hne : e ≠ t) : v.ownBlock = none ∨ v.ownBlock ≠ some B := by
  rcases k.2 with ⟨rfl, _⟩ | ⟨g, cap, cur, rfl, _, hgb, _⟩
  · exact .inl rfl
  · refine .inr fun h => ?_
    have e3 : g = B := by simpa [Value.ownBlock] using h
    subst e3
    unfold Blk at hB
    rw [hgb] at hB
    simp at hB
    exact hne hB.2
theorem own_far {w : World} {base n s : Nat} {e t : TypeId} {v : Value} {xs : List Value} (k : w.ownsRow base e s v n xs) {B : Nat} {cs : Array Value} (hB : Blk w B t cs) (hne : e ≠ t) (i : Nat) (u : Value) : (w.setCell ⟨B, i, none⟩ u).ownsRow base e s v n xs :=
  k.kept (row := some B) ⟨rfl, rfl, rfl, by simp [World.setCell], fun j _ hj => Below.heap_setCell w ⟨B, i, none⟩ u j (fun e => hj (by rw [e]))⟩ (own_blk k hB hne)
theorem own_put {w : World} {base n s : Nat} {e : TypeId} {v : Value} {xs : List Value} (k : w.ownsRow base e s v n xs) {D : Nat} {ds : Option (List Deferred)} (hD : w.heap[D]? = some (.deferred ds)) (o : Obj) : (w.putObj D o).ownsRow base e s v n xs :=
  own_kept' k (grownBy_putObj' w D o) (fun r e => by cases e; exact ⟨_, hD, rfl⟩)
theorem own_toks {w : World} {base : Nat} {A : Option Addr} {c : Nat} {ts : List Tok} (k : w.ownsRow base 41 4 (.slice A ts.length c) ts.length (ts.flatMap decT)) : Toks w A ts.length c ts := by
  refine ⟨Rd.of_own k, rfl, ?_⟩
  rcases k.2 with ⟨h, h0⟩ | ⟨g, cap, cur, h, _, _, _, h1, h2, _⟩
  · injection h with _ _ h3
    omega
  · injection h with _ _ h3
    omega

theorem new_ne' {w : World} {a : Addr} {u : Value} (h : w.cell? a = some u) : w.heap.size ≠ a.block := Nat.ne_of_gt (cell_lt h)
theorem own_not {w : World} {base n s : Nat} {e t : TypeId} {v : Value} {xs : List Value} (k : w.ownsRow base e s v n xs) {B : Nat} {cs : Array Value} (hB : Blk w B t cs) (hne : e ≠ t) : v.ownBlock ≠ some B := by
  rcases own_blk k hB hne with h | h
  · rw [h]; simp
  · exact h
theorem own_keeps {w w' : World} {base n s : Nat} {e : TypeId} {v : Value} {xs : List Value} (k : w.ownsRow base e s v n xs) (hg : w.grownBy w' v.ownBlock) : KeepsOthers w w' :=
  KeepsOthers.of_grownBy hg (fun j o hj ho => by
    rcases k.2 with ⟨h, _⟩ | ⟨g, cap, cur, h, _, hgb, _⟩
    · rw [h] at hj; simp [Value.ownBlock] at hj
    · rw [h] at hj
      have e3 : g = j := by simpa [Value.ownBlock] using hj
      subst e3
      rw [hgb] at ho
      cases ho
      rfl)
/-- What Lex hands back. -/
def LexPost (w : World) (r : LexR) (e : Ending) (w' : World) : Prop :=
  ∃ A n c, e = .returned (.tuple #[.slice A n c, i64 (r.err : Nat), i64 (r.pos : Nat)]) ∧ Toks w' A n c r.toks ∧ Below w.heap.size w w'

theorem lx_exit {F : Nat} {V : World} {v0 v1 v2 : Value} (b0 : Blk V F 30 #[v0]) (b1 : Blk V (F + 1) 25 #[v1]) (b2 : Blk V (F + 2) 3 #[v2]) {pre : List Sp} {e p : Nat} (h : lexE [] (pre.map (·.1)) = .error (e, p)) :
    LX F .ret pre (((V.setCell ⟨F, 0, none⟩ (.slice none 0 0)).setCell ⟨F + 1, 0, none⟩ (.int .i64 (e : Int))).setCell ⟨F + 1 + 1, 0, none⟩ (.int .i64 (p : Int))) :=
  ⟨rfl, (e, p), h, ((b0.set_ 0 (.slice none 0 0)).far (p := ⟨F + 1, 0, none⟩) (by simp) (.int .i64 (e : Int))).far (p := ⟨F + 1 + 1, 0, none⟩) (by simp; omega) (.int .i64 (p : Int)),
    ((b1.far (p := ⟨F, 0, none⟩) (by simp) (.slice none 0 0)).set_ 0 (.int .i64 (e : Int))).far (p := ⟨F + 1 + 1, 0, none⟩) (by simp) (.int .i64 (p : Int)),
    ((b2.far (p := ⟨F, 0, none⟩) (by simp) (.slice none 0 0)).far (p := ⟨F + 1, 0, none⟩) (by simp) (.int .i64 (e : Int))).set_ 0 (.int .i64 (p : Int))⟩
theorem three_below {w0 V : World} {F : Nat} {v0 v1 v2 : Value} (h : Below F w0 V) : Below F w0 (((V.setCell ⟨F, 0, none⟩ v0).setCell ⟨F + 1, 0, none⟩ v1).setCell ⟨F + 1 + 1, 0, none⟩ v2) :=
  ((h.setCell (p := ⟨F, 0, none⟩) (Nat.le_refl _) v0).setCell (p := ⟨F + 1, 0, none⟩) (by simp) v1).setCell (p := ⟨F + 1 + 1, 0, none⟩) (by simp; omega) v2
theorem three_keeps {B F : Nat} {W V : World} {v0 v1 v2 : Value} (h : KeepsFrom B W V) : KeepsFrom B W (((V.setCell ⟨F, 0, none⟩ v0).setCell ⟨F + 1, 0, none⟩ v1).setCell ⟨F + 1 + 1, 0, none⟩ v2) :=
  ((h.trans (keepsFrom_set _ _ _)).trans (keepsFrom_set _ _ _)).trans (keepsFrom_set _ _ _)
theorem tokenOf_err {k : Nat} {l : List UInt8} {e : Nat} (h : tokenOf k l = .error e) : e = 3 ∨ e = 7 := by
  unfold tokenOf at h
  split at h
  · split at h
    · injection h with h; exact .inl h.symm
    · cases h
  · split at h
    · split at h
      · injection h with h; exact .inr h.symm
      · split at h
        · injection h with h; exact .inl h.symm
        · cases h
    · cases h
theorem stepS_tok {acc : List Tok} {p k : Nat} {t : ByteArray} (h1 : ¬ (k = 1 ∨ k = 2)) (h0 : k ≠ 0) (hl : acc.length ≠ 2000) : stepS acc ⟨p, k, t⟩ = match tokenOf k t.data.toList with | .error e => .error (e, p) | .ok t => .ok (acc ++ [{ t with pos := p }]) := by
  unfold stepS
  rw [if_neg h1, if_neg h0, if_neg hl]
  rfl

set_option maxRecDepth 100000 in
set_option maxHeartbeats 2000000 in
theorem lex_in (s : ByteArray) (hs : s.size ≤ maxLen) (w : World) (hw : Vars w) :
    CallsIn Fence.wide 5 Tryd.prog 22 #[.string s] w (LexPost w (LEX s.data.toList)) := by
  unfold maxLen at hs
  have hl : s.data.toList.length = s.size := Array.length_toList
  obtain ⟨W0, hW0⟩ : ∃ W0, ((w.alloc (.cells #[.slice none 0 0] 30)).alloc (.cells #[i64 0] 25)).alloc (.cells #[i64 0] 3) = W0 := ⟨_, rfl⟩
  have hB0 : Below w.heap.size w W0 := by rw [← hW0]; exact (((Below.refl _ w).alloc (Nat.le_refl _) _).alloc (by simp) _).alloc (by simp; omega) _
  have hs0 : W0.heap.size = w.heap.size + 3 := by rw [← hW0]; simp
  have b0 : Blk W0 w.heap.size 30 #[.slice none 0 0] := by rw [← hW0]; exact ((Blk.new w _ _).alloc _).alloc _
  have b1 : Blk W0 (w.heap.size + 1) 25 #[i64 0] := by
    have := (Blk.new (w.alloc (.cells #[.slice none 0 0] 30)) 25 #[i64 0]).alloc (.cells #[i64 0] 3)
    rw [World.size_alloc] at this
    rw [← hW0]; exact this
  have b2 : Blk W0 (w.heap.size + 2) 3 #[i64 0] := by
    have := Blk.new ((w.alloc (.cells #[.slice none 0 0] 30)).alloc (.cells #[i64 0] 25)) 3 #[i64 0]
    rw [World.size_alloc, World.size_alloc] at this
    rw [← hW0]; exact this
  have B0 := Lib.hid b0
  have B1 := Lib.hid b1
  have B2 := Lib.hid b2
  have k0 : W0.cell? ⟨w.heap.size, 0, none⟩ = some (.slice none 0 0) := b0.cell 0
  have k1 : W0.cell? ⟨w.heap.size + 1, 0, none⟩ = some (i64 0) := b1.cell 0
  have k2 : W0.cell? ⟨w.heap.size + 1 + 1, 0, none⟩ = some (i64 0) := b2.cell 0
  have y0 : W0.frozen? ⟨w.heap.size, 0, none⟩ = false := b0.frozen 0
  have y1 : W0.frozen? ⟨w.heap.size + 1, 0, none⟩ = false := b1.frozen 0
  have y2 : W0.frozen? ⟨w.heap.size + 1 + 1, 0, none⟩ = false := b2.frozen 0
  clear b0 b1 b2
  by_cases hbig : 8000 < s.size
  · have hb' : (8000 : Int) < (s.size : Int) := by omega
    have he : LEX s.data.toList = ⟨[], 2, 0⟩ := by unfold LEX; rw [if_pos (by rw [hl]; exact hbig)]
    rw [he]
    clear he hl
    refine callsIn_of_wp_marks Tryd.func22 rfl trivial ?_ rfl
    simp only [Tryd.ntmps22, List.size_toArray, List.length_cons, List.length_nil, Nat.reduceAdd, Nat.reduceSub, Array.replicate_succ, Array.replicate_zero, List.push_toArray, List.append_toArray, List.nil_append, List.cons_append]
    gi_wp2_with fail
    have M0 := ((B0.out.set_ 0 (.slice none 0 0)).far (p := ⟨w.heap.size + 1, 0, none⟩) (by simp) (.int .i64 2)).far (p := ⟨w.heap.size + 2, 0, none⟩) (by simp) (.int .i64 0)
    have M1 := ((B1.out.far (p := ⟨w.heap.size, 0, none⟩) (by simp) (.slice none 0 0)).set_ 0 (.int .i64 2)).far (p := ⟨w.heap.size + 2, 0, none⟩) (by simp) (.int .i64 0)
    have M2 := ((B2.out.far (p := ⟨w.heap.size, 0, none⟩) (by simp) (.slice none 0 0)).far (p := ⟨w.heap.size + 1, 0, none⟩) (by simp) (.int .i64 2)).set_ 0 (.int .i64 0)
    have hB3 := ((hB0.setCell (p := ⟨w.heap.size, 0, none⟩) (Nat.le_refl _) (.slice none 0 0)).setCell (p := ⟨w.heap.size + 1, 0, none⟩) (by simp) (.int .i64 2)).setCell (p := ⟨w.heap.size + 2, 0, none⟩) (by simp) (.int .i64 0)
    obtain ⟨wf, hwf⟩ : ∃ wf, ((W0.setCell ⟨w.heap.size, 0, none⟩ (.slice none 0 0)).setCell ⟨w.heap.size + 1, 0, none⟩ (.int .i64 2)).setCell ⟨w.heap.size + 1 + 1, 0, none⟩ (.int .i64 0) = wf := ⟨_, rfl⟩
    rw [hwf]
    replace M0 : Blk wf w.heap.size 30 #[.slice none 0 0] := by rw [← hwf]; exact M0
    replace M1 : Blk wf (w.heap.size + 1) 25 #[.int .i64 2] := by rw [← hwf]; exact M1
    replace M2 : Blk wf (w.heap.size + 2) 3 #[.int .i64 0] := by rw [← hwf]; exact M2
    replace hB3 : Below w.heap.size w wf := by rw [← hwf]; exact hB3
    have m0 : wf.cell? ⟨w.heap.size, 0, none⟩ = some (.slice none 0 0) := M0.cell 0
    have m1 : wf.cell? ⟨w.heap.size + 1, 0, none⟩ = some (.int .i64 2) := M1.cell 0
    have m2 : wf.cell? ⟨w.heap.size + 1 + 1, 0, none⟩ = some (.int .i64 0) := M2.cell 0
    refine ⟨.tuple #[.slice none 0 0, i64 2, i64 0], ?_, none, 0, 0, rfl, Toks.nil_ _, hB3⟩
    simp [results, Tryd.f22, go_sem, m0, m1, m2]
  · have hb' : ¬ (8000 : Int) < (s.size : Int) := by omega
    have he : LEX s.data.toList = resOf (lexE [] (spans s.data.toList 0)) := by unfold LEX; rw [if_neg (by rw [hl]; exact hbig)]
    rw [he]
    clear he hl k0 k1 k2 y0 y1 y2
    refine callsIn_of_wp_marks Tryd.func22 rfl trivial ?_ rfl
    simp only [Tryd.ntmps22, List.size_toArray, List.length_cons, List.length_nil, Nat.reduceAdd, Nat.reduceSub, Array.replicate_succ, Array.replicate_zero, List.push_toArray, List.append_toArray, List.nil_append, List.cons_append]
    gi_wp2_with fail
    refine ⟨trivial, ?_⟩
    refine (spans_in _ _).mono ?_
    rintro e w' ⟨rfl, rfl⟩
    gi_wp2_with fail
    have b0 := (B0.out.alloc (.cells #[.slice none 0 0] 30)).alloc (.cells #[.string s] 9)
    have b1 := (B1.out.alloc (.cells #[.slice none 0 0] 30)).alloc (.cells #[.string s] 9)
    have b2 := (B2.out.alloc (.cells #[.slice none 0 0] 30)).alloc (.cells #[.string s] 9)
    have b3 := (Blk.new W0 30 #[.slice none 0 0]).alloc (.cells #[.string s] 9)
    have b4 := Blk.new (W0.alloc (.cells #[.slice none 0 0] 30)) 9 #[.string s]
    rw [World.size_alloc] at b4
    rw [hs0] at b3 b4
    have hBN : Below w.heap.size w ((W0.alloc (.cells #[.slice none 0 0] 30)).alloc (.cells #[.string s] 9)) := (hB0.alloc (by omega) _).alloc (by simp; omega) _
    have hLI0 : LI w.heap.size s [] ((W0.alloc (.cells #[.slice none 0 0] 30)).alloc (.cells #[.string s] 9)) :=
      ⟨[], none, 0, rfl, by simp, b0, b1, b2, b3, ⟨rfl, .inl ⟨rfl, rfl⟩⟩, b4, by simp; omega⟩
    generalize hWL : (W0.alloc (.cells #[.slice none 0 0] 30)).alloc (.cells #[.string s] 9) = WL at *
    have hsL : WL.heap.size = w.heap.size + 5 := by rw [← hWL]; simp; omega
    clear hWL
    refine wpIn_rangeFunc_ownH (n := 5) (F := Fence.wide) rfl (by decide) (gf := 65) (lb := #[.pointer (some ⟨w.heap.size + 3 + 1, 0, none⟩)]) rfl trivial (enters_of Tryd.func65 (by kernel_rfl) rfl)
      (spans_stops (w.heap.size + 3 + 1) w.heap.size s (by omega) WL b4) (fun h k => h.trans k) (fun W l o o' hl ho hc hw => ⟨belowK_b (w := WL) (by omega) W l o o' hl ho hc hw, World.putObj_heap_other (by omega)⟩) (Below.refl _ _) (fun _ => rfl)
      (fun pre W => LI w.heap.size s pre W ∧ Below w.heap.size w W)
      (fun c pre W => LX w.heap.size c pre W ∧ Below w.heap.size w W)
      (OwnFrom.and (Own.from (li_own _ _) _) (ownFrom_below (Nat.le_refl _) (by omega)))
      (fun c => OwnFrom.and (Own.from (lx_own _ _) _) (ownFrom_below (Nat.le_refl _) (by omega)))
      ⟨hLI0, hBN⟩
      (fun x a' W => ∃ Bx, w.heap.size + 5 ≤ Bx ∧ Blk W Bx 84 #[i64 (x.1.cls : Nat), .string x.1.text] ∧ a' = { tmps := #[.string s, undef, .pointer (some ⟨w.heap.size, 0, none⟩), .pointer (some ⟨w.heap.size + 1, 0, none⟩), .pointer (some ⟨w.heap.size + 1 + 1, 0, none⟩), .pointer (some ⟨w.heap.size + 3, 0, none⟩), i64 (x.1.pos : Nat), .pointer (some ⟨Bx, 0, none⟩), undef, undef, .string s, i64 (s.size : Nat), .bool false, .string s, .func (.func 65) #[] #[.pointer (some ⟨w.heap.size + 3 + 1, 0, none⟩)], i64 (x.1.pos : Nat), .agg #[i64 (x.1.cls : Nat), .string x.1.text], undef, undef, undef, undef, undef, undef, undef, undef, undef, undef, undef, undef, undef, undef, undef, undef, undef, undef, undef, undef, undef, undef, undef, undef, undef, undef, undef, undef, undef, undef, undef, undef, undef, undef, undef], defers := [] })
      (fun x a' => fun _ X Y row ⟨Bx, h1, h2, h3⟩ hg hr => ⟨Bx, h1, blk_kept h2 hg (fun r e => (hr r e).2), h3⟩) ?assign ?body ?done ?stop
    case assign =>
      rintro l pre x W K ⟨hI, hB⟩ hK
      have hsz : w.heap.size + 5 ≤ W.heap.size := by
        obtain ⟨acc, A, c, h1, h2, h3, h4, h5, h6, h7, h8, h9⟩ := hI
        exact h9
      have hb := (Below.refl W.heap.size W).alloc (Nat.le_refl _) (.cells #[i64 (x.1.cls : Nat), .string x.1.text] 84)
      have hI2 : LI w.heap.size s pre (W.alloc (.cells #[i64 (x.1.cls : Nat), .string x.1.text] 84)) := (li_own _ _).alloc _ hI
      have HK := Lib.hid (hK _ _ ((KeepsOthers.alloc W (.cells #[i64 (x.1.cls : Nat), .string x.1.text] 84)).from _) ⟨hb.mono (by omega), hb.block _ (by omega)⟩ ⟨hI2, hB.alloc hB.size _⟩ ⟨W.heap.size, hsz, Blk.new W _ _, rfl⟩)
      clear hK hI hI2 hb
      simp only [Sp.enc]
      gi_wp2_with fail
      exact HK.out
    case body =>
      rintro l pre ⟨⟨pos, k, text⟩, ok⟩ a' W _ _ ⟨⟨acc, A, c, h1, h2, h3, h4, h5, h6, h7, h8, h9⟩, hB⟩ ⟨Bx, hBx, hX, rfl⟩ _
      dsimp only at hX
      have HS : Hid (lexE [] ((pre ++ [(⟨⟨pos, k, text⟩, ok⟩ : Sp)]).map (·.1)) = stepS acc ⟨pos, k, text⟩) := Lib.hid (by rw [List.map_append]; exact lexE_snoc _ _ _ _ h1)
      have okx := Lib.hid ok
      have x0 : W.cell? ⟨Bx, 0, none⟩ = some (i64 (k : Nat)) := hX.cell 0
      have x1 : W.cell? ⟨Bx, 1, none⟩ = some (.string text) := hX.cell 1
      have o3 : W.cell? ⟨w.heap.size + 3, 0, none⟩ = some (.slice A acc.length c) := h6.cell 0
      have p0 : W.cell? ⟨w.heap.size, 0, none⟩ = some (.slice none 0 0) := h3.cell 0
      have p1 : W.cell? ⟨w.heap.size + 1, 0, none⟩ = some (i64 0) := h4.cell 0
      have p2 : W.cell? ⟨w.heap.size + 1 + 1, 0, none⟩ = some (i64 0) := h5.cell 0
      have q0 := h3.frozen 0
      have q1 := h4.frozen 0
      have q2 : W.frozen? ⟨w.heap.size + 1 + 1, 0, none⟩ = false := h5.frozen 0
      have H3 := Lib.hid h3
      have H4 := Lib.hid h4
      have H5 := Lib.hid h5
      have H6 := Lib.hid h6
      have H7 := Lib.hid h7
      have H8 := Lib.hid h8
      have HB := Lib.hid hB
      have HX := Lib.hid hX
      clear h1 h3 h4 h5 h6 h7 h8 hX
      by_cases k1 : k = 1 ∨ k = 2
      · have hst : stepS acc ⟨pos, k, text⟩ = .ok acc := by unfold stepS; rw [if_pos k1]
        have HL : Hid (LI w.heap.size s (pre ++ [(⟨⟨pos, k, text⟩, ok⟩ : Sp)]) W) := Lib.hid ⟨acc, A, c, by rw [HS.out, hst], h2, H3.out, H4.out, H5.out, H6.out, H7.out, H8.out, h9⟩
        clear hst
        rcases k1 with rfl | rfl
        all_goals
          gi_wp2_with fail
          exact ⟨KeepsFrom.refl _ _, Kp.refl _ _ _, HL.out, HB.out⟩
      · have e1 : ((k : Int) == 1) = false := by rw [beq_eq_false_iff_ne]; omega
        have e2 : ((k : Int) == 2) = false := by rw [beq_eq_false_iff_ne]; omega
        by_cases k0 : k = 0
        · have hst : stepS acc ⟨pos, k, text⟩ = .error (7, pos) := by unfold stepS; rw [if_neg k1, if_pos k0]
          have HL := Lib.hid (HS.out.trans hst)
          have e0 : ((k : Int) == 0) = true := by rw [beq_iff_eq]; omega
          clear hst k0 k1
          gi_wp2_with fail
          exact ⟨three_keeps (KeepsFrom.refl _ _), lx_exit (e := 7) H3.out H4.out H5.out HL.out, three_below HB.out⟩
        · have e0 : ((k : Int) == 0) = false := by rw [beq_eq_false_iff_ne]; omega
          by_cases hfull : acc.length = 2000
          · have hst : stepS acc ⟨pos, k, text⟩ = .error (2, pos) := by unfold stepS; rw [if_neg k1, if_neg k0, if_pos hfull]
            have HL := Lib.hid (HS.out.trans hst)
            have ef : ((acc.length : Int) == 2000) = true := by rw [beq_iff_eq]; omega
            clear hst k0 k1 hfull
            gi_wp2_with fail
            exact ⟨three_keeps (KeepsFrom.refl _ _), lx_exit (e := 2) H3.out H4.out H5.out HL.out, three_below HB.out⟩
          · have ef : ((acc.length : Int) == 2000) = false := by rw [beq_eq_false_iff_ne]; omega
            have hst := stepS_tok (acc := acc) (p := pos) (k := k) (t := text) k1 k0 hfull
            have hT := token_any k text (by have h5 : k ≤ 5 := ok.1; omega) ok.2.1 ok.2.2.1 ok.2.2.2.1 W (hw.up HB.out)
            have hS2 := HS.out.trans hst
            obtain ⟨r, hr⟩ : ∃ r, tokenOf k text.data.toList = r := ⟨_, rfl⟩
            rw [hr] at hT hS2
            have HTE := Lib.hid (fun e he => tokenOf_err (k := k) (l := text.data.toList) (e := e) (hr.trans he))
            have hlt2 : acc.length < 2000 := by omega
            clear k1 k0 hst hr hfull
            cases r with
            | error er =>
              have her := HTE.out er rfl
              have en : ((er : Int) != 0) = true := by rw [bne_iff_ne]; omega
              simp only [tokV] at hT
              have HT := Lib.hid hT
              have HL := Lib.hid hS2
              clear hT hS2 her HTE
              gi_wp2_with fail
              refine ⟨trivial, ?_⟩
              refine (CallsIn.inRound l (callsIn_wide.2 HT.out)).mono ?_
              rintro e w1 ⟨rfl, hb1⟩
              have B3 := Lib.hid (H3.out.up' hb1)
              have B4 := Lib.hid (H4.out.up' hb1)
              have B5 := Lib.hid (H5.out.up' hb1)
              have p0 : w1.cell? ⟨w.heap.size, 0, none⟩ = some (.slice none 0 0) := (H3.out.up' hb1).cell 0
              have p1 : w1.cell? ⟨w.heap.size + 1, 0, none⟩ = some (i64 0) := (H4.out.up' hb1).cell 0
              have p2 : w1.cell? ⟨w.heap.size + 1 + 1, 0, none⟩ = some (i64 0) := (H5.out.up' hb1).cell 0
              have q0 := (H3.out.up' hb1).frozen 0
              have q1 := (H4.out.up' hb1).frozen 0
              have q2 : w1.frozen? ⟨w.heap.size + 1 + 1, 0, none⟩ = false := (H5.out.up' hb1).frozen 0
              have n0 : w.heap.size < w1.heap.size := cell_lt p0
              have n1 : w.heap.size + 1 < w1.heap.size := cell_lt p1
              have n2 : w.heap.size + 1 + 1 < w1.heap.size := cell_lt p2
              have HB1 := Lib.hid (below_trans' HB.out hb1)
              have HKW := Lib.hid (keepsFrom_below (B := WL.heap.size) hb1)
              clear hb1
              gi_wp2_with fail
              exact ⟨(three_keeps HKW.out).trans ((KeepsOthers.alloc _ _).from _), (lx_own _ _).alloc _ (lx_exit (e := er) B3.out B4.out B5.out HL.out), (three_below HB1.out).alloc (by simp [World.setCell]; omega) _⟩
            | ok t =>
              simp only [tokV] at hT
              have HT := Lib.hid hT
              have HL := Lib.hid hS2
              clear hT hS2 HTE
              gi_wp2_with fail
              refine ⟨trivial, ?_⟩
              refine (CallsIn.inRound l (callsIn_wide.2 HT.out)).mono ?_
              rintro e w1 ⟨rfl, hb1⟩
              have B6 := Lib.hid (H6.out.up' hb1)
              have o3 : w1.cell? ⟨w.heap.size + 3, 0, none⟩ = some (.slice A acc.length c) := B6.out.cell 0
              have q3 : w1.frozen? ⟨w.heap.size + 3, 0, none⟩ = false := B6.out.frozen 0
              have n3 : w.heap.size + 3 < w1.heap.size := cell_lt o3
              have HB1 := Lib.hid (below_trans' HB.out hb1)
              have HKW := Lib.hid (keepsFrom_below (B := WL.heap.size) hb1)
              have R7 := Lib.hid (own_keep H7.out hb1)
              have HBb := Lib.hid hb1
              clear hb1
              obtain ⟨i0, hi, hz0, hz1, hz2⟩ := info_parts info_tok
              obtain ⟨W2, hW2⟩ : ∃ W2, (w1.alloc (.cells #[i64 (t.kind : Nat), .string t.text, i64 (t.n : Nat), i64 (pos : Nat)] 41)).alloc (.cells #[i64 (t.kind : Nat), .string t.text, i64 (t.n : Nat), i64 (pos : Nat)] 41) = W2 := ⟨_, rfl⟩
              have hB12 : Below w1.heap.size w1 W2 := by rw [← hW2]; exact ((Below.refl _ w1).alloc (Nat.le_refl _) _).alloc (by simp) _
              have hs2 : w1.heap.size + 2 ≤ W2.heap.size := by rw [← hW2]; simp
              have R8 := Lib.hid (own_keep R7.out hB12)
              have HRf : Hid (Rd W2 W2.heap.size 4 (some ⟨w1.heap.size + 1, 0, none⟩) 1 (decT { t with pos := pos })) := by
                have h0 := rd_fresh (w1.alloc (.cells #[i64 (t.kind : Nat), .string t.text, i64 (t.n : Nat), i64 (pos : Nat)] 41)) 41 #[i64 (t.kind : Nat), .string t.text, i64 (t.n : Nat), i64 (pos : Nat)] 4 1 (decT { t with pos := pos }) rfl rfl
                rw [hW2, World.size_alloc] at h0
                exact Lib.hid (h0.more (by omega))
              have hKW2 : KeepsFrom WL.heap.size W W2 := by
                rw [← hW2]; exact (HKW.out.trans ((KeepsOthers.alloc _ _).from _)).trans ((KeepsOthers.alloc _ _).from _)
              have HKW2 := Lib.hid hKW2
              have HB2 := Lib.hid (below_trans' HB1.out hB12)
              have HBW2 := Lib.hid (below_trans' HBb.out hB12)
              have hle : acc.length ≤ 2000 := h2
              clear hKW2 hB12
              gi_wp2_with (first
                | (gi_at_builtin; (try rw [hW2]); refine wpListIn_append_rd _ rfl (.tmp 47) (.tmp 49) _ rfl w.heap.size 41 i0 _ 4 40 Tryd.underlying30 hi hz0 hz1 hz2 rfl (by omega) _ acc.length _ rfl R8.out _ (some ⟨w1.heap.size + 1, 0, none⟩) 1 1 _ rfl HRf.out (one_decT _) (by simp only [maxLen]; omega) (by omega) HB2.out.size ?_
                   intro Aa ca w3 hown1 hfm hg1
                   have C6 := (B6.out.up' (below_trans' (Below.refl _ w1) (by rw [← hW2]; exact ((Below.refl _ w1).alloc (Nat.le_refl _) _).alloc (by simp) _) : Below w1.heap.size w1 W2)).grown hg1 (fun e => own_not R8.out (B6.out.up' (by rw [← hW2]; exact ((Below.refl _ w1).alloc (Nat.le_refl _) _).alloc (by simp) _ : Below w1.heap.size w1 W2)) (by decide) e.symm)
                   have o3 : w3.cell? ⟨w.heap.size + 3, 0, none⟩ = some (.slice A acc.length c) := C6.cell 0
                   have q3 : w3.frozen? ⟨w.heap.size + 3, 0, none⟩ = false := C6.frozen 0
                   have HO := Lib.hid hown1
                   have HG : Hid (W2.grownBy w3 (Value.slice A acc.length c).ownBlock) := Lib.hid hg1
                   have HC6 := Lib.hid C6
                   clear hown1 hfm hg1 C6))
              have hlen : (acc ++ [{ t with pos := pos }]).length = acc.length + 1 := by simp
              have hfl : (acc ++ [{ t with pos := pos }]).flatMap decT = acc.flatMap decT ++ decT { t with pos := pos } := by simp
              have hb12 : Below w1.heap.size w1 W2 := by rw [← hW2]; exact ((Below.refl _ w1).alloc (Nat.le_refl _) _).alloc (by simp) _
              have hbW2 := below_trans' HBb.out hb12
              have G3 := (H3.out.up' hbW2).grown HG.out (fun e => own_not R8.out (H3.out.up' hbW2) (by decide) e.symm)
              have G4 := (H4.out.up' hbW2).grown HG.out (fun e => own_not R8.out (H4.out.up' hbW2) (by decide) e.symm)
              have G5 := (H5.out.up' hbW2).grown HG.out (fun e => own_not R8.out (H5.out.up' hbW2) (by decide) e.symm)
              have G8 := (H8.out.up' hbW2).grown HG.out (fun e => own_not R8.out (H8.out.up' hbW2) (by decide) e.symm)
              have hKO : KeepsOthers W2 w3 := own_keeps R8.out HG.out
              have hbF : Below w.heap.size W w3 := own_below R8.out HG.out (hbW2.mono (by omega)) (Nat.le_refl _) HB2.out.size
              have hbT : Below w.heap.size w w3 := HB.out.trans hbF
              have M8 := G8.far (p := ⟨w.heap.size + 3, 0, none⟩) (by simp) (.slice Aa (acc.length + 1) ca)
              refine ⟨(HKW2.out.trans (hKO.from _)).trans (keepsFrom_set _ _ _), ⟨hbF.setCell (p := ⟨w.heap.size + 3, 0, none⟩) (by simp) _, ?_⟩, ⟨acc ++ [{ t with pos := pos }], Aa, ca, HL.out, ?_, ?_, ?_, ?_, ?_, ?_, ?_, ?_⟩, hbT.setCell (p := ⟨w.heap.size + 3, 0, none⟩) (by simp) _⟩
              · have h1 : (w3.setCell ⟨w.heap.size + 3, 0, none⟩ (.slice Aa (acc.length + 1) ca)).heap[w.heap.size + 4]? = some (.cells #[.string s] 9 (0, 0)) := M8
                have h2 : W.heap[w.heap.size + 4]? = some (.cells #[.string s] 9 (0, 0)) := H8.out
                exact h1.trans h2.symm
              · rw [hlen]; omega
              · exact G3.far (p := ⟨w.heap.size + 3, 0, none⟩) (by simp) _
              · exact G4.far (p := ⟨w.heap.size + 3, 0, none⟩) (by simp) _
              · exact G5.far (p := ⟨w.heap.size + 3, 0, none⟩) (by simp) _
              · rw [hlen]; exact HC6.out.set_ 0 _
              · rw [hlen, hfl]; exact own_far HO.out HC6.out (by decide) 0 _
              · exact M8
              · have h1 := hbF.size
                simp only [World.setCell]
                simpa using Nat.le_trans h9 h1
    case done =>
      rintro D ys W hD hys ⟨⟨acc, A, c, h1, h2, h3, h4, h5, h6, h7, h8, h9⟩, hB⟩ hK
      rw [hys] at h1
      have HL1 := Lib.hid h1
      have o3 : W.cell? ⟨w.heap.size + 3, 0, none⟩ = some (.slice A acc.length c) := h6.cell 0
      have q0 := h3.frozen 0
      have q1 := h4.frozen 0
      have q2 : W.frozen? ⟨w.heap.size + 1 + 1, 0, none⟩ = false := h5.frozen 0
      have p0 : W.cell? ⟨w.heap.size, 0, none⟩ = some (.slice none 0 0) := h3.cell 0
      have p1 : W.cell? ⟨w.heap.size + 1, 0, none⟩ = some (i64 0) := h4.cell 0
      have p2 : W.cell? ⟨w.heap.size + 1 + 1, 0, none⟩ = some (i64 0) := h5.cell 0
      have H3 := Lib.hid h3
      have H4 := Lib.hid h4
      have H5 := Lib.hid h5
      have H7 := Lib.hid h7
      clear h1 h3 h4 h5 h6 h7 h8 hys
      gi_wp2_with fail
      have M0 := ((H3.out.set_ 0 (.slice A acc.length c)).far (p := ⟨w.heap.size + 1, 0, none⟩) (by simp) (.int .i64 0)).far (p := ⟨w.heap.size + 2, 0, none⟩) (by simp) (.int .i64 0)
      have M1 := ((H4.out.far (p := ⟨w.heap.size, 0, none⟩) (by simp) (.slice A acc.length c)).set_ 0 (.int .i64 0)).far (p := ⟨w.heap.size + 2, 0, none⟩) (by simp) (.int .i64 0)
      have M2 := ((H5.out.far (p := ⟨w.heap.size, 0, none⟩) (by simp) (.slice A acc.length c)).far (p := ⟨w.heap.size + 1, 0, none⟩) (by simp) (.int .i64 0)).set_ 0 (.int .i64 0)
      have hB3 := ((hB.setCell (p := ⟨w.heap.size, 0, none⟩) (Nat.le_refl _) (.slice A acc.length c)).setCell (p := ⟨w.heap.size + 1, 0, none⟩) (by simp) (.int .i64 0)).setCell (p := ⟨w.heap.size + 2, 0, none⟩) (by simp) (.int .i64 0)
      have K3 := (((KeepsOthers.setCell W ⟨w.heap.size, 0, none⟩ (.slice A acc.length c)).trans (KeepsOthers.setCell _ ⟨w.heap.size + 1, 0, none⟩ (.int .i64 0))).trans (KeepsOthers.setCell _ ⟨w.heap.size + 2, 0, none⟩ (.int .i64 0))).same D _ hK rfl
      have R1 := own_far H7.out H3.out (by decide) 0 (.slice A acc.length c)
      have R2 := own_far R1 (H4.out.far (p := ⟨w.heap.size, 0, none⟩) (by simp) (.slice A acc.length c)) (by decide) 0 (.int .i64 0)
      have R3 := own_far R2 ((H5.out.far (p := ⟨w.heap.size, 0, none⟩) (by simp) (.slice A acc.length c)).far (p := ⟨w.heap.size + 1, 0, none⟩) (by simp) (.int .i64 0)) (by decide) 0 (.int .i64 0)
      obtain ⟨wf, hwf⟩ : ∃ wf, ((W.setCell ⟨w.heap.size, 0, none⟩ (.slice A acc.length c)).setCell ⟨w.heap.size + 1, 0, none⟩ (.int .i64 0)).setCell ⟨w.heap.size + 1 + 1, 0, none⟩ (.int .i64 0) = wf := ⟨_, rfl⟩
      rw [hwf]
      replace M0 : Blk wf w.heap.size 30 #[.slice A acc.length c] := by rw [← hwf]; exact M0
      replace M1 : Blk wf (w.heap.size + 1) 25 #[.int .i64 0] := by rw [← hwf]; exact M1
      replace M2 : Blk wf (w.heap.size + 2) 3 #[.int .i64 0] := by rw [← hwf]; exact M2
      replace hB3 : Below w.heap.size w wf := by rw [← hwf]; exact hB3
      replace R3 : wf.ownsRow w.heap.size 41 4 (.slice A acc.length c) acc.length (acc.flatMap decT) := by rw [← hwf]; exact R3
      replace K3 : wf.heap[D]? = some (.deferred (some [])) := by rw [← hwf]; exact K3
      refine ⟨by simp, .inl ⟨_, _, rfl, run_takeDeferred K3, ?_⟩⟩
      have m0 : (wf.putObj D (.deferred none)).cell? ⟨w.heap.size, 0, none⟩ = some (.slice A acc.length c) := cell_kept (M0.cell 0) (grownBy_putObj' _ D (.deferred none)) (fun r e => by cases e; exact ⟨_, K3, rfl⟩)
      have m1 : (wf.putObj D (.deferred none)).cell? ⟨w.heap.size + 1, 0, none⟩ = some (.int .i64 0) := cell_kept (M1.cell 0) (grownBy_putObj' _ D (.deferred none)) (fun r e => by cases e; exact ⟨_, K3, rfl⟩)
      have m2 : (wf.putObj D (.deferred none)).cell? ⟨w.heap.size + 1 + 1, 0, none⟩ = some (.int .i64 0) := cell_kept (M2.cell 0) (grownBy_putObj' _ D (.deferred none)) (fun r e => by cases e; exact ⟨_, K3, rfl⟩)
      refine ⟨.tuple #[.slice A acc.length c, i64 0, i64 0], ?_, A, acc.length, c, by rw [HL1.out]; rfl, by rw [HL1.out]; exact own_toks (own_put R3 K3 _), hB3.trans (belowK_b (w := WL) (by omega) _ D _ _ hD K3 rfl rfl)⟩
      simp [results, Tryd.f22, go_sem, m0, m1, m2]
    case stop =>
      rintro D co pre W hD hpre ⟨⟨rfl, e, h1, h2, h3, h4⟩, hB⟩ K3
      obtain ⟨rest, hrest⟩ := hpre
      have HL1 : Hid (lexE [] (spans s.data.toList 0) = .error e) := Lib.hid (by rw [← hrest, lexE_append, h1])
      clear hrest h1
      gi_wp2_with fail
      refine ⟨by simp, .inl ⟨_, _, rfl, run_takeDeferred K3, ?_⟩⟩
      have m0 : (W.putObj D (.deferred none)).cell? ⟨w.heap.size, 0, none⟩ = some (.slice none 0 0) := cell_kept (h2.cell 0) (grownBy_putObj' _ D (.deferred none)) (fun r e => by cases e; exact ⟨_, K3, rfl⟩)
      have m1 : (W.putObj D (.deferred none)).cell? ⟨w.heap.size + 1, 0, none⟩ = some (i64 (e.1 : Nat)) := cell_kept (h3.cell 0) (grownBy_putObj' _ D (.deferred none)) (fun r e => by cases e; exact ⟨_, K3, rfl⟩)
      have m2 : (W.putObj D (.deferred none)).cell? ⟨w.heap.size + 1 + 1, 0, none⟩ = some (i64 (e.2 : Nat)) := cell_kept (h4.cell 0) (grownBy_putObj' _ D (.deferred none)) (fun r e => by cases e; exact ⟨_, K3, rfl⟩)
      refine ⟨.tuple #[.slice none 0 0, i64 (e.1 : Nat), i64 (e.2 : Nat)], ?_, none, 0, 0, by rw [HL1.out]; rfl, by rw [HL1.out]; exact Toks.nil_ _, hB.trans (belowK_b (w := WL) (by omega) _ D _ _ hD K3 rfl rfl)⟩
      simp [results, Tryd.f22, go_sem, m0, m1, m2]
theorem lex_val (s : ByteArray) (hs : s.size ≤ maxLen) (w : World) (hw : Vars w) :
    Calls Tryd.prog 22 #[.string s] w (LexPost w (LEX s.data.toList)) := callsIn_wide.1 (lex_in s hs w hw)
end Go.Proofs.YtmdogklgbifacaaDoor.Lx
