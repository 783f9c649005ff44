/- The reader in memory: next, need. The reader's word, name; what a part of a form does. The reader's word and name walked. A region that draws its order, by an invariant that is kept by each of its operations in whatever order they come; and two appends in a row to a literal, as such an invariant. A region that draws its order, of which one operation always panics: whatever else has come before it, the region leaves by that panic. A region that draws its order: quiet operations, whose values are known, beside a chain of operations that turn the world one after the other (calls that may panic, appends, stores). The reader's numbers. The reader's pairs; what a form's parts do one behind the other. The reader's drift. The closures of commands and of events walked. Printed by wip/mk_psforms.py. -/
import Derived.Test.YtbgekgakamincaaDoorPsA
import Derived.Test.YtbgekgakamincaaDoorPrA
import Derived.Laws.EntriesVeiled
import Derived.Deep.RegionHeld3
import Derived.WalkSmall
import Derived.RegionTactic
import Derived.StillTail
import Derived.Great.BuildSlice
import Derived.Laws.Rows
import Derived.Test.YtbgekgakamincaaDoorBas

/- The reader in memory: next, need. -/
namespace Go.Proofs.YtbgekgakamincaaDoor.Ps
open Go.RowKit Go.Proofs.YtbgekgakamincaaDoor.Lx Go.Proofs.YtbgekgakamincaaDoor.Pr
set_option linter.unusedVariables false

def tokA (t : Tok) : Array Value := #[.int .i64 (t.kind : Nat), .string t.text, .int .i64 (t.n : Nat), .int .i64 (t.pos : Nat)]
/-- The next token; the end's. -/
def nextT (ts : List Tok) (e : Nat) : Tok := match ts with | t :: _ => t | [] => ⟨0, ⟨#[]⟩, 0, e⟩
/-- The reader, its tokens, the command that it builds. -/
structure RS (wP : World) (rb e : Nat) (A : Option Addr) (n c : Nat) (ts : List Tok) (K : Int) (nm : ByteArray) (NV : Value) (ns : List Int) (at_ : Int) (W : World) : Prop where
  bel : Below wP.heap.size wP W
  toks : Toks wP A n c ts
  blk : Blk W rb 52 #[.slice A n c, .int .i64 (e : Nat), .int .i64 K, .string nm, NV, .int .i64 at_]
  own : W.ownsRow wP.heap.size 3 1 NV ns.length (ns.map iv)
  ge : wP.heap.size ≤ rb
theorem RS.up {wP : World} {rb e : Nat} {A : Option Addr} {n c : Nat} {ts : List Tok} {K : Int} {nm : ByteArray} {NV : Value} {ns : List Int} {at_ : Int} {W W' : World} (h : RS wP rb e A n c ts K nm NV ns at_ W) (hb : Below W.heap.size W W') : RS wP rb e A n c ts K nm NV ns at_ W' :=
  ⟨h.bel.trans (hb.mono h.bel.size), h.toks, h.blk.up' hb, own_keep h.own hb, h.ge⟩
set_option maxRecDepth 100000 in
set_option maxHeartbeats 1000000 in
theorem next_val {wP : World} {rb e : Nat} {A : Option Addr} {n c : Nat} {ts : List Tok} {K : Int} {nm : ByteArray} {NV : Value} {ns : List Int} {at_ : Int} {W : World} (h : RS wP rb e A n c ts K nm NV ns at_ W) :
    Calls Tryd.prog 28 #[.pointer (some ⟨rb, 0, none⟩)] W fun e' w' => e' = .returned (.agg (tokA (nextT ts e))) ∧ w' = W.alloc (.cells (tokA (nextT ts e)) 45) := by
  have HS := Lib.hid h
  have c0 : W.cell? ⟨rb, 0, none⟩ = some (.slice A n c) := h.blk.cell 0
  have c1 : W.cell? ⟨rb, 1, none⟩ = some (.int .i64 (e : Nat)) := h.blk.cell 1
  have hl0 := Lx.cell_lt c0
  have d0 : (W.alloc (.cells #[.int .i64 0, .string ⟨#[]⟩, .int .i64 0, .int .i64 0] 45)).cell? ⟨rb, 0, none⟩ = some (.slice A n c) := by rw [World.cell?_alloc_lt _ _ _ hl0]; exact c0
  have d1 : (W.alloc (.cells #[.int .i64 0, .string ⟨#[]⟩, .int .i64 0, .int .i64 0] 45)).cell? ⟨rb, 1, none⟩ = some (.int .i64 (e : Nat)) := by rw [World.cell?_alloc_lt W _ ⟨rb, 1, none⟩ hl0]; exact c1
  have hT := h.toks.up h.bel
  have hn : ts.length = n := hT.2.1
  cases ts with
  | nil =>
    have h0 : n = 0 := hn.symm
    subst h0
    clear h hT hn hl0 c0 c1
    go_enter Tryd.func28, Tryd.ntmps28
    go_wp2_with fail
    refine bodyPost_ret (v := .agg (tokA (nextT [] e))) ?_ rfl ⟨rfl, rfl⟩
    simp [results, Tryd.f28, go_sem, tokA, nextT]
  | cons t r =>
    have h0 : ((n : Int) == 0) = false := by rw [beq_eq_false_iff_ne, ← hn]; simp only [List.length_cons]; omega
    have h1 : (0 : Int) < (n : Int) := by rw [← hn]; simp only [List.length_cons]; omega
    obtain ⟨b, off, rfl, hb, hc⟩ := rd_el (dec := decT) (s := 4) (fun _ => rfl) hT.1 hT.2.1 (i := 0) (by simp)
    have e0 := hc 0 _ rfl
    have e1 := hc 1 _ rfl
    have e2 := hc 2 _ rfl
    have e3 := hc 3 _ rfl
    simp only [Nat.zero_mul, Nat.add_zero, List.getElem_cons_zero] at e0 e1 e2 e3
    have f0 := (World.cell?_alloc_lt W (.cells #[.int .i64 0, .string ⟨#[]⟩, .int .i64 0, .int .i64 0] 45) ⟨b, off, none⟩ hb).trans e0
    have f1 := (World.cell?_alloc_lt W (.cells #[.int .i64 0, .string ⟨#[]⟩, .int .i64 0, .int .i64 0] 45) ⟨b, off + 1, none⟩ hb).trans e1
    have f2 := (World.cell?_alloc_lt W (.cells #[.int .i64 0, .string ⟨#[]⟩, .int .i64 0, .int .i64 0] 45) ⟨b, off + 2, none⟩ hb).trans e2
    have f3 := (World.cell?_alloc_lt W (.cells #[.int .i64 0, .string ⟨#[]⟩, .int .i64 0, .int .i64 0] 45) ⟨b, off + 3, none⟩ hb).trans e3
    clear h hT hl0 c0 c1 hc e0 e1 e2 e3 hb hn
    go_enter Tryd.func28, Tryd.ntmps28
    go_wp2_with fail
    refine bodyPost_ret (v := .agg (tokA (nextT (t :: r) e))) ?_ rfl ⟨rfl, rfl⟩
    simp [results, Tryd.f28, go_sem, tokA, nextT]

/-- Of what lay, all but the block rb and the row r2 lies as it lay. -/
structure Gr (rb : Nat) (r2 : Option Nat) (W W' : World) : Prop where
  os : W'.os = W.os
  tape : W'.tape = W.tape
  output : W'.output = W.output
  size : W.heap.size ≤ W'.heap.size
  block : ∀ k, k < W.heap.size → k ≠ rb → some k ≠ r2 → W'.heap[k]? = W.heap[k]?
theorem Gr.of_below {rb : Nat} {r2 : Option Nat} {W W' : World} (h : Below W.heap.size W W') : Gr rb r2 W W' := ⟨h.os, h.tape, h.output, h.size, fun k hk _ _ => h.block k hk⟩
theorem Gr.more {rb : Nat} {r2 : Option Nat} {W W' : World} (h : Gr rb none W W') : Gr rb r2 W W' := ⟨h.os, h.tape, h.output, h.size, fun k hk hr _ => h.block k hk hr (by simp)⟩
theorem Gr.trans {rb : Nat} {r2 r3 : Option Nat} {W W1 W2 : World} (h : Gr rb r2 W W1) (g : Gr rb r3 W1 W2) (h3 : r3 = none ∨ r3 = r2 ∨ ∃ k, r3 = some k ∧ W.heap.size ≤ k) : Gr rb r2 W W2 :=
  ⟨g.os.trans h.os, g.tape.trans h.tape, g.output.trans h.output, Nat.le_trans h.size g.size, fun k hk hr hr2 => by
    rw [g.block k (Nat.lt_of_lt_of_le hk h.size) hr ?_, h.block k hk hr hr2]
    rcases h3 with rfl | rfl | ⟨j, rfl, hj⟩
    · simp
    · exact hr2
    · intro e; injection e with e; omega⟩
theorem Gr.alloc {rb : Nat} {r2 : Option Nat} {W W1 : World} (h : Gr rb r2 W W1) (o : Obj) : Gr rb r2 W (W1.alloc o) :=
  h.trans (Gr.of_below (r2 := none) ((Below.refl _ W1).alloc (Nat.le_refl _) o)) (.inl rfl)
theorem Gr.setCell {rb : Nat} {r2 : Option Nat} {W W1 : World} (h : Gr rb r2 W W1) {p : Addr} (hp : p.block = rb ∨ W.heap.size ≤ p.block) (u : Value) : Gr rb r2 W (W1.setCell p u) :=
  ⟨h.os, h.tape, h.output, by rw [World.size_setCell]; exact h.size, fun k hk hr hr2 => by
    rw [Below.heap_setCell W1 p u k (by rcases hp with e | e <;> omega)]
    exact h.block k hk hr hr2⟩
theorem Gr.refl (rb : Nat) (r2 : Option Nat) (W : World) : Gr rb r2 W W := Gr.of_below (Below.refl _ W)
theorem Gr.blk {rb : Nat} {r2 : Option Nat} {W W' : World} (h : Gr rb r2 W W') {g : Nat} {t : TypeId} {cs : Array Value} (hb : Blk W g t cs) (hg : g ≠ rb) (hr : some g ≠ r2) : Blk W' g t cs := (h.block g hb.lt hg hr).trans hb
theorem Gr.below {rb B : Nat} {r2 : Option Nat} {W W' : World} (h : Gr rb r2 W W') (hB : B ≤ rb) (h2 : ∀ k, r2 = some k → B ≤ k) (hW : B ≤ W.heap.size) : Below B W W' :=
  ⟨h.os, h.tape, h.output, h.size, fun k hk => h.block k (by omega) (by omega) (fun e => by have := h2 k e.symm; omega)⟩
theorem own_ne {W : World} {rb base n : Nat} {v : Value} {xs : List Value} {cs : Array Value} (h : W.ownsRow base 3 1 v n xs) (hb : Blk W rb 52 cs) : v.ownBlock ≠ some rb := by
  rcases h.2 with ⟨rfl, _⟩ | ⟨g, cap, cur, rfl, _, hg, _⟩
  · simp [Value.ownBlock]
  · intro e
    have e2 : g = rb := by simpa [Value.ownBlock] using e
    subst e2
    have hb' : W.heap[g]? = some (.cells cs 52 (0, 0)) := hb
    rw [hg] at hb'
    injection hb' with hb'
    injection hb' with _ hb'
    exact absurd hb' (by decide)
section
variable {wP W W' : World} {rb e n c n' c' : Nat} {A A' : Option Addr} {ts ts' : List Tok} {K K' : Int} {nm nm' : ByteArray} {NV : Value} {ns : List Int} {at_ at' : Int}
theorem RS.next' (h : RS wP rb e A n c ts K nm NV ns at_ W) (hg : Gr rb none W W') (hb : Blk W' rb 52 #[.slice A' n' c', .int .i64 (e : Nat), .int .i64 K', .string nm', NV, .int .i64 at']) (ht : Toks wP A' n' c' ts') : RS wP rb e A' n' c' ts' K' nm' NV ns at' W' :=
  ⟨h.bel.trans (hg.below h.ge (fun k hk => by cases hk) h.bel.size), ht, hb, by
    have hne := own_ne h.own h.blk
    exact h.own.kept (row := some rb) ⟨hg.os, hg.tape, hg.output, hg.size, fun k hk hr => hg.block k hk (fun q => hr (by rw [q])) (by simp)⟩ (.inr hne), h.ge⟩
theorem RS.list (h : RS wP rb e A n c ts K nm NV ns at_ W) (ht : Toks wP A' n' c' ts') : RS wP rb e A' n' c' ts' K nm NV ns at_ (W.setCell ⟨rb, 0, none⟩ (.slice A' n' c')) :=
  h.next' ((Gr.refl rb none W).setCell (.inl rfl) _) (h.blk.set_ 0 _) ht
theorem RS.kindS (h : RS wP rb e A n c ts K nm NV ns at_ W) (k : Int) : RS wP rb e A n c ts k nm NV ns at_ (W.setCell ⟨rb, 2, none⟩ (.int .i64 k)) :=
  h.next' ((Gr.refl rb none W).setCell (.inl rfl) _) (h.blk.set_ 2 _) h.toks
theorem RS.nameS (h : RS wP rb e A n c ts K nm NV ns at_ W) (s : ByteArray) : RS wP rb e A n c ts K s NV ns at_ (W.setCell ⟨rb, 3, none⟩ (.string s)) :=
  h.next' ((Gr.refl rb none W).setCell (.inl rfl) _) (h.blk.set_ 3 _) h.toks
theorem RS.len (h : RS wP rb e A n c ts K nm NV ns at_ W) : ts.length = n := h.toks.2.1
end
/-- The value with which a command is left. -/
def FV (p : Nat) : Value := .iface 75 (.agg #[.int .i64 (p : Nat)])
theorem toks_one (A : Option Addr) (n c : Nat) (h : 1 ≤ n) (w : World) : (Instr.slice 29 (.slice A n c) (some (.int .i64 1)) none none).run Tryd.prog w = .ok (.slice (cutA A c 1) (n - 1) (c - 1)) w := toks_from A n c 1 h w
theorem Toks.tail {w : World} {A : Option Addr} {n c : Nat} {t : Tok} {ts : List Tok} (h : Toks w A n c (t :: ts)) : Toks w (cutA A c 1) (n - 1) (c - 1) ts := by
  have := Toks.drop h (k := 1) (by rw [← h.2.1]; simp)
  exact this
def z41 : Obj := .cells #[.int .i64 0, .string ⟨#[]⟩, .int .i64 0, .int .i64 0] 45
set_option maxRecDepth 100000 in
set_option maxHeartbeats 2000000 in
theorem need_ok {wP : World} {rb e : Nat} {A : Option Addr} {n c : Nat} {t : Tok} {ts : List Tok} {K : Int} {nm : ByteArray} {NV : Value} {ns : List Int} {at_ : Int} {W : World} (h : RS wP rb e A n c (t :: ts) K nm NV ns at_ W) :
    Calls Tryd.prog 33 #[.pointer (some ⟨rb, 0, none⟩), .bool true] W fun e' w' => e' = .returned (.agg (tokA t)) ∧ RS wP rb e (cutA A c 1) (n - 1) (c - 1) ts K nm NV ns at_ w' ∧ Gr rb none W w' := by
  obtain ⟨tk, tx, tn, tp⟩ := t
  have hn := h.len
  have h1 : 1 ≤ n := by rw [← hn]; simp
  have hb0 : Below W.heap.size W (W.alloc z41) := (Below.refl _ W).alloc (Nat.le_refl _) _
  have h0 := h.up hb0
  have HN := Lib.hid (next_val h0)
  have hsl := toks_one A n c h1
  have HT := Lib.hid (Toks.tail h.toks)
  have HS := Lib.hid h
  have hrl : rb < W.heap.size := h.blk.lt
  have BR : Hid (Blk (W.alloc z41) W.heap.size 45 #[.int .i64 0, .string ⟨#[]⟩, .int .i64 0, .int .i64 0]) := Lib.hid (Blk.new W _ _)
  have HG0 : Hid (Gr rb none W (W.alloc z41)) := Lib.hid ((Gr.refl rb none W).alloc _)
  unfold z41 at HN h0 BR HG0
  unfold tokA nextT at HN
  dsimp only at HN
  have H0 := Lib.hid h0
  clear h hb0 h0 hn
  go_enter Tryd.func33, Tryd.ntmps33
  go_wp2_with fail
  refine HN.out.mono ?_
  rintro e1 w1 ⟨rfl, hw1⟩
  have hb1 : Below (W.heap.size + 1) (W.alloc (.cells #[.int .i64 0, .string ⟨#[]⟩, .int .i64 0, .int .i64 0] 45)) w1 := by rw [hw1]; exact ((Below.refl _ _).alloc (by simp) _)
  have hb1' : Below (W.alloc (.cells #[.int .i64 0, .string ⟨#[]⟩, .int .i64 0, .int .i64 0] 45)).heap.size (W.alloc (.cells #[.int .i64 0, .string ⟨#[]⟩, .int .i64 0, .int .i64 0] 45)) w1 := by rw [World.size_alloc]; exact hb1
  have H1 := Lib.hid (H0.out.up hb1')
  have BR1 := Lib.hid (BR.out.up' hb1')
  have HG1 : Hid (Gr rb none W w1) := Lib.hid (HG0.out.trans (Gr.of_below (r2 := none) hb1') (.inl rfl))
  clear hw1 hb1 hb1' HN H0 BR HG0
  have BT := Lib.hid (Blk.new w1 45 #[.int .i64 (tk : Nat), .string tx, .int .i64 (tn : Nat), .int .i64 (tp : Nat)])
  have H2 := Lib.hid (H1.out.up ((Below.refl w1.heap.size w1).alloc (Nat.le_refl _) (.cells #[.int .i64 (tk : Nat), .string tx, .int .i64 (tn : Nat), .int .i64 (tp : Nat)] 45)))
  have BR2 := Lib.hid (BR1.out.alloc (.cells #[.int .i64 (tk : Nat), .string tx, .int .i64 (tn : Nat), .int .i64 (tp : Nat)] 45))
  have HG2 := Lib.hid (HG1.out.alloc (.cells #[.int .i64 (tk : Nat), .string tx, .int .i64 (tn : Nat), .int .i64 (tp : Nat)] 45))
  have hw1s := HG1.out.size
  have r0 : (w1.alloc (.cells #[.int .i64 (tk : Nat), .string tx, .int .i64 (tn : Nat), .int .i64 (tp : Nat)] 45)).cell? ⟨rb, 0, none⟩ = some (.slice A n c) := H2.out.blk.cell 0
  have r1 : (w1.alloc (.cells #[.int .i64 (tk : Nat), .string tx, .int .i64 (tn : Nat), .int .i64 (tp : Nat)] 45)).frozen? ⟨rb, 0, none⟩ = false := H2.out.blk.frozen 0
  clear H1 BR1 HG1
  obtain ⟨W2, hW2⟩ : ∃ W2, w1.alloc (.cells #[.int .i64 (tk : Nat), .string tx, .int .i64 (tn : Nat), .int .i64 (tp : Nat)] 45) = W2 := ⟨_, rfl⟩
  rw [hW2] at BT H2 BR2 HG2 r0 r1
  have H3 := Lib.hid (H2.out.list HT.out)
  have BT3 := Lib.hid (BT.out.far (p := ⟨rb, 0, none⟩) (show w1.heap.size ≠ rb by omega) (.slice (cutA A c 1) (n - 1) (c - 1)))
  have BR3 := Lib.hid (BR2.out.far (p := ⟨rb, 0, none⟩) (show W.heap.size ≠ rb by omega) (.slice (cutA A c 1) (n - 1) (c - 1)))
  have HG3 := Lib.hid (HG2.out.setCell (p := ⟨rb, 0, none⟩) (.inl rfl) (.slice (cutA A c 1) (n - 1) (c - 1)))
  obtain ⟨W3, hW3⟩ : ∃ W3, W2.setCell ⟨rb, 0, none⟩ (.slice (cutA A c 1) (n - 1) (c - 1)) = W3 := ⟨_, rfl⟩
  rw [hW3] at H3 BT3 BR3 HG3
  have q0 : W3.cell? ⟨w1.heap.size, 0, none⟩ = some (.int .i64 (tk : Nat)) := BT3.out.cell 0
  have q1 : W3.cell? ⟨w1.heap.size, 1, none⟩ = some (.string tx) := BT3.out.cell 1
  have q2 : W3.cell? ⟨w1.heap.size, 2, none⟩ = some (.int .i64 (tn : Nat)) := BT3.out.cell 2
  have q3 : W3.cell? ⟨w1.heap.size, 3, none⟩ = some (.int .i64 (tp : Nat)) := BT3.out.cell 3
  have p0 : W3.cell? ⟨W.heap.size, 0, none⟩ = some (.int .i64 0) := BR3.out.cell 0
  have p1 : W3.cell? ⟨W.heap.size, 1, none⟩ = some (.string ⟨#[]⟩) := BR3.out.cell 1
  have p2 : W3.cell? ⟨W.heap.size, 2, none⟩ = some (.int .i64 0) := BR3.out.cell 2
  have p3 : W3.cell? ⟨W.heap.size, 3, none⟩ = some (.int .i64 0) := BR3.out.cell 3
  have z0 := BR3.out.frozen 0
  have z1 := BR3.out.frozen 1
  have z2 := BR3.out.frozen 2
  have z3 := BR3.out.frozen 3
  clear H2 BR2 HG2 BT
  go_wp2_with fail
  have hG := (((HG3.out.setCell (p := ⟨W.heap.size, 0, none⟩) (.inr (Nat.le_refl _)) (.int .i64 (tk : Nat))).setCell (p := ⟨W.heap.size, 1, none⟩) (.inr (Nat.le_refl _)) (.string tx)).setCell (p := ⟨W.heap.size, 2, none⟩) (.inr (Nat.le_refl _)) (.int .i64 (tn : Nat))).setCell (p := ⟨W.heap.size, 3, none⟩) (.inr (Nat.le_refl _)) (.int .i64 (tp : Nat))
  have hB := (((H3.out.blk.far (p := ⟨W.heap.size, 0, none⟩) (show rb ≠ W.heap.size by omega) (.int .i64 (tk : Nat))).far (p := ⟨W.heap.size, 1, none⟩) (show rb ≠ W.heap.size by omega) (.string tx)).far (p := ⟨W.heap.size, 2, none⟩) (show rb ≠ W.heap.size by omega) (.int .i64 (tn : Nat))).far (p := ⟨W.heap.size, 3, none⟩) (show rb ≠ W.heap.size by omega) (.int .i64 (tp : Nat))
  have g0 := (((BR3.out.set_ 0 (.int .i64 (tk : Nat))).set_ 1 (.string tx)).set_ 2 (.int .i64 (tn : Nat))).set_ 3 (.int .i64 (tp : Nat))
  obtain ⟨W4, hW4⟩ : ∃ W4, (((W3.setCell ⟨W.heap.size, 0, none⟩ (.int .i64 (tk : Nat))).setCell ⟨W.heap.size, 1, none⟩ (.string tx)).setCell ⟨W.heap.size, 2, none⟩ (.int .i64 (tn : Nat))).setCell ⟨W.heap.size, 3, none⟩ (.int .i64 (tp : Nat)) = W4 := ⟨_, rfl⟩
  rw [hW4] at hG hB g0 ⊢
  have m0 : W4.cell? ⟨W.heap.size, 0, none⟩ = some (.int .i64 (tk : Nat)) := g0.cell 0
  have m1 : W4.cell? ⟨W.heap.size, 1, none⟩ = some (.string tx) := g0.cell 1
  have m2 : W4.cell? ⟨W.heap.size, 2, none⟩ = some (.int .i64 (tn : Nat)) := g0.cell 2
  have m3 : W4.cell? ⟨W.heap.size, 3, none⟩ = some (.int .i64 (tp : Nat)) := g0.cell 3
  refine bodyPost_ret (v := .agg (tokA ⟨tk, tx, tn, tp⟩)) ?_ rfl ⟨rfl, HS.out.next' hG hB HT.out, hG⟩
  simp [results, Tryd.f33, go_sem, tokA, m0, m1, m2, m3]

/-- need, where the condition does not hold. -/
theorem need_no {wP : World} {rb e : Nat} {A : Option Addr} {n c : Nat} {ts : List Tok} {K : Int} {nm : ByteArray} {NV : Value} {ns : List Int} {at_ : Int} {W : World} (h : RS wP rb e A n c ts K nm NV ns at_ W) :
    Calls Tryd.prog 33 #[.pointer (some ⟨rb, 0, none⟩), .bool false] W fun e' w' => e' = .panicked [{ v := FV (nextT ts e).pos, recovered := false }] ∧ Below W.heap.size W w' := by
  have hb0 : Below W.heap.size W (W.alloc z41) := (Below.refl _ W).alloc (Nat.le_refl _) _
  have h0 := h.up hb0
  have HN := Lib.hid (next_val h0)
  have HB0 := Lib.hid hb0
  obtain ⟨t, ht⟩ : ∃ t, nextT ts e = t := ⟨_, rfl⟩
  rw [ht] at HN ⊢
  obtain ⟨tk, tx, tn, tp⟩ := t
  unfold z41 at HN HB0
  unfold tokA at HN
  dsimp only at HN
  clear h hb0 h0 ht
  go_enter Tryd.func33, Tryd.ntmps33
  go_wp2_with fail
  refine HN.out.mono ?_
  rintro e1 w1 ⟨rfl, hw1⟩
  have hb1 : Below W.heap.size (W.alloc (.cells #[.int .i64 0, .string ⟨#[]⟩, .int .i64 0, .int .i64 0] 45)) w1 := by rw [hw1]; exact ((Below.refl _ _).alloc (by simp) _)
  have HB1 := Lib.hid (HB0.out.trans hb1)
  have BT := Lib.hid (Blk.new w1 45 #[.int .i64 (tk : Nat), .string tx, .int .i64 (tn : Nat), .int .i64 (tp : Nat)])
  have HB2 := Lib.hid (HB1.out.alloc HB1.out.size (.cells #[.int .i64 (tk : Nat), .string tx, .int .i64 (tn : Nat), .int .i64 (tp : Nat)] 45))
  clear hw1 hb1
  go_wp2_with fail
  exact ⟨rfl, rfl, HB2.out⟩
end Go.Proofs.YtbgekgakamincaaDoor.Ps

/- The reader's word, name; what a part of a form does. -/
namespace Go.Proofs.YtbgekgakamincaaDoor.Ps
open Go.RowKit Go.Proofs.YtbgekgakamincaaDoor.Lx Go.Proofs.YtbgekgakamincaaDoor.Pr
set_option linter.unusedVariables false

/-- A token as the lexer makes it. -/
structure WfT (t : Tok) : Prop where
  w2 : t.kind = 2 → t.text.data.toList = []
  w3 : t.kind = 3 → t.text.data.toList = [59]
  w1 : t.kind ≠ 2 → t.kind ≠ 3 → t.kind = 1 ∧ t.text.data.toList ≠ [59] ∧ t.text.data.toList ≠ []
  n : t.n ≤ 1000000000
  size : t.text.size ≤ 8000
def Wf (ts : List Tok) : Prop := ∀ t ∈ ts, WfT t
theorem Wf.drop {ts : List Tok} (h : Wf ts) (k : Nat) : Wf (ts.drop k) := fun t ht => h t (List.mem_of_mem_drop ht)
theorem Wf.tail {t : Tok} {ts : List Tok} (h : Wf (t :: ts)) : Wf ts := fun u hu => h u (List.mem_cons_of_mem _ hu)
def pvE (p : Nat) : Ending := .panicked [{ v := FV p, recovered := false }]
/-- What reading the parts of a form does. -/
def Post (wP : World) (rb e : Nat) (ps : List (List UInt8)) (ts : List Tok) (K : Int) (nm : ByteArray) (NV : Value) (ns : List Int) (at_ : Int) (W : World) (e' : Ending) (W' : World) : Prop :=
  ∃ A' n' c' nm' NV' ns', RS wP rb e A' n' c' (ts.drop (matchB ts ps)) K nm' NV' ns' at_ W' ∧ Gr rb NV.ownBlock W W' ∧ (NV'.ownBlock = NV.ownBlock ∨ ∃ k, NV'.ownBlock = some k ∧ W.heap.size ≤ k) ∧
    ((matchB ts ps = ps.length ∧ e' = .returned (.tuple #[]) ∧ nm' = nmB nm ts ps ∧ ns' = ns ++ nsB false ts ps) ∨ (matchB ts ps < ps.length ∧ e' = pvE (nextT (ts.drop (matchB ts ps)) e).pos))
theorem match_append : ∀ (p1 p2 : List (List UInt8)) (ts : List Tok), matchB ts (p1 ++ p2) = if matchB ts p1 = p1.length then p1.length + matchB (ts.drop p1.length) p2 else matchB ts p1
  | [], p2, ts => by cases ts <;> simp [matchB]
  | p :: p1, p2, [] => by simp [matchB]
  | p :: p1, p2, t :: ts => by
    simp only [List.cons_append, matchB, List.length_cons, List.drop_succ_cons]
    by_cases hf : fitsB t p = true
    · rw [if_pos hf, if_pos hf, match_append p1 p2 ts]
      by_cases hm : matchB ts p1 = p1.length
      · rw [if_pos hm, if_pos (by omega)]; omega
      · rw [if_neg hm, if_neg (by omega)]
    · rw [if_neg hf, if_neg hf, if_neg (by omega)]
theorem ns_append : ∀ (p1 p2 : List (List UInt8)) (ts : List Tok) (neg : Bool), matchB ts p1 = p1.length → p1.getLast? ≠ some [100] → (neg = false ∨ p1 ≠ []) → nsB neg ts (p1 ++ p2) = nsB neg ts p1 ++ nsB false (ts.drop p1.length) p2
  | [], p2, ts, neg, _, _, h => by
    have hn : neg = false := h.elim id (fun h => absurd rfl h)
    subst hn
    cases ts <;> simp [nsB]
  | p :: p1, p2, [], neg, hm, _, _ => by simp [matchB] at hm
  | p :: p1, p2, t :: ts, neg, hm, hl, _ => by
    simp only [matchB, List.length_cons] at hm
    have hf : fitsB t p = true := by
      by_cases hf : fitsB t p = true
      · exact hf
      · rw [if_neg hf] at hm; omega
    rw [if_pos hf] at hm
    have hm2 : matchB ts p1 = p1.length := by omega
    simp only [List.cons_append, nsB, List.length_cons, List.drop_succ_cons]
    cases p1 with
    | nil =>
      have hp : p ≠ [100] := fun e => hl (by rw [e]; rfl)
      by_cases h35 : p = [35]
      · rw [if_pos h35, if_pos h35]
        cases ts <;> simp [nsB]
      · rw [if_neg h35, if_neg h35, decide_eq_false hp, Bool.false_and]
        cases ts <;> simp [nsB]
    | cons q r =>
      have hl2 : (q :: r).getLast? ≠ some [100] := fun e => hl (by rw [List.getLast?_cons_cons]; exact e)
      by_cases h35 : p = [35]
      · rw [if_pos h35, if_pos h35, ns_append (q :: r) p2 ts false hm2 hl2 (.inl rfl)]; rfl
      · rw [if_neg h35, if_neg h35, ns_append (q :: r) p2 ts _ hm2 hl2 (.inr (by simp))]
theorem nm_append : ∀ (p1 p2 : List (List UInt8)) (ts : List Tok) (nm : ByteArray), matchB ts p1 = p1.length → nmB nm ts (p1 ++ p2) = nmB (nmB nm ts p1) (ts.drop p1.length) p2
  | [], p2, ts, nm, _ => by cases ts <;> simp [nmB]
  | p :: p1, p2, [], nm, hm => by simp [matchB] at hm
  | p :: p1, p2, t :: ts, nm, hm => by
    simp only [matchB, List.length_cons] at hm
    have hf : fitsB t p = true := by
      by_cases hf : fitsB t p = true
      · exact hf
      · rw [if_neg hf] at hm; omega
    rw [if_pos hf] at hm
    simp only [List.cons_append, nmB, List.length_cons, List.drop_succ_cons]
    exact nm_append p1 p2 ts _ (by omega)
section
variable {wP W W1 W2 : World} {rb e : Nat} {ps p1 p2 : List (List UInt8)} {ts : List Tok} {K : Int} {nm : ByteArray} {NV : Value} {ns : List Int} {at_ : Int} {e1 e2 : Ending}
/-- Where the first parts fail all fails. -/
theorem Post.fail (h : Post wP rb e p1 ts K nm NV ns at_ W e1 W1) (hm : matchB ts p1 < p1.length) : Post wP rb e (p1 ++ p2) ts K nm NV ns at_ W e1 W1 := by
  obtain ⟨A', n', c', nm', NV', ns', h1, h2, h3, h4⟩ := h
  have hma : matchB ts (p1 ++ p2) = matchB ts p1 := by rw [match_append, if_neg (by omega)]
  refine ⟨A', n', c', nm', NV', ns', by rw [hma]; exact h1, h2, h3, .inr ⟨by rw [hma, List.length_append]; omega, ?_⟩⟩
  rw [hma]
  rcases h4 with ⟨h, _⟩ | ⟨_, h⟩
  · omega
  · exact h
/-- The first parts being read, others. -/
theorem Post.trans (h : Post wP rb e p1 ts K nm NV ns at_ W e1 W1) (hm : matchB ts p1 = p1.length) (hl : p1.getLast? ≠ some [100])
    (k : ∀ A' n' c' nm' NV' ns', RS wP rb e A' n' c' (ts.drop p1.length) K nm' NV' ns' at_ W1 → Post wP rb e p2 (ts.drop p1.length) K nm' NV' ns' at_ W1 e2 W2) : Post wP rb e (p1 ++ p2) ts K nm NV ns at_ W e2 W2 := by
  obtain ⟨A', n', c', nm', NV', ns', h1, h2, h3, h4⟩ := h
  rw [hm] at h1
  obtain ⟨_, _, h5, h6⟩ : matchB ts p1 = p1.length ∧ e1 = .returned (.tuple #[]) ∧ nm' = nmB nm ts p1 ∧ ns' = ns ++ nsB false ts p1 := by
    rcases h4 with h | ⟨h, _⟩
    · exact h
    · omega
  obtain ⟨A2, n2, c2, nm2, NV2, ns2, g1, g2, g3, g4⟩ := k A' n' c' nm' NV' ns' h1
  have hma : matchB ts (p1 ++ p2) = p1.length + matchB (ts.drop p1.length) p2 := by rw [match_append, if_pos hm]
  have hd : ts.drop (matchB ts (p1 ++ p2)) = (ts.drop p1.length).drop (matchB (ts.drop p1.length) p2) := by rw [hma, List.drop_drop]
  refine ⟨A2, n2, c2, nm2, NV2, ns2, by rw [hd]; exact g1, h2.trans g2 ?_, ?_, ?_⟩
  · rcases h3 with h | ⟨k, h, hk⟩
    · exact .inr (.inl h)
    · exact .inr (.inr ⟨k, h, hk⟩)
  · rcases g3 with g | ⟨k, g, hk⟩
    · rcases h3 with h | ⟨k, h, hk⟩
      · exact .inl (g.trans h)
      · exact .inr ⟨k, g.trans h, hk⟩
    · exact .inr ⟨k, g, Nat.le_trans h2.size hk⟩
  · rcases g4 with ⟨q1, q2, q3, q4⟩ | ⟨q1, q2⟩
    · refine .inl ⟨by rw [hma, q1, List.length_append], q2, ?_, ?_⟩
      · rw [q3, h5, nm_append p1 p2 ts nm hm]
      · rw [q4, h6, ns_append p1 p2 ts false hm hl (.inl rfl), List.append_assoc]
    · exact .inr ⟨by rw [hma, List.length_append]; omega, by rw [hd]; exact q2⟩
theorem RS.post0 {A : Option Addr} {n c : Nat} (h : RS wP rb e A n c ts K nm NV ns at_ W) : Post wP rb e [] ts K nm NV ns at_ W (.returned (.tuple #[])) W :=
  ⟨A, n, c, nm, NV, ns, by simpa [matchB] using h, Gr.refl _ _ _, .inl rfl, .inl ⟨by cases ts <;> rfl, rfl, by cases ts <;> rfl, by cases ts <;> simp [nsB]⟩⟩
end
end Go.Proofs.YtbgekgakamincaaDoor.Ps

/- The reader's word and name walked. -/
namespace Go.Proofs.YtbgekgakamincaaDoor.Ps
open Go.RowKit Go.Proofs.YtbgekgakamincaaDoor.Lx Go.Proofs.YtbgekgakamincaaDoor.Pr
set_option linter.unusedVariables false

theorem tok_f0 (a b c d : Value) (W : World) : (Instr.field 45 (.agg #[a, b, c, d]) 0).run Tryd.prog W = .ok a W := by kernel_rfl
theorem tok_f1 (a b c d : Value) (W : World) : (Instr.field 45 (.agg #[a, b, c, d]) 1).run Tryd.prog W = .ok b W := by kernel_rfl
theorem tok_f2 (a b c d : Value) (W : World) : (Instr.field 45 (.agg #[a, b, c, d]) 2).run Tryd.prog W = .ok c W := by kernel_rfl
theorem tok_f3 (a b c d : Value) (W : World) : (Instr.field 45 (.agg #[a, b, c, d]) 3).run Tryd.prog W = .ok d W := by kernel_rfl
section
variable {wP W W1 : World} {rb e n c n' c' : Nat} {A A' : Option Addr} {ts : List Tok} {t : Tok} {K : Int} {nm nm' : ByteArray} {NV : Value} {ns : List Int} {at_ : Int} {p : List UInt8}
theorem post_no (h : RS wP rb e A n c ts K nm NV ns at_ W) (hb : Below W.heap.size W W1) (hm : matchB ts [p] = 0) : Post wP rb e [p] ts K nm NV ns at_ W (pvE (nextT ts e).pos) W1 :=
  ⟨A, n, c, nm, NV, ns, by rw [hm]; exact h.up hb, Gr.of_below hb, .inl rfl, .inr ⟨by rw [hm]; exact Nat.zero_lt_succ _, by rw [hm]; rfl⟩⟩
theorem post_one (hf : fitsB t p = true) (hp : p ≠ [35]) (h : RS wP rb e A' n' c' ts K nm' NV ns at_ W1) (hg : Gr rb none W W1) (hnm : nm' = if p = [110] then t.text else nm) : Post wP rb e [p] (t :: ts) K nm NV ns at_ W (.returned (.tuple #[])) W1 := by
  have hm : matchB (t :: ts) [p] = 1 := by simp only [matchB]; rw [if_pos hf]
  refine ⟨A', n', c', nm', NV, ns, by rw [hm]; exact h, hg.more, .inl rfl, .inl ⟨hm, rfl, ?_, ?_⟩⟩
  · rw [hnm]; cases ts <;> rfl
  · simp only [nsB]; rw [if_neg hp]; cases ts <;> simp
theorem match_no (hf : fitsB t p = false) : matchB (t :: ts) [p] = 0 := by simp only [matchB]; rw [if_neg (by rw [hf]; decide)]
end
set_option maxRecDepth 100000 in
set_option maxHeartbeats 1000000 in
theorem word_val {wP W : World} {rb e n c : Nat} {A : Option Addr} {ts : List Tok} {K : Int} {nm : ByteArray} {NV : Value} {ns : List Int} {at_ : Int} (s : List UInt8) (h35 : s ≠ [35]) (h110 : s ≠ [110]) (h100 : s ≠ [100]) (h0 : s ≠ []) (hw : Wf ts)
    (h : RS wP rb e A n c ts K nm NV ns at_ W) :
    Calls Tryd.prog 30 #[.pointer (some ⟨rb, 0, none⟩), .string ⟨s.toArray⟩] W (Post wP rb e [s] ts K nm NV ns at_ W) := by
  have HN := Lib.hid (next_val h)
  obtain ⟨S, hS⟩ : ∃ S : ByteArray, ⟨s.toArray⟩ = S := ⟨_, rfl⟩
  have hSl : S.toList = s := by rw [← hS, Lib.toList_data]
  have hbw : Below W.heap.size W (W.alloc (.cells (tokA (nextT ts e)) 45)) := (Below.refl _ W).alloc (Nat.le_refl _) _
  have HB := Lib.hid hbw
  have H1 := Lib.hid (h.up hbw)
  have HS := Lib.hid h
  rw [hS]
  cases ts with
  | nil =>
    have hv : S.toList.isEmpty = false := by
      rw [hSl]
      cases s with
      | nil => exact absurd rfl h0
      | cons a b => rfl
    have HQ := Lib.hid (need_no H1.out)
    have HF : Hid (∀ W', Below W.heap.size W W' → Post wP rb e [s] [] K nm NV ns at_ W (pvE (nextT [] e).pos) W') := Lib.hid (fun W' hb => post_no HS.out hb rfl)
    unfold tokA nextT at HN HQ HB
    dsimp only at HN HQ HB
    unfold nextT at HF
    dsimp only at HF
    clear h hbw H1 hSl hS
    have hfd := tok_f1 (.int .i64 0) (.string ⟨#[]⟩) (.int .i64 0) (.int .i64 (e : Nat))
    go_enter Tryd.func30, Tryd.ntmps30
    go_wp2_with fail
    refine HN.out.mono ?_
    rintro e1 w1 ⟨rfl, hw1⟩
    rw [← hw1] at HQ HB
    clear hw1
    go_wp2_with fail
    refine HQ.out.mono ?_
    rintro e2 w2 ⟨rfl, hb2⟩
    exact ⟨rfl, HF.out _ (below_trans' HB.out hb2)⟩
  | cons t r =>
    obtain ⟨v, hv0⟩ : ∃ v, (t.text.data.toList == s) = v := ⟨_, rfl⟩
    have hv : (t.text.toList == S.toList) = v := by rw [hSl, Lib.toList_data]; exact hv0
    have hwt := hw t (List.mem_cons_self ..)
    have hft : fitsB t s = v := by
      unfold fitsB
      rw [if_neg h35, if_neg h110, if_neg h100, hv0]
      cases v with
      | false => rw [Bool.and_false]
      | true =>
        rw [Bool.and_true, decide_eq_true_eq]
        intro hk
        rw [hwt.w2 hk, beq_iff_eq] at hv0
        exact h0 hv0.symm
    cases v with
    | false =>
      have HQ := Lib.hid (need_no H1.out)
      have HF : Hid (∀ W', Below W.heap.size W W' → Post wP rb e [s] (t :: r) K nm NV ns at_ W (pvE (nextT (t :: r) e).pos) W') := Lib.hid (fun W' hb => post_no HS.out hb (match_no hft))
      unfold tokA nextT at HN HB
      unfold nextT at HQ HF
      unfold tokA at HQ
      dsimp only at HN HQ HB HF
      obtain ⟨tk, tx, tn, tp⟩ := t
      dsimp only at HN HQ HB HF hv
      clear h hbw H1 hSl hS hft hwt hv0 HS
      have hfd := tok_f1 (.int .i64 (tk : Nat)) (.string tx) (.int .i64 (tn : Nat)) (.int .i64 (tp : Nat))
      go_enter Tryd.func30, Tryd.ntmps30
      go_wp2_with fail
      refine HN.out.mono ?_
      rintro e1 w1 ⟨rfl, hw1⟩
      rw [← hw1] at HQ HB
      clear hw1
      go_wp2_with fail
      refine HQ.out.mono ?_
      rintro e2 w2 ⟨rfl, hb2⟩
      exact ⟨rfl, HF.out _ (below_trans' HB.out hb2)⟩
    | true =>
      have HQ := Lib.hid (need_ok H1.out)
      have HF : Hid (∀ W', RS wP rb e (cutA A c 1) (n - 1) (c - 1) r K nm NV ns at_ W' → Gr rb none W W' → Post wP rb e [s] (t :: r) K nm NV ns at_ W (.returned (.tuple #[])) W') := Lib.hid (fun W' hr hg => post_one hft h35 hr hg (by rw [if_neg h110]))
      unfold tokA nextT at HN HB HQ
      dsimp only at HN HQ HB
      obtain ⟨tk, tx, tn, tp⟩ := t
      dsimp only at HN HQ HB hv
      clear h hbw H1 hSl hS hft hwt hv0 HS
      have hfd := tok_f1 (.int .i64 (tk : Nat)) (.string tx) (.int .i64 (tn : Nat)) (.int .i64 (tp : Nat))
      go_enter Tryd.func30, Tryd.ntmps30
      go_wp2_with fail
      refine HN.out.mono ?_
      rintro e1 w1 ⟨rfl, hw1⟩
      rw [← hw1] at HQ HB
      clear hw1
      go_wp2_with fail
      refine HQ.out.mono ?_
      rintro e2 w2 ⟨rfl, hr2, hg2⟩
      have HP := Lib.hid (HF.out _ hr2 ((Gr.of_below (r2 := none) HB.out).trans hg2 (.inl rfl)))
      clear hr2 hg2
      go_wp2_with fail
      go_end0
      exact HP.out
set_option maxRecDepth 100000 in
set_option maxHeartbeats 1000000 in
theorem name_val {wP W : World} {rb e n c : Nat} {A : Option Addr} {ts : List Tok} {K : Int} {nm : ByteArray} {NV : Value} {ns : List Int} {at_ : Int} (hw : Wf ts)
    (h : RS wP rb e A n c ts K nm NV ns at_ W) :
    Calls Tryd.prog 53 #[.pointer (some ⟨rb, 0, none⟩)] W (Post wP rb e [[110]] ts K nm NV ns at_ W) := by
  have HN := Lib.hid (next_val h)
  have hbw : Below W.heap.size W (W.alloc (.cells (tokA (nextT ts e)) 45)) := (Below.refl _ W).alloc (Nat.le_refl _) _
  have HB := Lib.hid hbw
  have HS := Lib.hid h
  cases ts with
  | nil =>
    have HF : Hid (∀ W', Below W.heap.size W W' → Post wP rb e [[110]] [] K nm NV ns at_ W (pvE (nextT [] e).pos) W') := Lib.hid (fun W' hb => post_no HS.out hb rfl)
    unfold tokA nextT at HN HB
    dsimp only at HN HB
    unfold nextT at HF
    dsimp only at HF
    clear h hbw
    go_enter Tryd.func53, Tryd.ntmps53
    go_wp2_with fail
    refine HN.out.mono ?_
    rintro e1 w1 ⟨rfl, hw1⟩
    have hb1 : Below W.heap.size W w1 := by rw [hw1]; exact HB.out
    have HB1 := Lib.hid hb1
    have BT := Lib.hid (Blk.new w1 45 #[.int .i64 0, .string ⟨#[]⟩, .int .i64 0, .int .i64 (e : Nat)])
    have hb2 : Below w1.heap.size w1 (w1.alloc (.cells #[.int .i64 0, .string ⟨#[]⟩, .int .i64 0, .int .i64 (e : Nat)] 45)) := (Below.refl _ _).alloc (Nat.le_refl _) _
    have HB2 := Lib.hid (below_trans' hb1 hb2)
    obtain ⟨W2, hW2⟩ : ∃ W2, w1.alloc (.cells #[.int .i64 0, .string ⟨#[]⟩, .int .i64 0, .int .i64 (e : Nat)] 45) = W2 := ⟨_, rfl⟩
    rw [hW2] at BT HB2
    have H2 := Lib.hid (HS.out.up HB2.out)
    have k0 : W2.cell? ⟨w1.heap.size, 0, none⟩ = some (.int .i64 0) := BT.out.cell 0
    have k1 : W2.cell? ⟨w1.heap.size, 1, none⟩ = some (.string ⟨#[]⟩) := BT.out.cell 1
    clear hw1 hb1 hb2 HN HB
    have HQ := Lib.hid (need_no H2.out)
    unfold nextT at HQ
    dsimp only at HQ
    go_wp2_with fail
    refine HQ.out.mono ?_
    rintro e2 w2 ⟨rfl, hb2⟩
    exact ⟨rfl, HF.out _ (below_trans' HB2.out hb2)⟩
  | cons t r =>
    have hwt := hw t (List.mem_cons_self ..)
    have hft : fitsB t [110] = (decide (t.kind = 1) && nameB t.text) := by unfold fitsB; rw [if_neg (by decide), if_pos rfl]
    have HI := Lib.hid (isName_val t.text (Nat.le_trans hwt.size (by decide)))
    have HP1 : Hid (fitsB t [110] = false → ∀ W', Below W.heap.size W W' → Post wP rb e [[110]] (t :: r) K nm NV ns at_ W (pvE (nextT (t :: r) e).pos) W') := Lib.hid (fun hf W' hb => post_no HS.out hb (match_no hf))
    have HP2 : Hid (fitsB t [110] = true → ∀ W', RS wP rb e (cutA A c 1) (n - 1) (c - 1) r K t.text NV ns at_ W' → Gr rb none W W' → Post wP rb e [[110]] (t :: r) K nm NV ns at_ W (.returned (.tuple #[])) W') := Lib.hid (fun hf W' hr hg => post_one hf (by decide) hr hg (by rw [if_pos rfl]))
    have HT := Lib.hid (Toks.tail h.toks)
    rw [hft] at HP1 HP2
    obtain ⟨tk, tx, tn, tp⟩ := t
    obtain ⟨nb, hnb⟩ : ∃ v, nameB tx = v := ⟨_, rfl⟩
    unfold tokA nextT at HN HB
    unfold nextT at HP1
    dsimp only at HN HB HP1 HP2 HI
    rw [hnb] at HI HP1 HP2
    clear h hbw hwt hft hnb
    by_cases hk : tk = 1
    · have f1 : ((tk : Int) == 1) = true := by rw [beq_iff_eq]; omega
      rw [decide_eq_true hk, Bool.true_and] at HP1 HP2
      clear hk
      cases nb with
      | false =>
        have HF := Lib.hid (HP1.out rfl)
        clear HP1 HP2
        go_enter Tryd.func53, Tryd.ntmps53
        go_wp2_with fail
        refine HN.out.mono ?_
        rintro e1 w1 ⟨rfl, hw1⟩
        have hb1 : Below W.heap.size W w1 := by rw [hw1]; exact HB.out
        have HB1 := Lib.hid hb1
        have BT := Lib.hid (Blk.new w1 45 #[.int .i64 (tk : Nat), .string tx, .int .i64 (tn : Nat), .int .i64 (tp : Nat)])
        have hb2 : Below w1.heap.size w1 (w1.alloc (.cells #[.int .i64 (tk : Nat), .string tx, .int .i64 (tn : Nat), .int .i64 (tp : Nat)] 45)) := (Below.refl _ _).alloc (Nat.le_refl _) _
        have HB2 := Lib.hid (below_trans' hb1 hb2)
        obtain ⟨W2, hW2⟩ : ∃ W2, w1.alloc (.cells #[.int .i64 (tk : Nat), .string tx, .int .i64 (tn : Nat), .int .i64 (tp : Nat)] 45) = W2 := ⟨_, rfl⟩
        rw [hW2] at BT HB2
        have H2 := Lib.hid (HS.out.up HB2.out)
        have k0 : W2.cell? ⟨w1.heap.size, 0, none⟩ = some (.int .i64 (tk : Nat)) := BT.out.cell 0
        have k1 : W2.cell? ⟨w1.heap.size, 1, none⟩ = some (.string tx) := BT.out.cell 1
        clear hw1 hb1 hb2 HN HB
        go_wp2_with fail
        refine (HI.out _).mono ?_
        rintro e3 w3 ⟨rfl, hb3⟩
        have HB3 := Lib.hid (below_trans' HB2.out hb3)
        have H3 := Lib.hid (H2.out.up hb3)
        clear hb3
        have HQ := Lib.hid (need_no H3.out)
        unfold nextT at HQ
        dsimp only at HQ
        go_wp2_with fail
        refine HQ.out.mono ?_
        rintro e2 w2 ⟨rfl, hb2⟩
        exact ⟨rfl, HF.out _ (below_trans' HB3.out hb2)⟩
      | true =>
        have HF := Lib.hid (HP2.out rfl)
        clear HP1 HP2
        go_enter Tryd.func53, Tryd.ntmps53
        go_wp2_with fail
        refine HN.out.mono ?_
        rintro e1 w1 ⟨rfl, hw1⟩
        have hb1 : Below W.heap.size W w1 := by rw [hw1]; exact HB.out
        have HB1 := Lib.hid hb1
        have BT := Lib.hid (Blk.new w1 45 #[.int .i64 (tk : Nat), .string tx, .int .i64 (tn : Nat), .int .i64 (tp : Nat)])
        have hb2 : Below w1.heap.size w1 (w1.alloc (.cells #[.int .i64 (tk : Nat), .string tx, .int .i64 (tn : Nat), .int .i64 (tp : Nat)] 45)) := (Below.refl _ _).alloc (Nat.le_refl _) _
        have HB2 := Lib.hid (below_trans' hb1 hb2)
        obtain ⟨W2, hW2⟩ : ∃ W2, w1.alloc (.cells #[.int .i64 (tk : Nat), .string tx, .int .i64 (tn : Nat), .int .i64 (tp : Nat)] 45) = W2 := ⟨_, rfl⟩
        rw [hW2] at BT HB2
        have H2 := Lib.hid (HS.out.up HB2.out)
        have k0 : W2.cell? ⟨w1.heap.size, 0, none⟩ = some (.int .i64 (tk : Nat)) := BT.out.cell 0
        have k1 : W2.cell? ⟨w1.heap.size, 1, none⟩ = some (.string tx) := BT.out.cell 1
        clear hw1 hb1 hb2 HN HB
        go_wp2_with fail
        refine (HI.out _).mono ?_
        rintro e3 w3 ⟨rfl, hb3⟩
        have HB3 := Lib.hid (below_trans' HB2.out hb3)
        have H3 := Lib.hid (H2.out.up hb3)
        clear hb3
        have HQ := Lib.hid (need_ok H3.out)
        unfold tokA at HQ
        dsimp only at HQ
        have hfd := tok_f1 (.int .i64 (tk : Nat)) (.string tx) (.int .i64 (tn : Nat)) (.int .i64 (tp : Nat))
        go_wp2_with fail
        refine HQ.out.mono ?_
        rintro e4 w4 ⟨rfl, hr4, hg4⟩
        have HR := Lib.hid (hr4.nameS tx)
        have HG : Hid (Gr rb none W (w4.setCell ⟨rb, 3, none⟩ (.string tx))) := Lib.hid (((Gr.of_below (r2 := none) HB3.out).trans hg4 (.inl rfl)).setCell (p := ⟨rb, 3, none⟩) (.inl rfl) _)
        have m0 : w4.cell? ⟨rb, 3, none⟩ = some (.string nm) := hr4.blk.cell 3
        have m1 : w4.frozen? ⟨rb, 3, none⟩ = false := hr4.blk.frozen 3
        clear hr4 hg4
        go_wp2_with fail
        go_end0
        exact HF.out _ HR.out HG.out
    · have f1 : ((tk : Int) == 1) = false := by rw [beq_eq_false_iff_ne]; omega
      rw [decide_eq_false hk, Bool.false_and] at HP1
      have HF := Lib.hid (HP1.out rfl)
      clear HP1 HP2
      go_enter Tryd.func53, Tryd.ntmps53
      go_wp2_with fail
      refine HN.out.mono ?_
      rintro e1 w1 ⟨rfl, hw1⟩
      have hb1 : Below W.heap.size W w1 := by rw [hw1]; exact HB.out
      have HB1 := Lib.hid hb1
      have BT := Lib.hid (Blk.new w1 45 #[.int .i64 (tk : Nat), .string tx, .int .i64 (tn : Nat), .int .i64 (tp : Nat)])
      have hb2 : Below w1.heap.size w1 (w1.alloc (.cells #[.int .i64 (tk : Nat), .string tx, .int .i64 (tn : Nat), .int .i64 (tp : Nat)] 45)) := (Below.refl _ _).alloc (Nat.le_refl _) _
      have HB2 := Lib.hid (below_trans' hb1 hb2)
      obtain ⟨W2, hW2⟩ : ∃ W2, w1.alloc (.cells #[.int .i64 (tk : Nat), .string tx, .int .i64 (tn : Nat), .int .i64 (tp : Nat)] 45) = W2 := ⟨_, rfl⟩
      rw [hW2] at BT HB2
      have H2 := Lib.hid (HS.out.up HB2.out)
      have k0 : W2.cell? ⟨w1.heap.size, 0, none⟩ = some (.int .i64 (tk : Nat)) := BT.out.cell 0
      have k1 : W2.cell? ⟨w1.heap.size, 1, none⟩ = some (.string tx) := BT.out.cell 1
      clear hw1 hb1 hb2 HN HB
      have HQ := Lib.hid (need_no H2.out)
      unfold nextT at HQ
      dsimp only at HQ
      go_wp2_with fail
      refine HQ.out.mono ?_
      rintro e2 w2 ⟨rfl, hb2⟩
      exact ⟨rfl, HF.out _ (below_trans' HB2.out hb2)⟩
end Go.Proofs.YtbgekgakamincaaDoor.Ps

/- A region that draws its order, by an invariant that is kept by each of its operations in whatever order they come; and two appends in a row to a literal, as such an invariant. -/
namespace Go.Proofs.YtbgekgakamincaaDoor
open Go.RowKit
set_option linter.unusedVariables false

/-- Which operations have been listed, one more. -/
def upd (b : Nat → Bool) (m : Nat) : Nat → Bool := fun j => if j = m then true else b j
def left (b : Nat → Bool) : Nat → Nat
  | 0 => 0
  | k + 1 => left b k + if b k = true then 0 else 1
theorem left_far (b : Nat → Bool) (m : Nat) : ∀ k, k ≤ m → left (upd b m) k = left b k
  | 0, _ => rfl
  | k + 1, h => by
    have : upd b m k = b k := if_neg (by omega)
    unfold left
    rw [left_far b m k (by omega), this]
theorem left_upd (b : Nat → Bool) (m : Nat) (hb : b m = false) : ∀ k, m < k → left (upd b m) k + 1 = left b k
  | 0, h => absurd h (by omega)
  | k + 1, h => by
    unfold left
    by_cases e : m = k
    · subst e
      rw [left_far b m m (Nat.le_refl _), hb, show upd b m m = true from if_pos rfl]
      simp
    · have h1 : upd b m k = b k := if_neg (Ne.symm e)
      have := left_upd b m hb k (by omega)
      rw [h1]
      omega
theorem left_zero (b : Nat → Bool) : ∀ k, left b k = 0 → ∀ j, j < k → b j = true
  | 0, _, j, hj => absurd hj (by omega)
  | k + 1, h, j, hj => by
    unfold left at h
    by_cases e : j = k
    · subst e
      cases hbj : b j
      · rw [hbj] at h; simp at h
      · rfl
    · exact left_zero b k (by omega) j (by omega)

section
variable {P : Program} {ops : Array Oper} {Q : Exit → Act → World → Prop} {md : Region.Mode}
def lst (listed : Array Bool) : Nat → Bool := fun j => listed.getD j false
theorem lst_set {listed : Array Bool} {m : Nat} (h : m < listed.size) : lst (listed.setIfInBounds m true) = upd (lst listed) m := by
  funext j
  unfold lst upd
  by_cases e : j = m
  · subst e; simp [Array.getD_eq_getD_getElem?, h]
  · simp [Array.getD_eq_getD_getElem?, Array.getElem?_setIfInBounds_ne (Ne.symm e), e]

def ordB (md : Region.Mode) : Nat → List Oper → Bool
  | _, [] => true
  | m, o :: l => (o.after.all fun e => !Region.binds md e || decide (e.on < m)) && ordB md (m + 1) l
theorem ordB_spec : ∀ (l : List Oper) (m : Nat), ordB md m l = true → ∀ j o, l[j]? = some o → ∀ e ∈ o.after, Region.binds md e = true → e.on < m + j
  | [], _, _, j, o, h => by simp at h
  | o :: l, m, hB, j, o', h => by
    simp only [ordB, Bool.and_eq_true] at hB
    rcases j with _ | j
    · simp at h
      subst h
      intro e he hb
      have := Array.all_eq_true'.1 hB.1 e he
      simpa [hb] using this
    · intro e he hb
      have := ordB_spec l (m + 1) hB.2 j o' (by simpa using h) e he hb
      omega

def Steps (P : Program) (md : Region.Mode) (Q : Exit → Act → World → Prop) (I : (Nat → Bool) → Act → World → Prop) : Nat → List Oper → Prop
  | _, [] => True
  | m, o :: l => (o.guard = none ∧ ∀ b a w, b m = false → (∀ e ∈ o.after, Region.binds md e = true → b e.on = true) → I b a w → Oper.wp P o a w (I (upd b m)) Q) ∧ Steps P md Q I (m + 1) l
theorem Steps_at {I : (Nat → Bool) → Act → World → Prop} : ∀ (l : List Oper) (m : Nat), Steps P md Q I m l → ∀ j o, l[j]? = some o →
    o.guard = none ∧ ∀ b a w, b (m + j) = false → (∀ e ∈ o.after, Region.binds md e = true → b e.on = true) → I b a w → Oper.wp P o a w (I (upd b (m + j))) Q
  | [], _, _, j, o, h => by simp at h
  | o :: l, m, hS, j, o', h => by
    rcases j with _ | j
    · simp at h
      subst h
      exact hS.1
    · have := Steps_at l (m + 1) hS.2 j o' (by simpa using h)
      rw [show m + 1 + j = m + (j + 1) by omega] at this
      exact this

theorem all_listed {listed : Array Bool} (hsz : listed.size = ops.size) (hB : ordB md 0 ops.toList = true) (hr : Region.ready md ops listed = []) : ∀ j, j < ops.size → lst listed j = true := by
  intro j
  induction j using Nat.strongRecOn with
  | _ j ih =>
    intro hj
    cases hl : lst listed j
    · exfalso
      have : j ∈ Region.ready md ops listed := by
        refine mem_ready.2 ⟨?_, ops[j], by simp [hj], fun e he hb => ?_⟩
        · unfold lst at hl
          rw [Array.getD_eq_getD_getElem?, Array.getElem?_eq_getElem (by omega)] at hl ⊢
          exact hl
        · have := ordB_spec _ _ hB j ops[j] (by simp [hj]) e he hb
          exact ih e.on (by omega) (by omega)
      rw [hr] at this
      cases this
    · rfl

theorem wpAny_inv (I : (Nat → Bool) → Act → World → Prop) (hB : ordB md 0 ops.toList = true) (hS : Steps P md Q I 0 ops.toList) (hend : ∀ b a w, (∀ j, j < ops.size → b j = true) → I b a w → Q .normal a w) :
    ∀ (fuel : Nat) (listed : Array Bool) (a : Act) (w : World), listed.size = ops.size → left (lst listed) ops.size ≤ fuel → I (lst listed) a w → wpAny P md ops Q fuel listed a w
  | 0, listed, a, w, hsz, hl, h => by
    have hall := left_zero _ _ (Nat.le_zero.1 hl)
    refine ⟨?_, hend _ _ _ hall h⟩
    rw [List.eq_nil_iff_forall_not_mem]
    intro i hi
    obtain ⟨h1, o, ho, _⟩ := mem_ready.1 hi
    have hlt : i < ops.size := by
      rcases Nat.lt_or_ge i ops.size with h | h
      · exact h
      · rw [Array.getElem?_eq_none h] at ho; cases ho
    have := hall i hlt
    unfold lst at this
    rw [getD_both h1] at this
    cases this
  | fuel + 1, listed, a, w, hsz, hl, h => by
    refine ⟨fun hr => hend _ _ _ (all_listed hsz hB hr) h, fun i hi => ?_⟩
    obtain ⟨h1, o, ho, hdep⟩ := mem_ready.1 hi
    have hlt : i < ops.size := by
      rcases Nat.lt_or_ge i ops.size with h | h
      · exact h
      · rw [Array.getElem?_eq_none h] at ho; cases ho
    have hun : lst listed i = false := getD_both h1
    obtain ⟨hg, hst⟩ := Steps_at ops.toList 0 hS i o (by simpa using ho)
    rw [Nat.zero_add] at hst
    have hgo := hst (lst listed) a w hun (fun e he hb => hdep e he hb) h
    unfold wpOp
    simp only [ho]
    rw [if_pos (by simp [Region.wanted, hg])]
    refine .inl (Oper.wp_mono (fun a' w' h' => ?_) hgo)
    have hls := lst_set (listed := listed) (m := i) (by omega)
    refine wpAny_inv I hB hS hend fuel _ a' w' (by simpa using hsz) ?_ (by rw [hls]; exact h')
    rw [hls]
    have := left_upd (lst listed) i hun ops.size hlt
    omega

/-- THE RULE: J names the frame at the region's door. -/
theorem wp_region_inv (J : Act → (Nat → Bool) → Act → World → Prop) {id : Nat} {a : Act} {w : World} {l : List Oper} (hm : P.follows .mixedOrders = true) (hB : ordB .any 0 l = true) (h0 : J a (fun _ => false) a w.drew)
    (hS : Steps P .any Q (J a) 0 l) (hend : ∀ b a' w', (∀ j, j < l.length → b j = true) → J a b a' w' → Q .normal a' w') : (Code.region id l.toArray true).wp P Q a w := by
  refine wp_region_any hm (wpAny_inv (J a) hB hS (fun b a' w' hb => hend b a' w' (by simpa using hb)) _ _ _ _ (by simp) ?_ ?_)
  · have : ∀ (b : Nat → Bool) k, left b k ≤ k := by
      intro b k
      induction k with
      | zero => exact Nat.le_refl _
      | succ k ih => unfold left; split <;> omega
    exact this _ _
  · have : lst (Array.replicate l.toArray.size false) = fun _ => false := by
      funext j
      exact getD_replicate_false _ _
    rw [this]
    exact h0

/-- append, as an operation. -/
theorem wp_append_rd2 {o : Oper} {a : Act} {w : World} {K : Act → World → Prop} (hgd : o.guard = none) (s x : Operand) (t : TypeId)
    (ho : o.op = .call { callee := .builtin .append, args := #[s, x], argTypes := #[t, t] })
    (base : Nat) (e : TypeId) (i : TypeInfo) (z : Value) (size bytes : Nat) (ht : P.underlying t = some (.slice e)) (hi : P.info? e = some i) (hz : i.zero = some z)
    (hsize : i.size = size) (hby : i.bytes = bytes) (hzs : z.cells.size = size) (hsz : 0 < size)
    (v : Value) (n : Nat) (xs : List Value) (hs : a.eval s = v) (hown : w.ownsRow base e size v n xs)
    (B : Nat) (A : Option Addr) (m c : Nat) (news : List Value) (hx : a.eval x = .slice A m c) (hr : Rd w B size A m news) (h1 : ∀ u ∈ news, u.oneCell' = true)
    (h63 : n + m ≤ maxLen) (hbytes : (n + m) * bytes ≤ 140737488355328) (hbase : base ≤ w.heap.size)
    (h : ∀ A' c' w', w'.ownsRow base e size (.slice A' (n + m) c') (n + m) (xs ++ news) → w.grownBy w' v.ownBlock → ((Value.slice A' (n + m) c').ownBlock = v.ownBlock ∨ (Value.slice A' (n + m) c').ownBlock = some w.heap.size) → K (a.put o.dst (.slice A' (n + m) c')) w') : Oper.wp P o a w K Q := by
  have := step_append_rd2 (P := P) w (ops := #[]) (E := True) (Q := Q) hgd s x t ho base e i z size bytes ht hi hz hsize hby hzs hsz v n xs hs hown B A m c news hx hr h1 h63 hbytes hbase (fun A' c' w' h2 _ h3 h4 => h A' c' w' h2 h3 h4)
  rwa [if_pos (by simp [Region.wanted, hgd])] at this
end

/-- A frame with the slots of L laid over by f. -/
def over (a : Act) (f : Nat → Value) : List Nat → Act
  | [] => a
  | i :: L => over (a.put (some i) (f i)) f L
theorem over_size (f : Nat → Value) : ∀ (L : List Nat) (a : Act), (over a f L).tmps.size = a.tmps.size
  | [], _ => rfl
  | i :: L, a => by unfold over; rw [over_size f L]; simp [Act.put]
theorem over_defers (f : Nat → Value) : ∀ (L : List Nat) (a : Act), (over a f L).defers = a.defers
  | [], _ => rfl
  | i :: L, a => by unfold over; rw [over_defers f L]; rfl
theorem over_get (f : Nat → Value) : ∀ (L : List Nat) (a : Act) (j : Nat), (over a f L).tmps[j]? = if j ∈ L ∧ j < a.tmps.size then some (f j) else a.tmps[j]?
  | [], _, j => by simp [over]
  | i :: L, a, j => by
    unfold over
    rw [over_get f L]
    have hs : (a.put (some i) (f i)).tmps.size = a.tmps.size := by simp [Act.put]
    rw [hs]
    by_cases hj : j < a.tmps.size
    · by_cases h : j ∈ L
      · rw [if_pos ⟨h, hj⟩, if_pos ⟨List.mem_cons_of_mem _ h, hj⟩]
      · rw [if_neg (fun x => h x.1)]
        by_cases e : i = j
        · subst e
          rw [if_pos ⟨List.mem_cons_self, hj⟩]
          simp [Act.put, hj]
        · rw [if_neg (fun x => by rcases List.mem_cons.1 x.1 with r | r; exact e r.symm; exact h r)]
          simp [Act.put, Array.getElem?_setIfInBounds_ne e]
    · rw [if_neg (fun x => hj x.2), if_neg (fun x => hj x.2)]
      simp only [Act.put]
      rw [Array.getElem?_eq_none (by simp; omega), Array.getElem?_eq_none (by omega)]
theorem act_ext {a b : Act} (h1 : a.defers = b.defers) (h2 : ∀ j : Nat, a.tmps[j]? = b.tmps[j]?) : a = b := by
  obtain ⟨s, d⟩ := a
  obtain ⟨s', d'⟩ := b
  obtain rfl : d = d' := h1
  obtain rfl : s = s' := Array.ext_getElem? h2
  rfl
/-- One slot of f, anew. -/
def upv (f : Nat → Value) (i : Nat) (v : Value) : Nat → Value := fun j => if j = i then v else f j
theorem over_put {f : Nat → Value} {L : List Nat} {a : Act} {i : Nat} (hi : i ∈ L) (v : Value) : (over a f L).put (some i) v = over a (upv f i v) L := by
  refine act_ext (by rw [over_defers]; exact over_defers f L a) fun j => ?_
  rw [over_get]
  simp only [Act.put]
  by_cases e : i = j
  · subst e
    by_cases hj : i < a.tmps.size
    · rw [if_pos ⟨hi, hj⟩]
      simp [upv, over_size, hj]
    · rw [if_neg (fun x => hj x.2), Array.getElem?_eq_none (by simp [over_size]; omega), Array.getElem?_eq_none (by omega)]
  · rw [Array.getElem?_setIfInBounds_ne e, over_get]
    simp only [upv, if_neg (Ne.symm e)]
theorem over_eval {f : Nat → Value} {L : List Nat} {a : Act} {i : Nat} (hi : i ∈ L) (hs : i < a.tmps.size) : (over a f L).eval (.tmp i) = f i := by
  simp only [Act.eval]
  rw [Array.getD_eq_getD_getElem?, over_get, if_pos ⟨hi, hs⟩]
  rfl
theorem over_eval_ne {f : Nat → Value} {L : List Nat} {a : Act} {i : Nat} (hi : i ∉ L) : (over a f L).eval (.tmp i) = a.eval (.tmp i) := by
  simp only [Act.eval]
  rw [Array.getD_eq_getD_getElem?, over_get, if_neg (fun x => hi x.1), Array.getD_eq_getD_getElem?]
theorem over_self (a : Act) (L : List Nat) : over a (fun i => a.tmps.getD i undef) L = a := by
  refine act_ext (over_defers _ _ _) fun j => ?_
  rw [over_get]
  by_cases h : j ∈ L ∧ j < a.tmps.size
  · rw [if_pos h, Array.getD_eq_getD_getElem?, Array.getElem?_eq_getElem h.2]
    rfl
  · rw [if_neg h]

section
variable {P : Program} {Q : Exit → Act → World → Prop}
/-- THE RULE, the frame at the door forgotten but for F. -/
theorem wp_region_inv' (F : Act → Prop) (J : Act → (Nat → Bool) → Act → World → Prop) {id : Nat} {a : Act} {w : World} {l : List Oper} (hm : P.follows .mixedOrders = true) (hB : ordB .any 0 l = true) (hF : F a) (h0 : ∀ a0, J a0 (fun _ => false) a0 w.drew)
    (hS : ∀ a0, F a0 → Steps P .any Q (J a0) 0 l) (hend : ∀ b a' w', (∀ j, j < l.length → b j = true) → J a b a' w' → Q .normal a' w') : (Code.region id l.toArray true).wp P Q a w :=
  wp_region_inv J hm hB (h0 a) (hS a hF) hend

theorem wp_move {o : Oper} {a : Act} {w : World} {K : Act → World → Prop} (x : Operand) (ho : o.op = .move x) (h : K (a.put o.dst (a.eval x)) w) : Oper.wp P o a w K Q := by
  unfold Oper.wp execOp
  simp only [ho, Sem.run_pure]
  exact h
theorem wp_assign {o : Oper} {a : Act} {w : World} {K : Act → World → Prop} (x : Operand) (ho : o.op = .assign x) (h : K (a.put o.dst (a.eval x)) w) : Oper.wp P o a w K Q := by
  unfold Oper.wp execOp
  simp only [ho, Sem.run_pure]
  exact h
end

section
variable {P : Program} {Q : Exit → Act → World → Prop}
/-- []T{} -/
theorem wp_build0 {o : Oper} {a : Act} {w : World} {K : Act → World → Prop} (t e : TypeId) (ho : o.op = .buildSlice t 0 #[]) (ie : TypeInfo) (z : Value)
    (hu : P.underlying t = some (.slice e)) (hie : P.info? e = some ie) (hz : ie.zero = some z) (hs : 0 < ie.size)
    (h : K (a.put o.dst (.slice (some ⟨w.heap.size, 0, none⟩) 0 0)) (w.alloc (.cells #[] e))) : o.wp P a w K Q := by
  have hr : (Instr.buildSlice t 0 #[]).run P w = .ok (.slice (some ⟨w.heap.size, 0, none⟩) 0 0) (w.alloc (.cells #[] e)) := by
    have hf : Instr.fill (fun i => some (i * ie.size, ie.size)) (Array.map (fun _ => (default : Value)) (Array.range 0)) [] = some #[] := by simp [Instr.fill]
    simp [Instr.buildSlice, run_underlying hu, sizeOf, typeInfo, hie, newRow]
    rw [hf]
    simp
  unfold Oper.wp execOp
  simp only [ho, List.map_toArray, List.map_nil, Sem.run_bind, hr, Result.andThen_ok]
  exact h
/-- []T{x}, T a struct. -/
theorem wp_build1 {o : Oper} {a : Act} {w : World} {K : Act → World → Prop} (t e : TypeId) (x : Operand) (ho : o.op = .buildSlice t 1 #[(0, x)]) (ie : TypeInfo) (z : Value) (ea : Array Value)
    (hu : P.underlying t = some (.slice e)) (hie : P.info? e = some ie) (hz : ie.zero = some z) (hs : ie.size = ea.size) (h0 : 0 < ea.size) (hsm : ea.size ≤ 100) (hx : a.eval x = .agg ea)
    (hf : Instr.fill (fun i => some (i * ea.size, ea.size)) ((Array.range (1 * ea.size)).map (z.cells[· % z.cells.size]!)) [(0, .agg ea)] = some ea)
    (h : K (a.put o.dst (.slice (some ⟨w.heap.size, 0, none⟩) 1 1)) (w.alloc (.cells ea e))) : o.wp P a w K Q :=
  wp_buildSlice t e 1 _ ho ea ie z hu hie hz (by rw [hs]; omega) (by rw [hs]; omega) (by simp only [List.map_toArray, List.map_cons, List.map_nil, hx, hs]; exact hf) h
end

/-- append(append([]T{}, xs..), el): what is known when which of its four operations have come. -/
structure Ch (base : Nat) (T : TypeId) (S : Nat) (n : Nat) (xs : List Value) (el : Array Value) (b0 b1 b2 b3 : Bool) (x0 x1 x2 x3 : Value) (w : World) : Prop where
  o0 : b0 = true → b1 = false → w.ownsRow base T S x0 0 []
  o1 : b1 = true → b3 = false → w.ownsRow base T S x1 n xs
  o2 : b2 = true → b3 = false → ∃ g, x2 = .slice (some ⟨g, 0, none⟩) 1 1 ∧ Blk w g T el ∧ base ≤ g ∧ (b0 = true → b1 = false → x0.ownBlock ≠ some g) ∧ (b1 = true → x1.ownBlock ≠ some g)
  o3 : b3 = true → w.ownsRow base T S x3 (n + 1) (xs ++ el.toList)
  od : b3 = true → b1 = true

theorem own_type {w : World} {base base' S S' n n' : Nat} {T T' : TypeId} {v v' : Value} {xs xs' : List Value} (h : w.ownsRow base T S v n xs) (h' : w.ownsRow base' T' S' v' n' xs') (hne : T ≠ T') : v.ownBlock = none ∨ v.ownBlock ≠ v'.ownBlock := by
  rcases h.2 with ⟨rfl, _⟩ | ⟨g, cap, cur, rfl, hb, hg, _⟩
  · exact .inl rfl
  · right
    rcases h'.2 with ⟨rfl, _⟩ | ⟨g', cap', cur', rfl, hb', hg', _⟩
    · simp [Value.ownBlock]
    · simp only [Value.ownBlock, ne_eq, Option.some.injEq]
      intro e
      subst e
      rw [hg] at hg'
      injection hg' with e
      injection e with e1 e2
      exact hne e2
theorem blk_type {w : World} {g base' S' n' : Nat} {T T' : TypeId} {v' : Value} {cs : Array Value} {xs' : List Value} (h : Blk w g T cs) (h' : w.ownsRow base' T' S' v' n' xs') (hne : T ≠ T') : some g ≠ v'.ownBlock := by
  rcases h'.2 with ⟨rfl, _⟩ | ⟨g', cap', cur', rfl, hb', hg', _⟩
  · simp [Value.ownBlock]
  · simp only [Value.ownBlock, ne_eq, Option.some.injEq]
    intro e
    subst e
    rw [show w.heap[g]? = _ from h] at hg'
    injection hg' with e
    injection e with e1 e2
    exact hne e2

section
variable {base S n : Nat} {T : TypeId} {xs : List Value} {el : Array Value} {b0 b1 b2 b3 : Bool} {x0 x1 x2 x3 : Value} {w w' : World}
theorem Ch.first (x0 x1 x2 x3 : Value) : Ch base T S n xs el false false false false x0 x1 x2 x3 w := ⟨fun h => (by cases h), fun h => (by cases h), fun h => (by cases h), fun h => (by cases h), fun h => (by cases h)⟩
/-- Another row of another type is written. -/
theorem Ch.grown {base' S' n' : Nat} {T' : TypeId} {v' : Value} {xs' : List Value} (h : Ch base T S n xs el b0 b1 b2 b3 x0 x1 x2 x3 w) (h' : w.ownsRow base' T' S' v' n' xs') (hne : T ≠ T') (hg : w.grownBy w' v'.ownBlock) : Ch base T S n xs el b0 b1 b2 b3 x0 x1 x2 x3 w' :=
  ⟨fun p q => (h.o0 p q).kept hg (own_type (h.o0 p q) h' hne), fun p q => (h.o1 p q).kept hg (own_type (h.o1 p q) h' hne),
   fun p q => by
    obtain ⟨g, e, hb, hbg, r⟩ := h.o2 p q
    exact ⟨g, e, hb.grown hg (blk_type hb h' hne), hbg, r⟩,
   fun p => (h.o3 p).kept hg (own_type (h.o3 p) h' hne), h.od⟩
theorem Ch.alloc (h : Ch base T S n xs el b0 b1 b2 b3 x0 x1 x2 x3 w) (o : Obj) : Ch base T S n xs el b0 b1 b2 b3 x0 x1 x2 x3 (w.alloc o) :=
  ⟨fun p q => (h.o0 p q).alloc o, fun p q => (h.o1 p q).alloc o,
   fun p q => by
    obtain ⟨g, e, hb, hbg, r⟩ := h.o2 p q
    exact ⟨g, e, hb.alloc o, hbg, r⟩,
   fun p => (h.o3 p).alloc o, h.od⟩
theorem Ch.make0 (h : Ch base T S n xs el b0 b1 b2 b3 x0 x1 x2 x3 w) (hbase : base ≤ w.heap.size) : Ch base T S n xs el true b1 b2 b3 (.slice (some ⟨w.heap.size, 0, none⟩) 0 0) x1 x2 x3 (w.alloc (.cells #[] T)) := by
  refine ⟨fun _ _ => World.ownsRow_lit w #[] 0 hbase (by decide) (by simp), fun p q => (h.o1 p q).alloc _, fun p q => ?_, fun p => (h.o3 p).alloc _, h.od⟩
  obtain ⟨g, e, hb, hbg, _, r⟩ := h.o2 p q
  refine ⟨g, e, hb.alloc _, hbg, fun _ _ => ?_, r⟩
  have := hb.lt
  simp only [Value.ownBlock, ne_eq, Option.some.injEq]
  omega
theorem Ch.make2 (h : Ch base T S n xs el b0 b1 b2 b3 x0 x1 x2 x3 w) (hbase : base ≤ w.heap.size) : Ch base T S n xs el b0 b1 true b3 x0 x1 (.slice (some ⟨w.heap.size, 0, none⟩) 1 1) x3 (w.alloc (.cells el T)) := by
  refine ⟨fun p q => (h.o0 p q).alloc _, fun p q => (h.o1 p q).alloc _, fun _ q => ⟨w.heap.size, rfl, Blk.new w T el, hbase, fun p q e => ?_, fun p e => ?_⟩, fun p => (h.o3 p).alloc _, h.od⟩
  · have := ((h.o0 p q).lt _ e).2
    omega
  · have := ((h.o1 p q).lt _ e).2
    omega
theorem Ch.app1 {v : Value} (h : Ch base T S n xs el b0 false b2 b3 x0 x1 x2 x3 w) (h0 : b0 = true) (ho : w'.ownsRow base T S v n xs) (hg : w.grownBy w' x0.ownBlock) (hk : v.ownBlock = x0.ownBlock ∨ v.ownBlock = some w.heap.size) : Ch base T S n xs el b0 true b2 b3 x0 v x2 x3 w' := by
  refine ⟨fun _ p => (by cases p), fun _ _ => ho, fun p q => ?_, fun p => absurd (h.od p) (by decide), fun _ => rfl⟩
  obtain ⟨g, e, hb, hbg, r, _⟩ := h.o2 p q
  refine ⟨g, e, hb.grown hg (Ne.symm (r h0 rfl)), hbg, fun _ p => (by cases p), fun _ he => ?_⟩
  rcases hk with hk | hk
  · exact r h0 rfl (hk.symm.trans he)
  · rw [hk] at he
    injection he with he
    have := hb.lt
    omega
theorem Ch.app2 {v : Value} (h : Ch base T S n xs el b0 b1 b2 b3 x0 x1 x2 x3 w) (hb : b1 = true) (ho : w'.ownsRow base T S v (n + 1) (xs ++ el.toList)) : Ch base T S n xs el b0 b1 b2 true x0 x1 x2 v w' :=
  ⟨fun _ p => (by rw [hb] at p; cases p), fun _ p => (by cases p), fun _ p => (by cases p), fun _ => ho, fun _ => hb⟩
end
theorem blk_old {w : World} {base S n k : Nat} {T : TypeId} {v : Value} {xs : List Value} (h : w.ownsRow base T S v n xs) (hk : k < base) : some k ≠ v.ownBlock := fun e => by
  have := (h.lt k e.symm).1
  omega
end Go.Proofs.YtbgekgakamincaaDoor

/- A region that draws its order, of which one operation always panics: whatever else has come before it, the region leaves by that panic. -/
namespace Go.Proofs.YtbgekgakamincaaDoor
open Go.RowKit
set_option linter.unusedVariables false

def dstOf (l : List Oper) (m : Nat) : Option Nat := (l[m]?).bind (·.dst)
/-- No slot is the target of two operations; each lies in the frame. -/
def dstsB (n : Nat) (l : List Oper) : Bool :=
  (List.range l.length).all fun i => (match dstOf l i with | none => true | some d => decide (d < n)) && (List.range l.length).all fun j => decide (i = j) || (match dstOf l i, dstOf l j with | some d, some d' => decide (d ≠ d') | _, _ => true)
/-- What is not among the good ones waits, in the end, for the operation p. -/
def waitB (good : List Nat) (p : Nat) (l : List Oper) : Bool :=
  decide (p ∉ good) && (List.range l.length).all fun m => decide (m ∈ good) || (decide (m = p) || (match l[m]? with | some o => o.after.any fun e => Region.binds .any e && decide (e.on ∉ good) | none => true))
section
variable {P : Program} {Q : Exit → Act → World → Prop}
theorem put_get (a : Act) (d : Nat) (v : Value) (h : d < a.tmps.size) : (a.put (some d) v).eval (.tmp d) = v := by
  simp [Act.put, Act.eval, h]
theorem put_ne (a : Act) (d d' : Nat) (v : Value) (h : d ≠ d') : (a.put (some d) v).eval (.tmp d') = a.eval (.tmp d') := by
  simp only [Act.put, Act.eval, Array.getD_eq_getD_getElem?]
  rw [Array.getElem?_setIfInBounds_ne h]
theorem put_size (a : Act) (d : Option Nat) (v : Value) : (a.put d v).tmps.size = a.tmps.size := by cases d <;> simp [Act.put]
theorem put_defers (a : Act) (d : Option Nat) (v : Value) : (a.put d v).defers = a.defers := by cases d <;> rfl

/-- What is known of a frame in which some operations have come. -/
structure Pd (l : List Oper) (good : List Nat) (V : Nat → Value) (PW : World → Prop) (a : Act) (b : Nat → Bool) (a' : Act) (w' : World) : Prop where
  defers : a'.defers = a.defers
  size : a'.tmps.size = a.tmps.size
  good : ∀ m, m < l.length → b m = true → m ∈ good
  val : ∀ m, m < l.length → b m = true → ∀ d, dstOf l m = some d → a'.eval (.tmp d) = V m
  rest : ∀ d, (∀ m, m < l.length → dstOf l m ≠ some d) → a'.eval (.tmp d) = a.eval (.tmp d)
  world : PW w'
/-- THE RULE. -/
theorem wp_region_pan {id : Nat} {a : Act} {w : World} {l : List Oper} (n : Nat) (good : List Nat) (p : Nat) (V : Nat → Value) (PW : World → Prop) (hm : P.follows .mixedOrders = true) (hB : ordB .any 0 l = true) (hn : a.tmps.size = n) (hD : dstsB n l = true) (hW : waitB good p l = true) (hp : p < l.length)
    (hg : l.all (fun o => o.guard.isNone) = true) (h0 : PW w.drew)
    (hS : ∀ m, m ∈ good → ∀ o, l[m]? = some o → ∀ a' w', (∀ e ∈ o.after, Region.binds .any e = true → ∀ d, dstOf l e.on = some d → a'.eval (.tmp d) = V e.on) → (∀ d, (∀ m, m < l.length → dstOf l m ≠ some d) → a'.eval (.tmp d) = a.eval (.tmp d)) → PW w' →
      Oper.wp P o a' w' (fun a'' w'' => a'' = a'.put o.dst (V m) ∧ PW w'') Q)
    (hP : ∀ o, l[p]? = some o → ∀ a' w', (∀ e ∈ o.after, Region.binds .any e = true → ∀ d, dstOf l e.on = some d → a'.eval (.tmp d) = V e.on) → (∀ d, (∀ m, m < l.length → dstOf l m ≠ some d) → a'.eval (.tmp d) = a.eval (.tmp d)) → a'.defers = a.defers → PW w' → Oper.wp P o a' w' (fun _ _ => False) Q) : (Code.region id l.toArray true).wp P Q a w := by
  simp only [waitB, Bool.and_eq_true, decide_eq_true_eq] at hW
  obtain ⟨hpg, hW⟩ := hW
  have hord := ordB_spec l 0 hB
  refine wp_region_inv (fun a b a' w' => Pd l good V PW a b a' w') hm hB ⟨rfl, rfl, fun m _ h => (by cases h), fun m _ h => (by cases h), fun _ _ => rfl, h0⟩ ?_ ?_
  · suffices H : ∀ (k : List Oper) (m : Nat), (∀ j, k[j]? = l[m + j]?) → Steps P .any Q (fun b a' w' => Pd l good V PW a b a' w') m k from H l 0 (fun j => by rw [Nat.zero_add])
    intro k
    induction k with
    | nil => intro m _; trivial
    | cons o k ih =>
      intro m hk
      have hom : l[m]? = some o := by have := hk 0; simpa using this.symm
      have hml : m < l.length := (List.getElem?_eq_some_iff.1 hom).1
      refine ⟨⟨?_, ?_⟩, ih (m + 1) (fun j => by have := hk (j + 1); rw [show m + (j + 1) = m + 1 + j by omega] at this; simpa using this)⟩
      · have := List.all_eq_true.1 hg o (List.mem_of_getElem? hom)
        simpa using this
      · intro b a' w' hbm hdep hJ
        have hde : ∀ e ∈ o.after, Region.binds .any e = true → ∀ d, dstOf l e.on = some d → a'.eval (.tmp d) = V e.on := fun e he hb d hd => by
          have hlt : e.on < l.length := by
            unfold dstOf at hd
            cases hq : l[e.on]? with
            | none => rw [hq] at hd; cases hd
            | some x => exact (List.getElem?_eq_some_iff.1 hq).1
          exact hJ.val e.on hlt (hdep e he hb) d hd
        by_cases hmg : m ∈ good
        · refine Oper.wp_mono (fun a'' w'' h => ?_) (hS m hmg o hom a' w' hde hJ.rest hJ.world)
          obtain ⟨rfl, hpw⟩ := h
          have hdm : dstOf l m = o.dst := by unfold dstOf; rw [hom]; rfl
          have hDm := List.all_eq_true.1 hD m (List.mem_range.2 hml)
          simp only [Bool.and_eq_true] at hDm
          refine ⟨by rw [put_defers]; exact hJ.defers, by rw [put_size]; exact hJ.size, fun j hj hu => ?_, fun j hj hu d hd => ?_, fun d hd => ?_, hpw⟩
          · unfold upd at hu
            by_cases e : j = m
            · rw [e]; exact hmg
            · rw [if_neg e] at hu; exact hJ.good j hj hu
          · unfold upd at hu
            by_cases e : j = m
            · subst e
              rw [hdm] at hd
              rw [hd]
              rw [hdm, hd] at hDm
              exact put_get _ _ _ (by rw [hJ.size, hn]; simpa using hDm.1)
            · rw [if_neg e] at hu
              have hv := hJ.val j hj hu d hd
              cases hod : o.dst with
              | none => exact hv
              | some d' =>
                rw [put_ne _ _ _ _ ?_]
                · exact hv
                · intro he
                  subst he
                  have h2 := List.all_eq_true.1 hDm.2 j (List.mem_range.2 hj)
                  rw [hdm, hod, hd] at h2
                  simp only [Bool.or_eq_true, decide_eq_true_eq, ne_eq, not_true_eq_false, or_false] at h2
                  exact e h2.symm
          · cases hod : o.dst with
            | none => exact hJ.rest d hd
            | some d' =>
              rw [put_ne _ _ _ _ ?_]
              · exact hJ.rest d hd
              · intro he
                exact hd m hml (by rw [hdm, hod, he])
        · by_cases hmp : m = p
          · subst hmp
            exact Oper.wp_mono (fun _ _ h => h.elim) (hP o hom a' w' hde hJ.rest hJ.defers hJ.world)
          · exfalso
            have h1 := List.all_eq_true.1 hW m (List.mem_range.2 hml)
            simp only [Bool.or_eq_true, decide_eq_true_eq, hmg, hmp, false_or, hom] at h1
            obtain ⟨e, he, h2⟩ := Array.any_eq_true'.1 h1
            simp only [Bool.and_eq_true, decide_eq_true_eq] at h2
            have hlt := hord m o hom e he h2.1
            exact h2.2 (hJ.good e.on (by omega) (hdep e he h2.1))
  · intro b a' w' hb hJ
    exact absurd (hJ.good p hp (hb p hp)) hpg
/-- An operation whose run is known. -/
theorem wp_run {o : Oper} {a : Act} {w w' : World} {v : Value} {K : Act → World → Prop} (h : (execOp a.eval o).run P w = .ok (.value v) w') (hk : K (a.put o.dst v) w') : Oper.wp P o a w K Q := by
  unfold Oper.wp
  rw [h]
  exact hk
end
end Go.Proofs.YtbgekgakamincaaDoor

/- A region that draws its order: quiet operations, whose values are known, beside a chain of operations that turn the world one after the other (calls that may panic, appends, stores). -/
namespace Go.Proofs.YtbgekgakamincaaDoor
open Go.RowKit
set_option linter.unusedVariables false

/-- Does operation x wait, in the end, for operation y? -/
def reachB (l : List Oper) : Nat → Nat → Nat → Bool
  | 0, _, _ => false
  | k + 1, x, y => match l[x]? with | some o => o.after.any fun e => Region.binds .any e && (decide (e.on = y) || reachB l k e.on y) | none => false
theorem reach_spec {l : List Oper} {b : Nat → Bool} (hc : ∀ m o, l[m]? = some o → b m = true → ∀ e ∈ o.after, Region.binds .any e = true → b e.on = true) : ∀ (k x y : Nat), reachB l k x y = true → b x = true → b y = true
  | 0, x, y, h, _ => by cases h
  | k + 1, x, y, h, hx => by
    unfold reachB at h
    cases ho : l[x]? with
    | none => rw [ho] at h; cases h
    | some o =>
      rw [ho] at h
      obtain ⟨e, he, h2⟩ := Array.any_eq_true'.1 h
      simp only [Bool.and_eq_true, Bool.or_eq_true, decide_eq_true_eq] at h2
      have hb := hc x o ho hx e he h2.1
      rcases h2.2 with h3 | h3
      · rw [← h3]; exact hb
      · exact reach_spec hc k e.on y h3 hb
/-- The chain ch: each waits for the one before; lim m: how many of the chain may have come when the quiet operation m comes. -/
def chainB (l : List Oper) (ch : List Nat) (lim : List Nat) : Bool :=
  ((List.range ch.length).all fun i => decide (ch.getD i 0 < l.length) && (decide (i = 0) || reachB l l.length (ch.getD i 0) (ch.getD (i - 1) 0))) &&
  ((List.range l.length).all fun m => decide (m ∈ ch) || (List.range ch.length).all fun i => decide (i < lim.getD m 0) || reachB l l.length (ch.getD i 0) m) &&
  ((List.range ch.length).all fun i => (List.range ch.length).all fun j => decide (i = j) || decide (ch.getD i 0 ≠ ch.getD j 0))
/-- F of each operation, by its number. -/
def Each (F : Nat → Oper → Prop) : Nat → List Oper → Prop
  | _, [] => True
  | k, o :: l => F k o ∧ Each F (k + 1) l
theorem each_of {F : Nat → Oper → Prop} : ∀ (l : List Oper) (k : Nat), Each F k l → ∀ m o, l[m]? = some o → F (k + m) o
  | [], _, _, m, o, h => by simp at h
  | o :: l, k, hE, 0, o', h => by
    have : o = o' := by simpa using h
    subst this
    exact hE.1
  | o :: l, k, hE, m + 1, o', h => by
    have := each_of l (k + 1) hE.2 m o' (by simpa using h)
    rw [show k + 1 + m = k + (m + 1) by omega] at this
    exact this
theorem ev_of {a : Act} {d : Nat} {v : Value} (h : a.eval (.tmp d) = v) : a.tmps[d]?.getD undef = v := by
  rw [← h]; simp [Act.eval, Array.getD_eq_getD_getElem?]
section
variable {P : Program} {Q : Exit → Act → World → Prop}
/-- What is known when some operations have come: s of the chain. -/
structure Sg (l : List Oper) (ch : List Nat) (V : Nat → Value) (CH : Nat → (Nat → Value) → World → Prop) (a : Act) (b : Nat → Bool) (a' : Act) (w' : World) : Prop where
  defers : a'.defers = a.defers
  size : a'.tmps.size = a.tmps.size
  clos : ∀ m o, l[m]? = some o → b m = true → ∀ e ∈ o.after, Region.binds .any e = true → b e.on = true
  val : ∀ m, m < l.length → m ∉ ch → b m = true → ∀ d, dstOf l m = some d → a'.eval (.tmp d) = V m
  rest : ∀ d, (∀ m, m < l.length → dstOf l m ≠ some d) → a'.eval (.tmp d) = a.eval (.tmp d)
  stage : ∃ s, s ≤ ch.length ∧ (∀ i, i < ch.length → (b (ch.getD i 0) = true ↔ i < s)) ∧ CH s (fun d => a'.eval (.tmp d)) w'
/-- THE RULE. CH: what is known of the world (and of the chain's slots) when s of the chain have come. -/
theorem wp_region_stg {id : Nat} {a : Act} {w : World} {l : List Oper} (n : Nat) (ch lim : List Nat) (V : Nat → Value) (CH : Nat → (Nat → Value) → World → Prop)
    (hm : P.follows .mixedOrders = true) (hB : ordB .any 0 l = true) (hn : a.tmps.size = n) (hD : dstsB n l = true) (hC : chainB l ch lim = true) (hg : l.all (fun o => o.guard.isNone) = true)
    (hslot : ∀ s f g w', (∀ i, i < ch.length → ∀ d, dstOf l (ch.getD i 0) = some d → f d = g d) → CH s f w' → CH s g w')
    (h0 : CH 0 (fun d => a.eval (.tmp d)) w.drew)
    (hS : ∀ m, m ∉ ch → ∀ o, l[m]? = some o → ∀ s f a' w', s ≤ lim.getD m 0 → (∀ e ∈ o.after, Region.binds .any e = true → ∀ d, dstOf l e.on = some d → a'.eval (.tmp d) = if e.on ∈ ch then f d else V e.on) → (∀ d, (∀ m, m < l.length → dstOf l m ≠ some d) → a'.eval (.tmp d) = a.eval (.tmp d)) → (∀ e ∈ o.after, Region.binds .any e = true → ∀ i, i < ch.length → ch.getD i 0 = e.on → i < s) → CH s f w' →
      Oper.wp P o a' w' (fun a'' w'' => a'' = a'.put o.dst (V m) ∧ w'' = w') Q)
    (hT : ∀ s, s < ch.length → ∀ o, l[ch.getD s 0]? = some o → ∀ f a' w', (∀ e ∈ o.after, Region.binds .any e = true → ∀ d, dstOf l e.on = some d → a'.eval (.tmp d) = if e.on ∈ ch then f d else V e.on) → (∀ d, (∀ m, m < l.length → dstOf l m ≠ some d) → a'.eval (.tmp d) = a.eval (.tmp d)) → a'.defers = a.defers → CH s f w' →
      Oper.wp P o a' w' (fun a'' w'' => ∃ v, a'' = a'.put o.dst v ∧ CH (s + 1) (fun d => if o.dst = some d then v else f d) w'') Q)
    (hend : ∀ f a' w', a'.defers = a.defers → a'.tmps.size = a.tmps.size → (∀ d, (∀ m, m < l.length → dstOf l m ≠ some d) → a'.eval (.tmp d) = a.eval (.tmp d)) → CH ch.length f w' → Q .normal a' w') : (Code.region id l.toArray true).wp P Q a w := by
  simp only [chainB, Bool.and_eq_true] at hC
  obtain ⟨⟨hC1, hC2⟩, hC3⟩ := hC
  have hord := ordB_spec l 0 hB
  have hdist : ∀ m j, m < l.length → j < l.length → m ≠ j → ∀ d, dstOf l m = some d → dstOf l j ≠ some d := fun m j hm hj hne d h1 h2 => by
    have hDm := List.all_eq_true.1 hD m (List.mem_range.2 hm)
    simp only [Bool.and_eq_true] at hDm
    have h3 := List.all_eq_true.1 hDm.2 j (List.mem_range.2 hj)
    rw [h1, h2] at h3
    simp only [Bool.or_eq_true, decide_eq_true_eq, ne_eq, not_true_eq_false, or_false] at h3
    exact hne h3
  have hin : ∀ m d, m < l.length → dstOf l m = some d → d < n := fun m d hm h1 => by
    have hDm := List.all_eq_true.1 hD m (List.mem_range.2 hm)
    simp only [Bool.and_eq_true] at hDm
    rw [h1] at hDm
    simpa using hDm.1
  have hchl : ∀ i, i < ch.length → ch.getD i 0 < l.length := fun i hi => by
    have := List.all_eq_true.1 hC1 i (List.mem_range.2 hi)
    simp only [Bool.and_eq_true, decide_eq_true_eq] at this
    exact this.1
  have hchd : ∀ i j, i < ch.length → j < ch.length → ch.getD i 0 = ch.getD j 0 → i = j := fun i j hi hj e => by
    have := List.all_eq_true.1 (List.all_eq_true.1 hC3 i (List.mem_range.2 hi)) j (List.mem_range.2 hj)
    simp only [Bool.or_eq_true, decide_eq_true_eq] at this
    rcases this with h | h
    · exact h
    · exact absurd e h
  have hchm : ∀ i, i < ch.length → ch.getD i 0 ∈ ch := fun i hi => by rw [List.getD_eq_getElem?_getD, List.getElem?_eq_getElem hi]; exact List.getElem_mem hi
  refine wp_region_inv (fun a b a' w' => Sg l ch V CH a b a' w') hm hB ⟨rfl, rfl, fun m o _ h => (by cases h), fun m _ _ h => (by cases h), fun _ _ => rfl, 0, Nat.zero_le _, fun i _ => ⟨fun h => (by cases h), fun h => absurd h (by omega)⟩, h0⟩ ?_ ?_
  · suffices H : ∀ (k : List Oper) (m : Nat), (∀ j, k[j]? = l[m + j]?) → Steps P .any Q (fun b a' w' => Sg l ch V CH a b a' w') m k from H l 0 (fun j => by rw [Nat.zero_add])
    intro k
    induction k with
    | nil => intro m _; trivial
    | cons o k ih =>
      intro m hk
      have hom : l[m]? = some o := by have := hk 0; simpa using this.symm
      have hml : m < l.length := (List.getElem?_eq_some_iff.1 hom).1
      have hdm : dstOf l m = o.dst := by unfold dstOf; rw [hom]; rfl
      refine ⟨⟨?_, ?_⟩, ih (m + 1) (fun j => by have := hk (j + 1); rw [show m + (j + 1) = m + 1 + j by omega] at this; simpa using this)⟩
      · have := List.all_eq_true.1 hg o (List.mem_of_getElem? hom)
        simpa using this
      · intro b a' w' hbm hdep hJ
        obtain ⟨s, hs, hst, hch⟩ := hJ.stage
        have hel : ∀ e ∈ o.after, Region.binds .any e = true → e.on < l.length := fun e he hb => by
          have := hord m o hom e he hb; omega
        have hde : ∀ e ∈ o.after, Region.binds .any e = true → ∀ d, dstOf l e.on = some d → a'.eval (.tmp d) = if e.on ∈ ch then a'.eval (.tmp d) else V e.on := fun e he hb d hd => by
          by_cases hec : e.on ∈ ch
          · rw [if_pos hec]
          · rw [if_neg hec]; exact hJ.val e.on (hel e he hb) hec (hdep e he hb) d hd
        have hlo : ∀ e ∈ o.after, Region.binds .any e = true → ∀ i, i < ch.length → ch.getD i 0 = e.on → i < s := fun e he hb i hi hie => (hst i hi).1 (by rw [hie]; exact hdep e he hb)
        have hclos : ∀ m2 o2, l[m2]? = some o2 → upd b m m2 = true → ∀ e ∈ o2.after, Region.binds .any e = true → upd b m e.on = true := fun m2 o2 h2 hu e he hb => by
          unfold upd at hu ⊢
          by_cases e1 : e.on = m
          · rw [if_pos e1]
          · rw [if_neg e1]
            by_cases e2 : m2 = m
            · subst e2
              rw [hom] at h2
              injection h2 with h2
              subst h2
              exact hdep e he hb
            · rw [if_neg e2] at hu; exact hJ.clos m2 o2 h2 hu e he hb
        have hrest : ∀ (v : Value) d, (∀ m, m < l.length → dstOf l m ≠ some d) → (a'.put o.dst v).eval (.tmp d) = a.eval (.tmp d) := fun v d hd => by
          cases hod : o.dst with
          | none => exact hJ.rest d hd
          | some d' =>
            rw [put_ne _ _ _ _ (fun he => hd m hml (by rw [hdm, hod, he]))]
            exact hJ.rest d hd
        by_cases hmc : m ∈ ch
        · obtain ⟨i, hi, him⟩ := List.mem_iff_getElem.1 hmc
          have hgi : ch.getD i 0 = m := by rw [List.getD_eq_getElem?_getD, List.getElem?_eq_getElem hi]; exact him
          have his : ¬ i < s := fun h => by have := (hst i hi).2 h; rw [hgi, hbm] at this; cases this
          have hsi : i = s := by
            rcases Nat.lt_or_ge s i with h | h
            · exfalso
              have h1 := List.all_eq_true.1 hC1 i (List.mem_range.2 hi)
              simp only [Bool.and_eq_true, Bool.or_eq_true, decide_eq_true_eq] at h1
              have h2 : reachB l l.length (ch.getD i 0) (ch.getD (i - 1) 0) = true := h1.2.resolve_left (by omega)
              rw [hgi] at h2
              have h3 := reach_spec (b := upd b m) hclos _ _ _ h2 (by unfold upd; rw [if_pos rfl])
              unfold upd at h3
              by_cases e : ch.getD (i - 1) 0 = m
              · have := hchd (i - 1) i (by omega) hi (by rw [e, hgi]); omega
              · rw [if_neg e] at h3
                have := (hst (i - 1) (by omega)).1 h3
                omega
            · omega
          subst hsi
          refine Oper.wp_mono (fun a'' w'' h => ?_) (hT i hi o (by rw [hgi]; exact hom) (fun d => a'.eval (.tmp d)) a' w' hde hJ.rest hJ.defers hch)
          obtain ⟨v, rfl, hpw⟩ := h
          refine ⟨by rw [put_defers]; exact hJ.defers, by rw [put_size]; exact hJ.size, hclos, fun j hj hjc hu d hd => ?_, hrest v, i + 1, hi, fun j hj => ?_, ?_⟩
          · unfold upd at hu
            by_cases e : j = m
            · exact absurd (e ▸ hmc) hjc
            · rw [if_neg e] at hu
              have hv := hJ.val j hj hjc hu d hd
              cases hod : o.dst with
              | none => exact hv
              | some d' =>
                rw [put_ne _ _ _ _ (fun he => hdist j m hj hml e d hd (by rw [hdm, hod, he]))]
                exact hv
          · unfold upd
            by_cases e : ch.getD j 0 = m
            · have : j = i := hchd j i hj hi (by rw [e, hgi])
              subst this
              rw [if_pos e]
              exact ⟨fun _ => by omega, fun _ => rfl⟩
            · rw [if_neg e]
              have hne : j ≠ i := fun h => e (by rw [h, hgi])
              constructor
              · intro h; have := (hst j hj).1 h; omega
              · intro h; exact (hst j hj).2 (by omega)
          · refine hslot _ _ _ _ (fun j hj d hd => ?_) hpw
            cases hod : o.dst with
            | none => rw [if_neg (by simp)]; rfl
            | some d' =>
              by_cases e : d' = d
              · subst e
                rw [if_pos rfl, put_get _ _ _ (by rw [hJ.size, hn]; exact hin m d' hml (by rw [hdm, hod]))]
              · rw [if_neg (fun h => e (Option.some.inj h)), put_ne _ _ _ _ e]
        · have hlim : s ≤ lim.getD m 0 := by
            rcases Nat.lt_or_ge (lim.getD m 0) s with h | h
            · exfalso
              have h1 := List.all_eq_true.1 hC2 m (List.mem_range.2 hml)
              simp only [Bool.or_eq_true, decide_eq_true_eq, hmc, false_or] at h1
              have h2 := List.all_eq_true.1 h1 (lim.getD m 0) (List.mem_range.2 (by omega))
              simp only [Bool.or_eq_true, decide_eq_true_eq] at h2
              have h3 := h2.resolve_left (by omega)
              have h4 := reach_spec (b := b) hJ.clos _ _ _ h3 ((hst _ (by omega)).2 h)
              rw [hbm] at h4; cases h4
            · exact h
          refine Oper.wp_mono (fun a'' w'' h => ?_) (hS m hmc o hom s (fun d => a'.eval (.tmp d)) a' w' hlim hde hJ.rest hlo hch)
          obtain ⟨rfl, rfl⟩ := h
          refine ⟨by rw [put_defers]; exact hJ.defers, by rw [put_size]; exact hJ.size, hclos, fun j hj hjc hu d hd => ?_, hrest (V m), s, hs, fun j hj => ?_, ?_⟩
          · unfold upd at hu
            by_cases e : j = m
            · subst e
              rw [hdm] at hd
              rw [hd]
              exact put_get _ _ _ (by rw [hJ.size, hn]; exact hin j d hml (by rw [hdm, hd]))
            · rw [if_neg e] at hu
              have hv := hJ.val j hj hjc hu d hd
              cases hod : o.dst with
              | none => exact hv
              | some d' =>
                rw [put_ne _ _ _ _ (fun he => hdist j m hj hml e d hd (by rw [hdm, hod, he]))]
                exact hv
          · unfold upd
            rw [if_neg (fun (e : ch.getD j 0 = m) => hmc (e ▸ hchm j hj))]
            exact hst j hj
          · refine hslot _ _ _ _ (fun j hj d hd => ?_) hch
            cases hod : o.dst with
            | none => rfl
            | some d' => exact (put_ne _ _ _ _ (fun he => hdist (ch.getD j 0) m (hchl j hj) hml (fun (e : ch.getD j 0 = m) => hmc (e ▸ hchm j hj)) d hd (by rw [hdm, hod, he]))).symm
  · intro b a' w' hb hJ
    obtain ⟨s, hs, hst, hch⟩ := hJ.stage
    have : s = ch.length := by
      rcases Nat.lt_or_ge s ch.length with h | h
      · have := (hst s h).1 (hb _ (hchl s h)); omega
      · omega
    subst this
    exact hend _ a' w' hJ.defers hJ.size hJ.rest hch
/-- The same, the quiet operations told one by one. -/
theorem wp_region_stg1 {id : Nat} {a : Act} {w : World} {l : List Oper} (n : Nat) (ch lim : List Nat) (V : Nat → Value) (CH : Nat → (Nat → Value) → World → Prop)
    (hm : P.follows .mixedOrders = true) (hB : ordB .any 0 l = true) (hn : a.tmps.size = n) (hD : dstsB n l = true) (hC : chainB l ch lim = true) (hg : l.all (fun o => o.guard.isNone) = true)
    (hslot : ∀ s f g w', (∀ i, i < ch.length → ∀ d, dstOf l (ch.getD i 0) = some d → f d = g d) → CH s f w' → CH s g w')
    (h0 : CH 0 (fun d => a.eval (.tmp d)) w.drew)
    (hS : Each (fun m o => m ∉ ch → ∀ s f a' w', s ≤ lim.getD m 0 → (∀ e ∈ o.after, Region.binds .any e = true → ∀ d, dstOf l e.on = some d → a'.eval (.tmp d) = if e.on ∈ ch then f d else V e.on) → (∀ d, (∀ m, m < l.length → dstOf l m ≠ some d) → a'.eval (.tmp d) = a.eval (.tmp d)) → (∀ e ∈ o.after, Region.binds .any e = true → ∀ i, i < ch.length → ch.getD i 0 = e.on → i < s) → CH s f w' →
      Oper.wp P o a' w' (fun a'' w'' => a'' = a'.put o.dst (V m) ∧ w'' = w') Q) 0 l)
    (hT : ∀ s, s < ch.length → ∀ o, l[ch.getD s 0]? = some o → ∀ f a' w', (∀ e ∈ o.after, Region.binds .any e = true → ∀ d, dstOf l e.on = some d → a'.eval (.tmp d) = if e.on ∈ ch then f d else V e.on) → (∀ d, (∀ m, m < l.length → dstOf l m ≠ some d) → a'.eval (.tmp d) = a.eval (.tmp d)) → a'.defers = a.defers → CH s f w' →
      Oper.wp P o a' w' (fun a'' w'' => ∃ v, a'' = a'.put o.dst v ∧ CH (s + 1) (fun d => if o.dst = some d then v else f d) w'') Q)
    (hend : ∀ f a' w', a'.defers = a.defers → a'.tmps.size = a.tmps.size → (∀ d, (∀ m, m < l.length → dstOf l m ≠ some d) → a'.eval (.tmp d) = a.eval (.tmp d)) → CH ch.length f w' → Q .normal a' w') : (Code.region id l.toArray true).wp P Q a w :=
  wp_region_stg n ch lim V CH hm hB hn hD hC hg hslot h0 (fun m hm o ho => by have := each_of l 0 hS m o ho; rw [Nat.zero_add] at this; exact this hm) hT hend
end
end Go.Proofs.YtbgekgakamincaaDoor

/- The reader's numbers. -/
namespace Go.Proofs.YtbgekgakamincaaDoor.Ps
open Go.RowKit Go.Proofs.YtbgekgakamincaaDoor.Lx Go.Proofs.YtbgekgakamincaaDoor.Pr
set_option linter.unusedVariables false

theorem info_int : (Tryd.prog.info? 3).map (fun i => (i.zero, i.size, i.bytes)) = some (some (.int .i64 0), 1, 8) := by kernel_rfl
def rep (j : Nat) : List (List UInt8) := List.replicate j [35]
def vN (rb : Nat) (W : World) : Value := (W.cell? ⟨rb, 4, none⟩).getD undef
theorem vN_of {rb : Nat} {W : World} {v : Value} (h : W.cell? ⟨rb, 4, none⟩ = some v) : W.cell? ⟨rb, 4, none⟩ = some (vN rb W) := by unfold vN; rw [h]; rfl
theorem vN_eq {rb : Nat} {W : World} {v : Value} (h : W.cell? ⟨rb, 4, none⟩ = some v) : vN rb W = v := by unfold vN; rw [h]; rfl
theorem rep_succ (j : Nat) : rep (j + 1) = rep j ++ [[35]] := by unfold rep; rw [List.replicate_succ']
theorem rep_last (j : Nat) : (rep j).getLast? ≠ some [100] := by
  intro h
  have := List.mem_of_getLast? h
  unfold rep at this
  have := List.eq_of_mem_replicate this
  exact absurd this (by decide)
theorem rep_len (j : Nat) : (rep j).length = j := List.length_replicate ..
theorem rep_split {j m : Nat} (h : j < m) : rep m = rep j ++ ([[35]] ++ rep (m - j - 1)) := by
  unfold rep
  rw [show ([[35]] : List (List UInt8)) = List.replicate 1 [35] from rfl, List.replicate_append_replicate, List.replicate_append_replicate]
  congr 1
  omega
theorem nsB_rep : ∀ (j : Nat) (ts : List Tok), matchB ts (rep j) = j → (nsB false ts (rep j)).length = j
  | 0, ts, _ => by cases ts <;> rfl
  | j + 1, [], h => by simp [matchB] at h
  | j + 1, t :: ts, h => by
    unfold rep at h ⊢
    rw [List.replicate_succ] at h ⊢
    simp only [matchB] at h
    split at h
    · simp only [nsB, if_pos, List.length_cons]
      rw [show (nsB false ts (List.replicate j [35])).length = j from nsB_rep j ts (by unfold rep; omega)]
    · omega
theorem RS.nums {wP W W' : World} {rb e n c : Nat} {A : Option Addr} {ts : List Tok} {K : Int} {nm : ByteArray} {NV NV' : Value} {ns ns' : List Int} {at_ : Int} (h : RS wP rb e A n c ts K nm NV ns at_ W) (hg : W.grownBy W' NV.ownBlock) (ho : W'.ownsRow wP.heap.size 3 1 NV' ns'.length (ns'.map iv)) :
    RS wP rb e A n c ts K nm NV' ns' at_ (W'.setCell ⟨rb, 4, none⟩ NV') ∧ Gr rb NV.ownBlock W (W'.setCell ⟨rb, 4, none⟩ NV') := by
  have hne := own_ne h.own h.blk
  have hb : Blk W' rb 52 _ := h.blk.grown hg (fun e => hne e.symm)
  have hne' := own_ne ho hb
  have hG : Gr rb NV.ownBlock W W' := ⟨hg.os, hg.tape, hg.output, hg.size, fun k hk _ hr => hg.block k hk hr⟩
  have hbl : Below wP.heap.size W W' := hG.below h.ge (fun k hk => (own_block h.own k hk).1) h.bel.size
  have hrs : RS wP rb e A n c ts K nm NV' ns' at_ (W'.setCell ⟨rb, 4, none⟩ NV') := by
    refine ⟨(h.bel.trans hbl).setCell (p := ⟨rb, 4, none⟩) h.ge _, h.toks, hb.set_ 4 NV', ?_, h.ge⟩
    exact ho.kept (row := some rb) ⟨rfl, rfl, rfl, by rw [World.size_setCell]; exact Nat.le_refl _, fun k hk hr => Below.heap_setCell W' ⟨rb, 4, none⟩ NV' k (fun q => hr (congrArg some (show k = rb from q)))⟩ (.inr hne')
  exact ⟨hrs, hG.setCell (.inl rfl) _⟩
theorem Post.cont {wP W W1 : World} {rb e : Nat} {ts : List Tok} {K : Int} {nm : ByteArray} {NV : Value} {ns : List Int} {at_ : Int} {p1 : List (List UInt8)} (h : Post wP rb e p1 ts K nm NV ns at_ W (.returned (.tuple #[])) W1) (hl : p1.getLast? ≠ some [100]) :
    matchB ts p1 = p1.length ∧ ∃ A' n' c' nm' NV' ns', RS wP rb e A' n' c' (ts.drop p1.length) K nm' NV' ns' at_ W1 ∧ ns' = ns ++ nsB false ts p1 ∧
      (∀ e1 W2 p2, Post wP rb e p2 (ts.drop p1.length) K nm' NV' ns' at_ W1 e1 W2 → Post wP rb e (p1 ++ p2) ts K nm NV ns at_ W e1 W2) := by
  obtain ⟨A', n', c', nm', NV', ns', h1, h2, h3, h4⟩ := h
  rcases h4 with ⟨h5, h5', h6, h7⟩ | ⟨_, h5⟩
  · refine ⟨h5, A', n', c', nm', NV', ns', h5 ▸ h1, h7, fun e1 W2 p2 hp => ?_⟩
    obtain ⟨A2, n2, c2, nm2, NV2, ns2, g1, g2, g3, g4⟩ := hp
    have hma : matchB ts (p1 ++ p2) = p1.length + matchB (ts.drop p1.length) p2 := by rw [match_append, if_pos h5]
    have hd : ts.drop (matchB ts (p1 ++ p2)) = (ts.drop p1.length).drop (matchB (ts.drop p1.length) p2) := by rw [hma, List.drop_drop]
    refine ⟨A2, n2, c2, nm2, NV2, ns2, by rw [hd]; exact g1, h2.trans g2 ?_, ?_, ?_⟩
    · rcases h3 with h | ⟨k, h, hk⟩
      · exact .inr (.inl h)
      · exact .inr (.inr ⟨k, h, hk⟩)
    · rcases g3 with g | ⟨k, g, hk⟩
      · rcases h3 with h | ⟨k, h, hk⟩
        · exact .inl (g.trans h)
        · exact .inr ⟨k, g.trans h, hk⟩
      · exact .inr ⟨k, g, Nat.le_trans h2.size hk⟩
    · rcases g4 with ⟨q1, q2, q3, q4⟩ | ⟨q1, q2⟩
      · refine .inl ⟨by rw [hma, q1, List.length_append], q2, ?_, ?_⟩
        · rw [q3, h6, nm_append p1 p2 ts nm h5]
        · rw [q4, h7, ns_append p1 p2 ts false h5 hl (.inl rfl), List.append_assoc]
      · exact .inr ⟨by rw [hma, List.length_append]; omega, by rw [hd]; exact q2⟩
  · cases h5
theorem Post.start {wP W0 W W1 : World} {rb e : Nat} {ts : List Tok} {K : Int} {nm : ByteArray} {NV : Value} {ns : List Int} {at_ : Int} {p1 : List (List UInt8)} {e1 : Ending} (h : Post wP rb e p1 ts K nm NV ns at_ W e1 W1) (hg : Gr rb none W0 W) : Post wP rb e p1 ts K nm NV ns at_ W0 e1 W1 := by
  obtain ⟨A', n', c', nm', NV', ns', h1, h2, h3, h4⟩ := h
  refine ⟨A', n', c', nm', NV', ns', h1, hg.more.trans h2 (.inr (.inl rfl)), ?_, h4⟩
  rcases h3 with h | ⟨k, h, hk⟩
  · exact .inl h
  · exact .inr ⟨k, h, Nat.le_trans hg.size hk⟩
/-- A number read. -/
theorem one_num {wP W W1 W2 : World} {rb e n c : Nat} {A : Option Addr} {t : Tok} {r : List Tok} {K : Int} {nm : ByteArray} {NV NV' : Value} {ns : List Int} {at_ : Int} (hk : t.kind = 2) (h : RS wP rb e A n c r K nm NV ns at_ W1) (hg : Gr rb none W W1)
    (hw : W1.grownBy W2 NV.ownBlock) (ho : W2.ownsRow wP.heap.size 3 1 NV' (ns.length + 1) (ns.map iv ++ [iv (t.n : Nat)])) (hb : NV'.ownBlock = NV.ownBlock ∨ NV'.ownBlock = some W1.heap.size) :
    Post wP rb e [[35]] (t :: r) K nm NV ns at_ W (.returned (.tuple #[])) (W2.setCell ⟨rb, 4, none⟩ NV') := by
  have hf : fitsB t [35] = true := by unfold fitsB; rw [if_pos rfl, decide_eq_true_eq]; exact hk
  have hm : matchB (t :: r) [[35]] = 1 := by simp only [matchB]; rw [if_pos hf]
  have ho' : W2.ownsRow wP.heap.size 3 1 NV' (ns ++ [((t.n : Nat) : Int)]).length ((ns ++ [((t.n : Nat) : Int)]).map iv) := by rw [List.length_append, List.map_append]; exact ho
  obtain ⟨h1, h2⟩ := h.nums hw ho'
  refine ⟨A, n, c, nm, NV', ns ++ [((t.n : Nat) : Int)], by rw [hm]; exact h1, hg.more.trans h2 (.inr (.inl rfl)), ?_, .inl ⟨hm, rfl, ?_, ?_⟩⟩
  · rcases hb with hb | hb
    · exact .inl hb
    · exact .inr ⟨_, hb, hg.size⟩
  · cases r <;> rfl
  · cases r <;> rfl
theorem match_num {ts : List Tok} {e : Nat} (hk : (nextT ts e).kind ≠ 2) : matchB ts [[35]] = 0 := by
  cases ts with
  | nil => rfl
  | cons t r => exact match_no (by unfold fitsB; rw [if_pos rfl]; exact decide_eq_false hk)
theorem no_num {wP W W1 : World} {rb e n c : Nat} {A : Option Addr} {ts : List Tok} {K : Int} {nm : ByteArray} {NV : Value} {ns : List Int} {at_ : Int} (hk : (nextT ts e).kind ≠ 2) (h : RS wP rb e A n c ts K nm NV ns at_ W) (hb : Below W.heap.size W W1) :
    Post wP rb e [[35]] ts K nm NV ns at_ W (pvE (nextT ts e).pos) W1 := by
  exact post_no h hb (match_num hk)
theorem arr26 {tm : Array Value} (h : tm.size = 26) : ∃ t0 t1 t2 t3 t4 t5 t6 t7 t8 t9 t10 t11 t12 t13 t14 t15 t16 t17 t18 t19 t20 t21 t22 t23 t24 t25, tm = #[t0, t1, t2, t3, t4, t5, t6, t7, t8, t9, t10, t11, t12, t13, t14, t15, t16, t17, t18, t19, t20, t21, t22, t23, t24, t25] := by
  obtain ⟨l⟩ := tm
  match l, h with
  | [t0, t1, t2, t3, t4, t5, t6, t7, t8, t9, t10, t11, t12, t13, t14, t15, t16, t17, t18, t19, t20, t21, t22, t23, t24, t25], _ => exact ⟨t0, t1, t2, t3, t4, t5, t6, t7, t8, t9, t10, t11, t12, t13, t14, t15, t16, t17, t18, t19, t20, t21, t22, t23, t24, t25, rfl⟩
theorem append_wp {P : Program} {o : Oper} {a : Act} {w : World} {K : Act → World → Prop} {Q : Exit → Act → World → Prop} (hgd : o.guard = none) (s x : Operand) (t : TypeId)
    (ho : o.op = .call { callee := .builtin .append, args := #[s, x], argTypes := #[t, t] })
    (base : Nat) (e : TypeId) (i : TypeInfo) (z : Value) (size bytes : Nat) (ht : P.underlying t = some (.slice e)) (hi : P.info? e = some i) (hz : i.zero = some z)
    (hsize : i.size = size) (hby : i.bytes = bytes) (hzs : z.cells.size = size) (hsz : 0 < size)
    (v : Value) (n : Nat) (xs : List Value) (hs : a.eval s = v) (hown : w.ownsRow base e size v n xs)
    (B : Nat) (A : Option Addr) (m c : Nat) (news : List Value) (hx : a.eval x = .slice A m c) (hr : Rd w B size A m news) (h1 : ∀ u ∈ news, u.oneCell' = true)
    (h63 : n + m ≤ maxLen) (hbytes : (n + m) * bytes ≤ 140737488355328) (hbase : base ≤ w.heap.size)
    (h : ∀ A' c' w', w'.ownsRow base e size (.slice A' (n + m) c') (n + m) (xs ++ news) → (0 < n + m → ∃ g, A' = some ⟨g, 0, none⟩) → w.grownBy w' v.ownBlock → ((Value.slice A' (n + m) c').ownBlock = v.ownBlock ∨ (Value.slice A' (n + m) c').ownBlock = some w.heap.size) → K (a.put o.dst (.slice A' (n + m) c')) w') :
    Oper.wp P o a w K Q := by
  have := step_append_rd2 (ops := #[]) (E := True) (Q := Q) (P := P) w hgd s x t ho base e i z size bytes ht hi hz hsize hby hzs hsz v n xs hs hown B A m c news hx hr h1 h63 hbytes hbase h
  rwa [if_pos (by simp [Region.wanted, hgd])] at this
/-- What is known in a round of numbers when s of the five have come. -/
structure CHN (wP : World) (rb e : Nat) (A : Option Addr) (n c : Nat) (ts : List Tok) (K : Int) (nm : ByteArray) (NV : Value) (ns : List Int) (at_ : Int) (W : World) (t : Tok) (s : Nat) (f : Nat → Value) (W' : World) : Prop where
  c15 : 0 < s → f 15 = .agg (tokA t)
  c18 : 1 < s → f 18 = .agg (tokA t)
  cN : s ≤ 3 → W'.cell? ⟨rb, 4, none⟩ = some NV
  s0 : s = 0 → W' = W
  s1 : s = 1 → Below W.heap.size W W'
  s2 : 1 < s → t.kind = 2 ∧ ∃ r, ts = t :: r
  s3 : s = 2 → RS wP rb e (cutA A c 1) (n - 1) (c - 1) ts.tail K nm NV ns at_ W' ∧ Gr rb none W W'
  s4 : s = 3 → RS wP rb e (cutA A c 1) (n - 1) (c - 1) ts.tail K nm NV ns at_ W' ∧ Gr rb none W W' ∧ ∃ Ad B, f 20 = .slice Ad 1 1 ∧ Rd W' B 1 Ad 1 [iv (t.n : Nat)]
  s5 : s = 4 → ∃ A5 c5 W1, f 21 = .slice A5 (ns.length + 1) c5 ∧ RS wP rb e (cutA A c 1) (n - 1) (c - 1) ts.tail K nm NV ns at_ W1 ∧ Gr rb none W W1 ∧ W1.grownBy W' NV.ownBlock ∧ W'.ownsRow wP.heap.size 3 1 (.slice A5 (ns.length + 1) c5) (ns.length + 1) (ns.map iv ++ [iv (t.n : Nat)]) ∧ ((Value.slice A5 (ns.length + 1) c5).ownBlock = NV.ownBlock ∨ (Value.slice A5 (ns.length + 1) c5).ownBlock = some W1.heap.size)
  s6 : s = 5 → Post wP rb e [[35]] ts K nm NV ns at_ W (.returned (.tuple #[])) W'
theorem CHN.same {wP : World} {rb e : Nat} {A : Option Addr} {n c : Nat} {ts : List Tok} {K : Int} {nm : ByteArray} {NV : Value} {ns : List Int} {at_ : Int} {W : World} {t : Tok} {s : Nat} {f g : Nat → Value} {W' : World} (h15 : f 15 = g 15) (h18 : f 18 = g 18) (h20 : f 20 = g 20) (h21 : f 21 = g 21)
    (h : CHN wP rb e A n c ts K nm NV ns at_ W t s f W') : CHN wP rb e A n c ts K nm NV ns at_ W t s g W' :=
  ⟨fun q => h15 ▸ h.c15 q, fun q => h18 ▸ h.c18 q, h.cN, h.s0, h.s1, h.s2, h.s3, fun q => h20 ▸ h.s4 q, fun q => h21 ▸ h.s5 q, h.s6⟩
set_option maxRecDepth 100000 in
set_option maxHeartbeats 2000000 in
theorem nums_val {wP W : World} {rb e n c : Nat} {A : Option Addr} {ts : List Tok} {K : Int} {nm : ByteArray} {NV : Value} {ns : List Int} {at_ : Int} (many : Nat) (hm : many ≤ 10) (hl : ns.length ≤ 20) (hw : Wf ts)
    (h : RS wP rb e A n c ts K nm NV ns at_ W) :
    Calls Tryd.prog 31 #[.pointer (some ⟨rb, 0, none⟩), .int .i64 (many : Nat)] W (Post wP rb e (rep many) ts K nm NV ns at_ W) := by
  have HS := Lib.hid h
  obtain ⟨i0, hi, hz0, hz1, hz2⟩ := info_parts info_int
  clear h
  go_enter Tryd.func31, Tryd.ntmps31
  go_wp2_with fail
  go_loopw [5] (fun i wr => ∃ j : Nat, j ≤ many ∧ i = i64 (j : Nat) ∧ Hid (Post wP rb e (rep j) ts K nm NV ns at_ W (.returned (.tuple #[])) wr)) (fun i _ => many - (intOf i).toNat)
  case atStart => exact ⟨0, Nat.zero_le _, rfl, Lib.hid HS.out.post0⟩
  case round =>
    obtain ⟨j, hj, rfl, HP⟩ := hrel
    by_cases hlt : j < many
    · have hlt' : (j : Int) < (many : Int) := by omega
      obtain ⟨hmj, A', n', c', nm', NV', ns', hr, hnl, hct⟩ := HP.out.cont (rep_last j)
      rw [rep_len] at hmj hr hct
      have hnl2 : ns'.length ≤ 30 := by rw [hnl, List.length_append, nsB_rep j ts hmj]; omega
      obtain ⟨NA, nc, hNV, _⟩ := own_form hr.own
      subst hNV
      have hup0 := (Below.refl wr.heap.size wr).drew
      have HR0 := Lib.hid (hr.up hup0)
      have HU0 := Lib.hid hup0
      have hr0 := Lib.hid hr
      have HCT := Lib.hid hct
      have HWF := Lib.hid (hw.drop j)
      clear hct hmj hnl hr hup0
      obtain ⟨ts', hts⟩ : ∃ ts', ts.drop j = ts' := ⟨_, rfl⟩
      rw [hts] at HR0 HCT HWF hr0
      have HMZ : Hid ((nextT ts' e).kind ≠ 2 → matchB ts' [[35]] < [[(35 : UInt8)]].length) := Lib.hid (fun q => by rw [match_num q]; decide)
      clear hts
      obtain ⟨⟨tk, tx, tn, tp⟩, ht⟩ : ∃ t, nextT ts' e = t := ⟨_, rfl⟩
      go_wp2_with fail
      refine wp_region_stg1 26 [8, 11, 13, 14, 18] [5, 5, 5, 5, 5, 3, 5, 5, 5, 5, 5, 5, 5, 5, 5, 5, 5, 5, 5] (fun m => [.pointer (some ⟨rb, 0, none⟩), .pointer (some ⟨rb, 0, none⟩), .pointer (some ⟨rb, 0, none⟩), .pointer (some ⟨rb, 2, none⟩), .pointer (some ⟨rb, 4, none⟩), .slice NA ns'.length nc, .pointer (some ⟨rb, 0, none⟩), .pointer (some ⟨rb, 0, none⟩), undef, .int .i64 (tk : Nat), .bool ((tk : Int) == 2), undef, .int .i64 (tn : Nat), undef, undef, .pointer (some ⟨rb, 0, none⟩), .pointer (some ⟨rb, 2, none⟩), .pointer (some ⟨rb, 4, none⟩), undef].getD m undef) (CHN wP rb e A' n' c' ts' K nm' (.slice NA ns'.length nc) ns' at_ wr.drew ⟨tk, tx, tn, tp⟩) rfl (by kernel_rfl) rfl (by kernel_rfl) (by kernel_rfl) (by kernel_rfl) ?_ ?_ ?_ ?_ ?_
      · intro s f g w' hfg hc
        exact hc.same (hfg 0 (by decide) 15 rfl) (hfg 1 (by decide) 18 rfl) (hfg 2 (by decide) 20 rfl) (hfg 3 (by decide) 21 rfl)
      · exact ⟨fun q => absurd q (by decide), fun q => absurd q (by decide), fun _ => HR0.out.blk.cell 4, fun _ => rfl, fun q => absurd q (by decide), fun q => absurd q (by decide), fun q => absurd q (by decide), fun q => absurd q (by decide), fun q => absurd q (by decide), fun q => absurd q (by decide)⟩
      · refine ⟨?_, ?_, ?_, ?_, ?_, ?_, ?_, ?_, ?_, ?_, ?_, ?_, ?_, ?_, ?_, ?_, ?_, ?_, ?_, ?_⟩
        · intro _ s f a2 w2 hs hd hr hlo hc
          have d0 := ev_of (show a2.eval (.tmp 0) = .pointer (some ⟨rb, 0, none⟩) from hr 0 (by decide))
          clear hd hr hlo hc hs
          go_simp
        · intro _ s f a2 w2 hs hd hr hlo hc
          have d0 := ev_of (show a2.eval (.tmp 0) = .pointer (some ⟨rb, 0, none⟩) from hr 0 (by decide))
          clear hd hr hlo hc hs
          go_simp
        · intro _ s f a2 w2 hs hd hr hlo hc
          have d8 := ev_of (show a2.eval (.tmp 8) = .pointer (some ⟨rb, 0, none⟩) from hd ⟨1, .data⟩ (by simp) rfl 8 rfl)
          clear hd hr hlo hc hs
          go_simp
        · intro _ s f a2 w2 hs hd hr hlo hc
          have d9 := ev_of (show a2.eval (.tmp 9) = .pointer (some ⟨rb, 0, none⟩) from hd ⟨2, .data⟩ (by simp) rfl 9 rfl)
          clear hd hr hlo hc hs
          go_simp
        · intro _ s f a2 w2 hs hd hr hlo hc
          have d10 := ev_of (show a2.eval (.tmp 10) = .pointer (some ⟨rb, 2, none⟩) from hd ⟨3, .data⟩ (by simp) rfl 10 rfl)
          clear hd hr hlo hc hs
          go_simp
        · intro _ s f a2 w2 hs hd hr hlo hc
          have d11 := ev_of (show a2.eval (.tmp 11) = .pointer (some ⟨rb, 4, none⟩) from hd ⟨4, .data⟩ (by simp) rfl 11 rfl)
          have cN := hc.cN hs
          clear hd hr hlo hc hs
          go_simp
        · intro _ s f a2 w2 hs hd hr hlo hc
          have d0 := ev_of (show a2.eval (.tmp 0) = .pointer (some ⟨rb, 0, none⟩) from hr 0 (by decide))
          clear hd hr hlo hc hs
          go_simp
        · intro _ s f a2 w2 hs hd hr hlo hc
          have d0 := ev_of (show a2.eval (.tmp 0) = .pointer (some ⟨rb, 0, none⟩) from hr 0 (by decide))
          clear hd hr hlo hc hs
          go_simp
        · exact fun h => absurd (by decide) h
        · intro _ s f a2 w2 hs hd hr hlo hc
          have c1 : f 15 = .agg #[.int .i64 (tk : Nat), .string tx, .int .i64 (tn : Nat), .int .i64 (tp : Nat)] := hc.c15 (hlo ⟨8, .data⟩ (by simp) rfl 0 (by decide) rfl)
          have d15 := ev_of (show a2.eval (.tmp 15) = f 15 from hd ⟨8, .data⟩ (by simp) rfl 15 rfl)
          rw [c1] at d15
          have hfd := tok_f0 (.int .i64 (tk : Nat)) (.string tx) (.int .i64 (tn : Nat)) (.int .i64 (tp : Nat))
          clear hd hr hlo hc hs
          go_simp
        · intro _ s f a2 w2 hs hd hr hlo hc
          have d16 := ev_of (show a2.eval (.tmp 16) = .int .i64 (tk : Nat) from hd ⟨9, .data⟩ (by simp) rfl 16 rfl)
          clear hd hr hlo hc hs
          go_simp
        · exact fun h => absurd (by decide) h
        · intro _ s f a2 w2 hs hd hr hlo hc
          have c1 : f 18 = .agg #[.int .i64 (tk : Nat), .string tx, .int .i64 (tn : Nat), .int .i64 (tp : Nat)] := hc.c18 (hlo ⟨11, .data⟩ (by simp) rfl 1 (by decide) rfl)
          have d18 := ev_of (show a2.eval (.tmp 18) = f 18 from hd ⟨11, .data⟩ (by simp) rfl 18 rfl)
          rw [c1] at d18
          have hfd := tok_f2 (.int .i64 (tk : Nat)) (.string tx) (.int .i64 (tn : Nat)) (.int .i64 (tp : Nat))
          clear hd hr hlo hc hs
          go_simp
        · exact fun h => absurd (by decide) h
        · exact fun h => absurd (by decide) h
        · intro _ s f a2 w2 hs hd hr hlo hc
          have d7 := ev_of (show a2.eval (.tmp 7) = .pointer (some ⟨rb, 0, none⟩) from hd ⟨0, .data⟩ (by simp) rfl 7 rfl)
          clear hd hr hlo hc hs
          go_simp
        · intro _ s f a2 w2 hs hd hr hlo hc
          have d22 := ev_of (show a2.eval (.tmp 22) = .pointer (some ⟨rb, 0, none⟩) from hd ⟨15, .data⟩ (by simp) rfl 22 rfl)
          clear hd hr hlo hc hs
          go_simp
        · intro _ s f a2 w2 hs hd hr hlo hc
          have d23 := ev_of (show a2.eval (.tmp 23) = .pointer (some ⟨rb, 2, none⟩) from hd ⟨16, .data⟩ (by simp) rfl 23 rfl)
          clear hd hr hlo hc hs
          go_simp
        · exact fun h => absurd (by decide) h
        · trivial
      · intro s hs o ho f a2 w2 hd hr hdef hc
        match s, hs with
        | 0, _ =>
          obtain rfl := Option.some.inj ho
          have d14 := ev_of (show a2.eval (.tmp 14) = .pointer (some ⟨rb, 0, none⟩) from hd ⟨7, .data⟩ (by simp) rfl 14 rfl)
          obtain rfl := hc.s0 rfl
          have HN := Lib.hid (next_val HR0.out)
          rw [ht] at HN
          clear hd hr hdef
          go_simp
          refine HN.out.mono ?_
          rintro e1 w1 ⟨rfl, hw1⟩
          have hb1 : Below wr.drew.heap.size wr.drew w1 := by rw [hw1]; exact (Below.refl _ _).alloc (Nat.le_refl _) _
          exact ⟨_, rfl, fun _ => rfl, fun q => absurd q (by decide), fun _ => (HR0.out.up hb1).blk.cell 4, fun q => absurd q (by decide), fun _ => hb1, fun q => absurd q (by decide), fun q => absurd q (by decide), fun q => absurd q (by decide), fun q => absurd q (by decide), fun q => absurd q (by decide)⟩
        | 1, _ =>
          obtain rfl := Option.some.inj ho
          have d13 := ev_of (show a2.eval (.tmp 13) = .pointer (some ⟨rb, 0, none⟩) from hd ⟨6, .data⟩ (by simp) rfl 13 rfl)
          have d17 := ev_of (show a2.eval (.tmp 17) = .bool ((tk : Int) == 2) from hd ⟨10, .data⟩ (by simp) rfl 17 rfl)
          have hb1 := hc.s1 rfl
          have HDF : a2.defers = [] := hdef
          have HC15 := hc.c15 (by decide)
          have HR1 := Lib.hid (HR0.out.up hb1)
          have HB1 := Lib.hid hb1
          clear hd hr hdef hc hb1
          by_cases hk : tk = 2
          · subst hk
            obtain ⟨r, rfl⟩ : ∃ r, ts' = ⟨2, tx, tn, tp⟩ :: r := by
              cases ts' with
              | nil => cases ht
              | cons t r => exact ⟨r, by rw [show t = _ from ht]⟩
            have HQ := Lib.hid (need_ok HR1.out)
            have d17' : a2.tmps[17]?.getD undef = .bool true := d17
            clear d17
            go_simp
            refine HQ.out.mono ?_
            rintro e2 w3 ⟨rfl, hr2, hg2⟩
            exact ⟨_, rfl, fun _ => HC15, fun _ => rfl, fun _ => hr2.blk.cell 4, fun q => absurd q (by decide), fun q => absurd q (by decide), fun _ => ⟨rfl, r, rfl⟩, fun _ => ⟨hr2, (Gr.of_below (r2 := none) HB1.out).trans hg2 (.inl rfl)⟩, fun q => absurd q (by decide), fun q => absurd q (by decide), fun q => absurd q (by decide)⟩
          · have HQ := Lib.hid (need_no HR1.out)
            have f1 : ((tk : Int) == 2) = false := by rw [beq_eq_false_iff_ne]; omega
            rw [f1] at d17
            go_simp
            refine HQ.out.mono ?_
            rintro e2 w3 ⟨rfl, hb2⟩
            have HP1 := HCT.out _ _ _ ((no_num (by rw [ht]; exact hk) (hr0.out) (below_trans' HU0.out (below_trans' HB1.out hb2))).fail (p2 := rep (many - j - 1)) (HMZ.out (by rw [ht]; exact hk)))
            rw [← rep_split hlt] at HP1
            exact ⟨HDF, HP1⟩
        | 2, _ =>
          obtain rfl := Option.some.inj ho
          have d19 := ev_of (show a2.eval (.tmp 19) = .int .i64 (tn : Nat) from hd ⟨12, .data⟩ (by simp) rfl 19 rfl)
          have HC15 := hc.c15 (by decide)
          have HC18 := hc.c18 (by decide)
          have HC2 := Lib.hid (hc.s2 (by decide))
          have HC3 := Lib.hid (hc.s3 rfl)
          clear hd hr hdef hc
          go_simp
          exact ⟨_, rfl, fun _ => HC15, fun _ => HC18, fun _ => (HC3.out.1.up ((Below.refl w2.heap.size w2).alloc (Nat.le_refl _) _)).blk.cell 4, fun q => absurd q (by decide), fun q => absurd q (by decide), fun _ => HC2.out, fun q => absurd q (by decide), fun _ => ⟨HC3.out.1.up ((Below.refl w2.heap.size w2).alloc (Nat.le_refl _) _), HC3.out.2.alloc _, _, _, rfl, rd_fresh w2 3 #[.int .i64 (tn : Nat)] 1 1 [.int .i64 (tn : Nat)] rfl rfl⟩, fun q => absurd q (by decide), fun q => absurd q (by decide)⟩
        | 3, _ =>
          obtain rfl := Option.some.inj ho
          have d12 := ev_of (show a2.eval (.tmp 12) = .slice NA ns'.length nc from hd ⟨5, .data⟩ (by simp) rfl 12 rfl)
          have d20' : a2.eval (.tmp 20) = f 20 := hd ⟨13, .data⟩ (by simp) rfl 20 rfl
          have HC15 := hc.c15 (by decide)
          have HC18 := hc.c18 (by decide)
          have HC2 := Lib.hid (hc.s2 (by decide))
          obtain ⟨hr3, hg3, Ad, B, hf20, hrd⟩ := hc.s4 rfl
          refine append_wp rfl (.tmp 12) (.tmp 20) _ rfl wP.heap.size 3 i0 _ 1 8 Tryd.underlying38 hi hz0 hz1 hz2 rfl (by decide) _ ns'.length _ (hd ⟨5, .data⟩ (by simp) rfl 12 rfl) hr3.own _ Ad 1 1 _ (d20'.trans hf20) hrd (fun u hu => by rw [List.mem_singleton.1 hu]; rfl) (by simp only [maxLen]; omega) (by omega) hr3.bel.size ?_
          intro A5 c5 w5 hown hfm hg hblk
          exact ⟨_, rfl, fun _ => HC15, fun _ => HC18, fun q => absurd q (by decide), fun q => absurd q (by decide), fun q => absurd q (by decide), fun _ => HC2.out, fun q => absurd q (by decide), fun q => absurd q (by decide), fun _ => ⟨A5, c5, _, rfl, hr3, hg3, hg, hown, hblk⟩, fun q => absurd q (by decide)⟩
        | 4, _ =>
          obtain rfl := Option.some.inj ho
          obtain ⟨A5, c5, W1, hf21, hr5, hg5, hgb, hown, hblk⟩ := hc.s5 rfl
          have d24 := ev_of (show a2.eval (.tmp 24) = .pointer (some ⟨rb, 4, none⟩) from hd ⟨17, .data⟩ (by simp) rfl 24 rfl)
          have d21 := ev_of ((show a2.eval (.tmp 21) = f 21 from hd ⟨14, .data⟩ (by simp) rfl 21 rfl).trans hf21)
          have HC15 := hc.c15 (by decide)
          have HC18 := hc.c18 (by decide)
          have HC2 := Lib.hid (hc.s2 (by decide))
          have hbl := hr5.blk.grown hgb (fun q => own_ne hr5.own hr5.blk q.symm)
          have m0 := hbl.cell 4
          have m1 := hbl.frozen 4
          have HP5 : Hid (Post wP rb e [[35]] ts' K nm' (.slice NA ns'.length nc) ns' at_ wr.drew (.returned (.tuple #[])) (w2.setCell ⟨rb, 4, none⟩ (.slice A5 (ns'.length + 1) c5))) := by
            obtain ⟨hk, r, rfl⟩ := HC2.out
            exact Lib.hid (one_num hk hr5 hg5 hgb hown hblk)
          clear hd hr hdef hc hbl hf21 hr5 hg5 hgb hown hblk
          go_simp
          exact ⟨fun _ => HC15, fun _ => HC18, fun q => absurd q (by decide), fun q => absurd q (by decide), fun q => absurd q (by decide), fun _ => HC2.out, fun q => absurd q (by decide), fun q => absurd q (by decide), fun q => absurd q (by decide), fun _ => HP5.out⟩
        | s + 5, hs => exact absurd hs (by simp)
      · intro f a2 w2 hdef hsz hr hc
        have HP5 := Lib.hid (hc.s6 rfl)
        obtain ⟨tm, df⟩ := a2
        obtain ⟨t0, t1, t2, t3, t4, t5, t6, t7, t8, t9, t10, t11, t12, t13, t14, t15, t16, t17, t18, t19, t20, t21, t22, t23, t24, t25, rfl⟩ := arr26 hsz
        obtain rfl : df = [] := hdef
        obtain rfl := (show t0 = Value.pointer (some ⟨rb, 0, none⟩) from hr 0 (by decide))
        obtain rfl := (show t1 = Value.int .i64 (many : Nat) from hr 1 (by decide))
        obtain rfl := (show t2 = undef from hr 2 (by decide))
        obtain rfl := (show t3 = undef from hr 3 (by decide))
        obtain rfl := (show t4 = Value.int .i64 (many : Nat) from hr 4 (by decide))
        obtain rfl := (show t5 = i64 (j : Nat) from hr 5 (by decide))
        clear hr hsz hc
        rename_i Q1 K1 hK
        refine hK _ _ ?_
        clear hK
        go_wp2_with fail
        refine ⟨⟨j + 1, hlt, rfl, Lib.hid ?_⟩, ?_⟩
        · rw [rep_succ]
          exact HCT.out _ _ _ (HP5.out.start (Gr.of_below HU0.out))
        · show many - ((j : Int) + 1).toNat < many - ((j : Int)).toNat
          omega
    · have hlt' : ¬ (j : Int) < (many : Int) := by omega
      obtain rfl : j = many := by omega
      go_wp2_with fail
      go_end0
      exact HP.out
end Go.Proofs.YtbgekgakamincaaDoor.Ps

/- The reader's pairs; what a form's parts do one behind the other. -/
namespace Go.Proofs.YtbgekgakamincaaDoor.Ps
open Go.RowKit Go.Proofs.YtbgekgakamincaaDoor.Lx Go.Proofs.YtbgekgakamincaaDoor.Pr
set_option linter.unusedVariables false

theorem nsB_len : ∀ (neg : Bool) (ts : List Tok) (ps : List (List UInt8)), (nsB neg ts ps).length ≤ ps.length
  | neg, t :: ts, p :: ps => by
    simp only [nsB]
    split
    · simp only [List.length_cons]; have := nsB_len false ts ps; omega
    · simp only [List.length_cons]; have := nsB_len (decide (p = [100]) && t.text.data.toList == bSlow) ts ps; omega
  | neg, [], ps => by simp [nsB]
  | neg, t :: ts, [] => by simp [nsB]
theorem own_ne_t {W : World} {b base n : Nat} {t : TypeId} {v : Value} {xs : List Value} {cs : Array Value} (h : W.ownsRow base 3 1 v n xs) (hb : Blk W b t cs) (ht : t ≠ 3) : v.ownBlock ≠ some b := by
  rcases h.2 with ⟨rfl, _⟩ | ⟨g, cap, cur, rfl, _, hg, _⟩
  · simp [Value.ownBlock]
  · intro e
    have e2 : g = b := by simpa [Value.ownBlock] using e
    subst e2
    have hb' : W.heap[g]? = some (.cells cs t (0, 0)) := hb
    rw [hg] at hb'
    injection hb' with hb'
    injection hb' with _ hb'
    exact absurd hb'.symm ht
theorem blk_ne {W : World} {a b : Nat} {t t' : TypeId} {cs cs' : Array Value} (h : Blk W a t cs) (h' : Blk W b t' cs') (ht : t ≠ t') : a ≠ b := by
  intro e
  subst e
  have h1 : W.heap[a]? = some (.cells cs t (0, 0)) := h
  have h2 : W.heap[a]? = some (.cells cs' t' (0, 0)) := h'
  rw [h1] at h2
  injection h2 with h2
  injection h2 with _ h2
  exact ht h2
section
variable {wP W W1 W2 : World} {rb e : Nat} {ps p1 p2 : List (List UInt8)} {ts : List Tok} {K : Int} {nm : ByteArray} {NV : Value} {ns : List Int} {at_ : Int} {e1 e2 : Ending}
/-- What a part leaves: it goes on, or all ends. -/
theorem Post.cases (h : Post wP rb e p1 ts K nm NV ns at_ W e1 W1) (hl : p1.getLast? ≠ some [100]) :
    (e1 = .returned (.tuple #[]) ∧ matchB ts p1 = p1.length ∧ ∃ A' n' c' nm' NV' ns', RS wP rb e A' n' c' (ts.drop p1.length) K nm' NV' ns' at_ W1 ∧ ns' = ns ++ nsB false ts p1 ∧ Gr rb NV.ownBlock W W1 ∧
      (∀ e1 W2 p2, Post wP rb e p2 (ts.drop p1.length) K nm' NV' ns' at_ W1 e1 W2 → Post wP rb e (p1 ++ p2) ts K nm NV ns at_ W e1 W2)) ∨
    (∃ p, e1 = pvE p ∧ ∀ p2, Post wP rb e (p1 ++ p2) ts K nm NV ns at_ W (pvE p) W1) := by
  have h0 := h
  obtain ⟨A', n', c', nm', NV', ns', h1, h2, h3, h4⟩ := h
  rcases h4 with ⟨h5, rfl, h6, h7⟩ | ⟨h5, rfl⟩
  · left
    obtain ⟨hm, A2, n2, c2, nm2, NV2, ns2, g1, g2, g3⟩ := h0.cont hl
    exact ⟨rfl, hm, A2, n2, c2, nm2, NV2, ns2, g1, g2, h2, g3⟩
  · right
    exact ⟨_, rfl, fun p2 => h0.fail h5⟩
end
def pairsP (l : List (List UInt8)) : List (List UInt8) := l.flatMap fun s => [s, [35]]
theorem pairsP_last (l : List (List UInt8)) : (pairsP l).getLast? ≠ some [100] := by
  rcases List.eq_nil_or_concat l with rfl | ⟨l', s, rfl⟩
  · simp [pairsP]
  · unfold pairsP
    rw [List.concat_eq_append, List.flatMap_append, List.getLast?_append]
    simp
theorem pairsP_len (l : List (List UInt8)) : (pairsP l).length = 2 * l.length := by
  unfold pairsP
  induction l with
  | nil => rfl
  | cons a l ih => rw [List.flatMap_cons, List.length_append, ih, List.length_cons, List.length_cons, List.length_cons, List.length_nil]; omega
theorem pairsP_split {l : List (List UInt8)} {j : Nat} (h : j < l.length) : pairsP l = pairsP (l.take j) ++ ([l[j]] ++ ([[35]] ++ pairsP (l.drop (j + 1)))) := by
  conv => lhs; rw [← List.take_append_drop j l, List.drop_eq_getElem_cons h]
  unfold pairsP
  rw [List.flatMap_append, List.flatMap_cons]
  rfl
theorem pairsP_take {l : List (List UInt8)} {j : Nat} (h : j < l.length) : pairsP (l.take (j + 1)) = pairsP (l.take j) ++ ([l[j]] ++ [[35]]) := by
  rw [List.take_succ_eq_append_getElem h]
  unfold pairsP
  rw [List.flatMap_append]
  rfl
def strV (s : List UInt8) : Value := .string ⟨s.toArray⟩
set_option maxRecDepth 100000 in
set_option maxHeartbeats 2000000 in
theorem pairs_val {wP W : World} {rb e n c b : Nat} {A : Option Addr} {ts : List Tok} {K : Int} {nm : ByteArray} {NV : Value} {ns : List Int} {at_ : Int} (l : List (List UInt8)) (hl : ∀ s ∈ l, s ≠ [35] ∧ s ≠ [110] ∧ s ≠ [100] ∧ s ≠ []) (hll : l.length ≤ 4) (hnl : ns.length ≤ 8) (hw : Wf ts)
    (hb : Blk W b 9 (l.map strV).toArray) (h : RS wP rb e A n c ts K nm NV ns at_ W) :
    Calls Tryd.prog 51 #[.pointer (some ⟨rb, 0, none⟩), .slice (some ⟨b, 0, none⟩) l.length l.length] W (Post wP rb e (pairsP l) ts K nm NV ns at_ W) := by
  have HS := Lib.hid h
  have HB := Lib.hid hb
  have HNE := Lib.hid (own_ne_t h.own hb (by decide))
  have HRB := Lib.hid (blk_ne hb h.blk (by decide))
  have HL := Lib.hid hl
  clear h hb hl
  go_enter Tryd.func51, Tryd.ntmps51
  go_wp2_with fail
  go_loopw [8] (fun i wr => ∃ j : Nat, j ≤ l.length ∧ i = i64 (j : Nat) ∧ Hid (Post wP rb e (pairsP (l.take j)) ts K nm NV ns at_ W (.returned (.tuple #[])) wr)) (fun i _ => l.length - (intOf i).toNat)
  case atStart => exact ⟨0, Nat.zero_le _, rfl, Lib.hid HS.out.post0⟩
  case round =>
    obtain ⟨j, hj, rfl, HP⟩ := hrel
    by_cases hlt : j < l.length
    · have hlt' : (j : Int) < (l.length : Int) := by omega
      obtain ⟨hmj, A', n', c', nm', NV', ns', hr, hnl', hct⟩ := HP.out.cont (pairsP_last _)
      have hgr : Gr rb NV.ownBlock W wr := by
        obtain ⟨_, _, _, _, _, _, _, q, _⟩ := HP.out
        exact q
      have hnl2 : ns'.length ≤ 16 := by
        rw [hnl', List.length_append]
        have := nsB_len false ts (pairsP (l.take j))
        rw [pairsP_len, List.length_take] at this
        omega
      have hbj := hgr.blk HB.out HRB.out (Ne.symm HNE.out)
      have cS : wr.cell? ⟨b, j, none⟩ = some (strV l[j]) := by
        have := hbj.cell j
        rwa [List.getElem?_toArray, List.getElem?_map, List.getElem?_eq_getElem hlt] at this
      obtain ⟨s35, s110, s100, s0⟩ := HL.out l[j] (List.getElem_mem hlt)
      obtain ⟨s, hs⟩ : ∃ s, l[j] = s := ⟨_, rfl⟩
      have HSP := Lib.hid (pairsP_split hlt)
      have HST := Lib.hid (pairsP_take hlt)
      rw [hs] at s35 s110 s100 s0 cS HSP HST
      have HWD := Lib.hid (word_val s s35 s110 s100 s0 (hw.drop _) hr)
      have HCT := Lib.hid hct
      have HR := Lib.hid hr
      unfold strV at cS
      clear hmj hr hnl' hct hgr hbj
      go_wp2_with fail
      refine HWD.out.mono ?_
      intro e1 w1 hp1
      rcases hp1.cases (by simpa using s100) with ⟨rfl, hm1, A1, n1, c1, nm1, NV1, ns1, hr1, hn1, hg1, hc1⟩ | ⟨p, rfl, hf⟩
      · have hnl1 : ns1.length ≤ 17 := by
          rw [hn1, List.length_append]
          have := nsB_len false (ts.drop (pairsP (l.take j)).length) [s]
          rw [List.length_singleton] at this
          omega
        have HN := Lib.hid (nums_val 1 (by omega) (by omega) ((hw.drop _).drop _) hr1)
        have HC1 := Lib.hid hc1
        clear hm1 hr1 hn1 hg1 hc1 hp1
        go_wp2_with fail
        refine HN.out.mono ?_
        intro e2 w2 hp2
        have hq : Post wP rb e [[35]] _ K nm1 NV1 ns1 at_ w1 e2 w2 := hp2
        rcases hq.cases (by decide) with ⟨rfl, hm2, A2, n2, c2, nm2, NV2, ns2, hr2, hn2, hg2, hc2⟩ | ⟨p, rfl, hf⟩
        · have HP2 := Lib.hid (HCT.out _ _ _ (HC1.out _ _ _ hq))
          clear hm2 hr2 hn2 hg2 hc2 hq hp2
          go_wp2_with fail
          refine ⟨⟨j + 1, hlt, rfl, Lib.hid ?_⟩, ?_⟩
          · rw [HST.out]; exact HP2.out
          · show l.length - ((j : Int) + 1).toNat < l.length - ((j : Int)).toNat
            omega
        · refine ⟨rfl, ?_⟩
          rw [HSP.out]
          exact HCT.out _ _ _ (HC1.out _ _ _ (hf _))
      · refine ⟨rfl, ?_⟩
        rw [HSP.out]
        exact HCT.out _ _ _ (hf _)
    · have hlt' : ¬ (j : Int) < (l.length : Int) := by omega
      obtain rfl : j = l.length := by omega
      go_wp2_with fail
      go_end0
      have := HP.out
      rwa [List.take_length] at this
end Go.Proofs.YtbgekgakamincaaDoor.Ps

/- The reader's drift. -/
namespace Go.Proofs.YtbgekgakamincaaDoor.Ps
open Go.RowKit Go.Proofs.YtbgekgakamincaaDoor.Lx Go.Proofs.YtbgekgakamincaaDoor.Pr
set_option linter.unusedVariables false

section
variable {wP W W1 W2 : World} {rb e : Nat} {ps ps' : List (List UInt8)} {ts : List Tok} {K : Int} {nm : ByteArray} {NV : Value} {ns : List Int} {at_ : Int} {e1 : Ending}
theorem Post.conv (h : Post wP rb e ps ts K nm NV ns at_ W e1 W1) (hl : ps.length = ps'.length) (hm : matchB ts ps' = matchB ts ps) (hn : nmB nm ts ps' = nmB nm ts ps) (hs : nsB false ts ps' = nsB false ts ps) : Post wP rb e ps' ts K nm NV ns at_ W e1 W1 := by
  obtain ⟨A', n', c', nm', NV', ns', h1, h2, h3, h4⟩ := h
  refine ⟨A', n', c', nm', NV', ns', by rw [hm]; exact h1, h2, h3, ?_⟩
  rw [hm, ← hl, hn, hs]
  exact h4
theorem Post.conv_fail {p : Nat} (h : Post wP rb e ps ts K nm NV ns at_ W (pvE p) W1) (hl : ps.length = ps'.length) (hm : matchB ts ps' = matchB ts ps) : Post wP rb e ps' ts K nm NV ns at_ W (pvE p) W1 := by
  obtain ⟨A', n', c', nm', NV', ns', h1, h2, h3, h4⟩ := h
  refine ⟨A', n', c', nm', NV', ns', by rw [hm]; exact h1, h2, h3, ?_⟩
  rw [hm, ← hl]
  rcases h4 with ⟨_, q, _⟩ | h4
  · cases q
  · exact .inr h4
theorem Post.up (h : Post wP rb e ps ts K nm NV ns at_ W e1 W1) (hb : Below W1.heap.size W1 W2) : Post wP rb e ps ts K nm NV ns at_ W e1 W2 := by
  obtain ⟨A', n', c', nm', NV', ns', h1, h2, h3, h4⟩ := h
  exact ⟨A', n', c', nm', NV', ns', h1.up hb, h2.trans (Gr.of_below hb (r2 := none)) (.inl rfl), h3, h4⟩
end
theorem fits_dir {t : Tok} (h : WfT t) (s : List UInt8) (hs : s = bFast ∨ s = bSlow) (hd : t.text.data.toList = bSlow ↔ s = bSlow) : fitsB t [100] = fitsB t s := by
  have h59 : s ≠ [59] := by rcases hs with rfl | rfl <;> decide
  have h0 : s ≠ [] := by rcases hs with rfl | rfl <;> decide
  have h35 : s ≠ [35] := by rcases hs with rfl | rfl <;> decide
  have h110 : s ≠ [110] := by rcases hs with rfl | rfl <;> decide
  have h100 : s ≠ [100] := by rcases hs with rfl | rfl <;> decide
  unfold fitsB
  rw [if_neg (by decide), if_neg (by decide), if_pos rfl, if_neg h35, if_neg h110, if_neg h100]
  by_cases hts : t.text.data.toList = s
  · have h2 : t.kind ≠ 2 := fun q => h0 (by rw [← hts, h.w2 q])
    have h3 : t.kind ≠ 3 := fun q => h59 (by rw [← hts, h.w3 q])
    have h1 := (h.w1 h2 h3).1
    rw [decide_eq_true h1, decide_eq_true h2, hts, beq_self_eq_true]
    rcases hs with rfl | rfl <;> rfl
  · have e1 : (t.text.data.toList == s) = false := beq_eq_false_iff_ne.2 hts
    have e2 : (t.text.data.toList == bFast || t.text.data.toList == bSlow) = false := by
      rw [Bool.or_eq_false_iff, beq_eq_false_iff_ne, beq_eq_false_iff_ne]
      rcases hs with rfl | rfl
      · exact ⟨hts, fun q => absurd (hd.1 q) (by decide)⟩
      · exact ⟨fun q => hts (by
          exfalso
          exact hts (hd.2 rfl)), hts⟩
    rw [e1, e2, Bool.and_false, Bool.and_false]
theorem dir_match {ts : List Tok} (h : Wf ts) (s : List UInt8) (hs : s = bFast ∨ s = bSlow) (hd : txtB ts.head? = bSlow ↔ s = bSlow) (ps : List (List UInt8)) : matchB ts ([100] :: ps) = matchB ts (s :: ps) := by
  cases ts with
  | nil => rfl
  | cons t r => simp only [matchB]; rw [fits_dir (h t (List.mem_cons_self ..)) s hs hd]
theorem dir_nm (ts : List Tok) (nm : ByteArray) (s : List UInt8) (hs : s = bFast ∨ s = bSlow) (ps : List (List UInt8)) : nmB nm ts ([100] :: ps) = nmB nm ts (s :: ps) := by
  cases ts with
  | nil => rfl
  | cons t r => simp only [nmB]; rw [if_neg (by decide), if_neg (by rcases hs with rfl | rfl <;> decide)]
theorem dir_ns (ts : List Tok) (hd : txtB ts.head? ≠ bSlow) (ps : List (List UInt8)) : nsB false ts ([100] :: ps) = nsB false ts (bFast :: ps) := by
  cases ts with
  | nil => rfl
  | cons t r =>
    simp only [nsB]
    rw [if_neg (by decide), if_neg (by decide), show (t.text.data.toList == bSlow) = false from beq_eq_false_iff_ne.2 hd, Bool.and_false, Bool.and_false]
/-- The number behind a direction, turned. -/
theorem turned {wP W W1 : World} {rb e : Nat} {ts : List Tok} {K : Int} {nm : ByteArray} {NV : Value} {ns : List Int} {at_ : Int} (hw : Wf ts) (hd : txtB ts.head? = bSlow) (h : Post wP rb e [bSlow, [35]] ts K nm NV ns at_ W (.returned (.tuple #[])) W1) :
    ∃ g cap x, 0 ≤ x ∧ x ≤ 1000000000 ∧ W1.cell? ⟨rb, 4, none⟩ = some (.slice (some ⟨g, 0, none⟩) (ns.length + 1) cap) ∧ W1.cell? ⟨g, ns.length, none⟩ = some (.int .i64 x) ∧ W1.frozen? ⟨g, ns.length, none⟩ = false ∧
      ∀ W2, Below W1.heap.size W1 W2 → Post wP rb e [[100], [35]] ts K nm NV ns at_ W (.returned (.tuple #[])) (W2.setCell ⟨g, ns.length, none⟩ (.int .i64 (-x))) := by
  obtain ⟨A', n', c', nm', NV', ns', h1, h2, h3, h4⟩ := h
  obtain ⟨h5, h6, h7⟩ : matchB ts [bSlow, [35]] = [bSlow, [35]].length ∧ nm' = nmB nm ts [bSlow, [35]] ∧ ns' = ns ++ nsB false ts [bSlow, [35]] := by
    rcases h4 with ⟨a, _, b, c⟩ | ⟨_, q⟩
    · exact ⟨a, b, c⟩
    · cases q
  have hm : matchB ts [[100], [35]] = matchB ts [bSlow, [35]] := dir_match hw bSlow (.inr rfl) (by rw [hd]) _
  obtain ⟨t0, t1, r, rfl⟩ : ∃ t0 t1 r, ts = t0 :: t1 :: r := by
    have := (matchB_le ts [bSlow, [35]]).2
    rw [h5] at this
    match ts, this with
    | t0 :: t1 :: r, _ => exact ⟨t0, t1, r, rfl⟩
  have e1 : nsB false (t0 :: t1 :: r) [bSlow, [35]] = [(t1.n : Int)] := by
    simp only [nsB]
    rw [if_neg (by decide), if_pos trivial, show (decide (bSlow = [100])) = false from by decide, Bool.false_and]
    rfl
  have e2 : nsB false (t0 :: t1 :: r) [[100], [35]] = [-(t1.n : Int)] := by
    simp only [nsB]
    rw [if_neg (by decide), if_pos trivial, show (t0.text.data.toList == bSlow) = true from beq_iff_eq.2 hd, decide_eq_true trivial, Bool.true_and]
    rfl
  rw [e1] at h7
  subst h7
  have hown := h1.own
  obtain ⟨NA, cap, rfl, hNA⟩ := own_form hown
  obtain ⟨g, rfl⟩ := hNA (by simp)
  have hlen : (ns ++ [(t1.n : Int)]).length = ns.length + 1 := by simp
  have hn1 := (hw t1 (by simp)).n
  have hne := own_ne hown h1.blk
  have hgne : g ≠ rb := fun q => hne (by rw [q]; rfl)
  have hgb := own_block hown g rfl
  have hk : ns.length < (ns ++ [(t1.n : Int)]).length := by omega
  have hc := hown.cellAt ns.length (by omega)
  have hmapg : ((ns ++ [(t1.n : Int)]).map iv)[ns.length]? = some (.int .i64 (t1.n : Int)) := by simp [iv]
  refine ⟨g, cap, (t1.n : Int), by omega, by omega, ?_, ?_, ?_, fun W2 hb => ?_⟩
  · have := h1.blk.cell 4
    rw [← hlen]; exact this
  · rw [hc]; exact hmapg
  · exact hown.frozenAt ns.length
  · have h1' := h1.up hb
    obtain ⟨ho2, hg2⟩ := h1'.own.stored ns.length (.int .i64 (-(t1.n : Int)))
    have hblk := h1'.blk.far (p := ⟨g, ns.length, none⟩) (Ne.symm hgne) (.int .i64 (-(t1.n : Int)))
    have hbel := h1'.bel.setCell (p := ⟨g, ns.length, none⟩) hgb.1 (.int .i64 (-(t1.n : Int)))
    refine ⟨A', n', c', nm', .slice (some ⟨g, 0, none⟩) (ns ++ [(t1.n : Int)]).length cap, ns ++ [-(t1.n : Int)], ?_, ?_, h3, .inl ⟨by rw [hm]; exact h5, rfl, ?_, by rw [e2]⟩⟩
    · rw [hm]
      refine ⟨hbel, h1'.toks, ?_, ?_, h1'.ge⟩
      · exact hblk
      · have : (List.map iv (ns ++ [(t1.n : Int)])).set ns.length (.int .i64 (-(t1.n : Int))) = List.map iv (ns ++ [-(t1.n : Int)]) := by
          rw [List.map_append, List.map_append, List.set_append_right _ _ (by simp)]
          simp [iv]
        rw [this] at ho2
        simpa using ho2
    · have hg3 : Gr rb NV.ownBlock W W2 := h2.trans (Gr.of_below hb (r2 := none)) (.inl rfl)
      refine ⟨hg3.os, hg3.tape, hg3.output, by rw [World.size_setCell]; exact hg3.size, fun k hk hr hr2 => ?_⟩
      rw [Below.heap_setCell W2 ⟨g, ns.length, none⟩ _ k, hg3.block k hk hr hr2]
      intro q
      have q' : k = g := q
      rcases h3 with h | ⟨k', h, hk'⟩
      · exact hr2 (by rw [← h, q']; rfl)
      · have : g = k' := by simpa [Value.ownBlock] using h
        omega
    · rw [h6]; exact (dir_nm _ _ bSlow (.inr rfl) _).symm
set_option maxRecDepth 100000 in
set_option maxHeartbeats 2000000 in
theorem drift_val {wP W : World} {rb e n c : Nat} {A : Option Addr} {ts : List Tok} {K : Int} {nm : ByteArray} {NV : Value} {ns : List Int} {at_ : Int} (hnl : ns.length ≤ 16) (hw : Wf ts) (h : RS wP rb e A n c ts K nm NV ns at_ W) :
    Calls Tryd.prog 55 #[.pointer (some ⟨rb, 0, none⟩)] W (Post wP rb e [[100], [35]] ts K nm NV ns at_ W) := by
  have HN := Lib.hid (next_val h)
  have hbw : Below W.heap.size W (W.alloc (.cells (tokA (nextT ts e)) 45)) := (Below.refl _ W).alloc (Nat.le_refl _) _
  have HB := Lib.hid hbw
  have H1 := Lib.hid (h.up hbw)
  have htx : txtB ts.head? = (nextT ts e).text.data.toList := by cases ts <;> rfl
  obtain ⟨v, hv0⟩ : ∃ v, ((nextT ts e).text.data.toList == bSlow) = v := ⟨_, rfl⟩
  obtain ⟨t, ht⟩ : ∃ t, nextT ts e = t := ⟨_, rfl⟩
  rw [ht] at HN HB H1 htx hv0
  obtain ⟨tk, tx, tn, tp⟩ := t
  unfold tokA at HN HB H1
  dsimp only at HN HB H1 htx hv0
  have hv : (tx.toList == [115, 108, 111, 119]) = v := by rw [Lib.toList_data]; exact hv0
  have HS := Lib.hid h
  have hfd := tok_f1 (.int .i64 (tk : Nat)) (.string tx) (.int .i64 (tn : Nat)) (.int .i64 (tp : Nat))
  clear h hbw
  go_enter Tryd.func55, Tryd.ntmps55
  go_wp2_with fail
  refine HN.out.mono ?_
  rintro e1 w1 ⟨rfl, hw1⟩
  rw [← hw1] at HB H1
  clear hw1
  cases v with
  | false =>
    have htn : txtB ts.head? ≠ bSlow := by rw [htx]; exact beq_eq_false_iff_ne.1 hv0
    have HCV : Hid (∀ e1 W1, Post wP rb e [bFast, [35]] ts K nm NV ns at_ W e1 W1 → Post wP rb e [[100], [35]] ts K nm NV ns at_ W e1 W1) := Lib.hid (fun e1 W1 q => q.conv rfl (dir_match hw bFast (.inl rfl) (by rw [iff_false_right (show ¬ bFast = bSlow from by decide)]; exact htn) _) (dir_nm _ _ bFast (.inl rfl) _) (dir_ns ts htn _))
    have HWD := Lib.hid (word_val bFast (by decide) (by decide) (by decide) (by decide) hw H1.out)
    unfold bFast at HWD
    rw [show ByteArray.mk (List.toArray [102, 97, 115, 116]) = ⟨#[102, 97, 115, 116]⟩ from rfl] at HWD
    go_wp2_with fail
    refine HWD.out.mono ?_
    intro e2 w2 hp
    rcases hp.cases (by decide) with ⟨rfl, hm1, A1, n1, c1, nm1, NV1, ns1, hr1, hn1, hg1, hc1⟩ | ⟨p, rfl, hf⟩
    · have hnl1 : ns1.length ≤ 17 := by
        rw [hn1, List.length_append]
        have := nsB_len false ts [[102, 97, 115, 116]]
        rw [List.length_singleton] at this
        omega
      have HM := Lib.hid (nums_val 1 (by omega) (by omega) (hw.drop _) hr1)
      have HC1 := Lib.hid hc1
      clear hm1 hr1 hn1 hg1 hc1 hp
      go_wp2_with fail
      refine HM.out.mono ?_
      intro e3 w3 hp2
      have hq : Post wP rb e [[35]] _ K nm1 NV1 ns1 at_ w2 e3 w3 := hp2
      have hz := HC1.out _ _ _ hq
      rcases hq.cases (by decide) with ⟨rfl, _, _⟩ | ⟨p, rfl, hf⟩
      · have HZ := Lib.hid (HCV.out _ _ (hz.start (Gr.of_below HB.out)))
        clear hq hz hp2
        go_wp2_with fail
        go_end0
        exact HZ.out
      · exact ⟨rfl, HCV.out _ _ (hz.start (Gr.of_below HB.out))⟩
    · exact ⟨rfl, HCV.out _ _ ((hf [[35]]).start (Gr.of_below HB.out))⟩
  | true =>
    have HTS : Hid (txtB ts.head? = bSlow) := Lib.hid (by rw [htx]; exact beq_iff_eq.1 hv0)
    have HMM := Lib.hid (dir_match hw bSlow (.inr rfl) (by rw [HTS.out]))
    have HWD := Lib.hid (word_val bSlow (by decide) (by decide) (by decide) (by decide) hw H1.out)
    unfold bSlow at HWD
    rw [show ByteArray.mk (List.toArray [115, 108, 111, 119]) = ⟨#[115, 108, 111, 119]⟩ from rfl] at HWD
    go_wp2_with fail
    refine HWD.out.mono ?_
    intro e2 w2 hp
    rcases hp.cases (by decide) with ⟨rfl, hm1, A1, n1, c1, nm1, NV1, ns1, hr1, hn1, hg1, hc1⟩ | ⟨p, rfl, hf⟩
    · have hnl1 : ns1.length ≤ 17 := by
        rw [hn1, List.length_append]
        have := nsB_len false ts [[115, 108, 111, 119]]
        rw [List.length_singleton] at this
        omega
      have HM := Lib.hid (nums_val 1 (by omega) (by omega) (hw.drop _) hr1)
      have HC1 := Lib.hid hc1
      clear hm1 hr1 hn1 hg1 hc1 hp
      go_wp2_with fail
      refine HM.out.mono ?_
      intro e3 w3 hp2
      have hq : Post wP rb e [[35]] _ K nm1 NV1 ns1 at_ w2 e3 w3 := hp2
      have hz := HC1.out _ _ _ hq
      have hz' := hz.start (Gr.of_below HB.out (rb := rb) (r2 := none))
      rcases hq.cases (by decide) with ⟨rfl, _, _⟩ | ⟨p, rfl, hf⟩
      · obtain ⟨g, cap, x, hx0, hx1, cN, cE, zE, hfin⟩ := turned hw HTS.out hz'
        have HF := Lib.hid hfin
        clear hq hz hp2 hfin hz'
        have k1 : ((ns.length : Int) + 1 - 1) = (ns.length : Int) := by omega
        have k2 : (0 : Int) ≤ (ns.length : Int) := by omega
        have k3 : (ns.length : Int) < (ns.length : Int) + 1 := by omega
        have k4 : IntKind.i64.wrap (ns.length : Int) = (ns.length : Int) := Go.IntWalk.i64_in _ (by omega)
        have k5 : IntKind.i64.wrap (-x) = -x := Go.IntWalk.i64_in _ (by omega)
        go_wp2_with fail
        go_region
        go_wp2_with fail
        go_end0
        exact (HF.out _ (Below.refl _ _)).up (Below.refl _ _).drew
      · exact ⟨rfl, hz'.conv_fail rfl (HMM.out _)⟩
    · exact ⟨rfl, ((hf [[35]]).start (Gr.of_below HB.out)).conv_fail rfl (HMM.out _)⟩
end Go.Proofs.YtbgekgakamincaaDoor.Ps

/- The closures of commands and of events walked. Printed by wip/mk_psforms.py. -/
namespace Go.Proofs.YtbgekgakamincaaDoor.Ps
open Go.RowKit Go.Proofs.YtbgekgakamincaaDoor.Lx Go.Proofs.YtbgekgakamincaaDoor.Pr
set_option linter.unusedVariables false

set_option maxRecDepth 100000 in
set_option maxHeartbeats 2000000 in
theorem c1_val {wP W : World} {rb e n c : Nat} {A : Option Addr} {ts : List Tok} {K : Int} {nm : ByteArray} {NV : Value} {ns : List Int} {at_ : Int} (hnl : ns.length ≤ 2) (hw : Wf ts) (h : RS wP rb e A n c ts K nm NV ns at_ W) :
    Calls Tryd.prog 50 #[.pointer (some ⟨rb, 0, none⟩)] W (Post wP rb e [[100, 97, 116, 97], [35], [114, 97, 110, 103, 101], [35]] ts K nm NV ns at_ W) := by
  have HR0 := Lib.hid h
  have HC0 : Hid (∀ e1 W2 p2, Post wP rb e p2 ts K nm NV ns at_ W e1 W2 → Post wP rb e ([] ++ p2) ts K nm NV ns at_ W e1 W2) := Lib.hid (fun _ _ _ q => q)
  clear h
  go_enter Tryd.func50, Tryd.ntmps50
  have BN0 := Lib.hid (Blk.new W 9 #[.string ⟨#[100, 97, 116, 97]⟩, .string ⟨#[114, 97, 110, 103, 101]⟩])
  have HB0 : Hid (Below W.heap.size W (W.alloc (.cells #[.string ⟨#[100, 97, 116, 97]⟩, .string ⟨#[114, 97, 110, 103, 101]⟩] 9))) := Lib.hid ((Below.refl _ _).alloc (Nat.le_refl _) _)
  have HQ0 := Lib.hid (pairs_val [[100, 97, 116, 97], [114, 97, 110, 103, 101]] (by decide) (by decide) (by omega) (hw.drop 0) BN0.out (HR0.out.up HB0.out))
  go_wp2_with fail
  refine HQ0.out.mono ?_
  intro e1 w1 hq
  have hp : Post wP rb e [[100, 97, 116, 97], [35], [114, 97, 110, 103, 101], [35]] ts K nm NV ns at_ W e1 w1 := hq.start (Gr.of_below HB0.out)
  rcases hp.cases (by decide) with ⟨rfl, hm1, A1, n1, c1, nm1, NV1, ns1, hr1, hn1, hg1, hc1⟩ | ⟨p, rfl, hf⟩
  · have HZ : Hid (Post wP rb e [[100, 97, 116, 97], [35], [114, 97, 110, 103, 101], [35]] ts K nm NV ns at_ W _ _) := Lib.hid (HC0.out _ _ _ hp)
    clear hm1 hr1 hn1 hg1 hc1 hp hq
    go_wp2_with fail
    go_end0
    exact HZ.out
  · exact ⟨rfl, HC0.out _ _ _ (hf [])⟩
set_option maxRecDepth 100000 in
set_option maxHeartbeats 2000000 in
theorem c2_val {wP W : World} {rb e n c : Nat} {A : Option Addr} {ts : List Tok} {K : Int} {nm : ByteArray} {NV : Value} {ns : List Int} {at_ : Int} (hnl : ns.length ≤ 2) (hw : Wf ts) (h : RS wP rb e A n c ts K nm NV ns at_ W) :
    Calls Tryd.prog 52 #[.pointer (some ⟨rb, 0, none⟩)] W (Post wP rb e [[110], [97, 116], [35], [35]] ts K nm NV ns at_ W) := by
  have HR0 := Lib.hid h
  have HC0 : Hid (∀ e1 W2 p2, Post wP rb e p2 ts K nm NV ns at_ W e1 W2 → Post wP rb e ([] ++ p2) ts K nm NV ns at_ W e1 W2) := Lib.hid (fun _ _ _ q => q)
  clear h
  go_enter Tryd.func52, Tryd.ntmps52
  have HQ0 := Lib.hid (name_val (hw.drop 0) HR0.out)
  go_wp2_with fail
  refine HQ0.out.mono ?_
  intro e1 w1 hq
  have hp : Post wP rb e [[110]] ts K nm NV ns at_ W e1 w1 := hq
  rcases hp.cases (by decide) with ⟨rfl, hm1, A1, n1, c1, nm1, NV1, ns1, hr1, hn1, hg1, hc1⟩ | ⟨p, rfl, hf⟩
  · have hnl1 : ns1.length ≤ 3 := by
      rw [hn1, List.length_append]
      have := nsB_len false ts [[110]]
      simp only [List.length_cons, List.length_nil] at this
      omega
    have HR1 : Hid (RS wP rb e A1 n1 c1 (ts.drop 1) K nm1 NV1 ns1 at_ w1) := Lib.hid (by have q := hr1; exact q)
    have HC1 : Hid (∀ e1 W2 p2, Post wP rb e p2 (ts.drop 1) K nm1 NV1 ns1 at_ w1 e1 W2 → Post wP rb e ([[110]] ++ p2) ts K nm NV ns at_ W e1 W2) := Lib.hid (fun e1 W2 p2 q => HC0.out _ _ _ (hc1 _ _ _ (by exact q)))
    clear hm1 hr1 hn1 hg1 hc1 hp hq
    have HQ1 := Lib.hid (word_val [97, 116] (by decide) (by decide) (by decide) (by decide) (hw.drop 1) HR1.out)
    go_wp2_with fail
    refine HQ1.out.mono ?_
    intro e2 w2 hq
    have hp : Post wP rb e [[97, 116]] (ts.drop 1) K nm1 NV1 ns1 at_ w1 e2 w2 := hq
    rcases hp.cases (by decide) with ⟨rfl, hm2, A2, n2, c2, nm2, NV2, ns2, hr2, hn2, hg2, hc2⟩ | ⟨p, rfl, hf⟩
    · have hnl2 : ns2.length ≤ 4 := by
        rw [hn2, List.length_append]
        have := nsB_len false (ts.drop 1) [[97, 116]]
        simp only [List.length_cons, List.length_nil] at this
        omega
      have HR2 : Hid (RS wP rb e A2 n2 c2 (ts.drop 2) K nm2 NV2 ns2 at_ w2) := Lib.hid (by have q := hr2; rw [List.drop_drop] at q; exact q)
      have HC2 : Hid (∀ e1 W2 p2, Post wP rb e p2 (ts.drop 2) K nm2 NV2 ns2 at_ w2 e1 W2 → Post wP rb e ([[110], [97, 116]] ++ p2) ts K nm NV ns at_ W e1 W2) := Lib.hid (fun e1 W2 p2 q => HC1.out _ _ _ (hc2 _ _ _ (by rw [List.drop_drop]; exact q)))
      clear hm2 hr2 hn2 hg2 hc2 hp hq
      have HQ2 := Lib.hid (nums_val 2 (by omega) (by omega) (hw.drop 2) HR2.out)
      go_wp2_with fail
      refine HQ2.out.mono ?_
      intro e3 w3 hq
      have hp : Post wP rb e [[35], [35]] (ts.drop 2) K nm2 NV2 ns2 at_ w2 e3 w3 := hq
      rcases hp.cases (by decide) with ⟨rfl, hm3, A3, n3, c3, nm3, NV3, ns3, hr3, hn3, hg3, hc3⟩ | ⟨p, rfl, hf⟩
      · have HZ : Hid (Post wP rb e [[110], [97, 116], [35], [35]] ts K nm NV ns at_ W _ _) := Lib.hid (HC2.out _ _ _ hp)
        clear hm3 hr3 hn3 hg3 hc3 hp hq
        go_wp2_with fail
        go_end0
        exact HZ.out
      · exact ⟨rfl, HC2.out _ _ _ (hf [])⟩
    · exact ⟨rfl, HC1.out _ _ _ (hf [[35], [35]])⟩
  · exact ⟨rfl, HC0.out _ _ _ (hf [[97, 116], [35], [35]])⟩
set_option maxRecDepth 100000 in
set_option maxHeartbeats 2000000 in
theorem c3_val {wP W : World} {rb e n c : Nat} {A : Option Addr} {ts : List Tok} {K : Int} {nm : ByteArray} {NV : Value} {ns : List Int} {at_ : Int} (hnl : ns.length ≤ 2) (hw : Wf ts) (h : RS wP rb e A n c ts K nm NV ns at_ W) :
    Calls Tryd.prog 54 #[.pointer (some ⟨rb, 0, none⟩)] W (Post wP rb e [[110], [97, 116], [35], [35], [100], [35], [98, 97, 116, 116, 101, 114, 121], [35]] ts K nm NV ns at_ W) := by
  have HR0 := Lib.hid h
  have HC0 : Hid (∀ e1 W2 p2, Post wP rb e p2 ts K nm NV ns at_ W e1 W2 → Post wP rb e ([] ++ p2) ts K nm NV ns at_ W e1 W2) := Lib.hid (fun _ _ _ q => q)
  clear h
  go_enter Tryd.func54, Tryd.ntmps54
  have HQ0 := Lib.hid (name_val (hw.drop 0) HR0.out)
  go_wp2_with fail
  refine HQ0.out.mono ?_
  intro e1 w1 hq
  have hp : Post wP rb e [[110]] ts K nm NV ns at_ W e1 w1 := hq
  rcases hp.cases (by decide) with ⟨rfl, hm1, A1, n1, c1, nm1, NV1, ns1, hr1, hn1, hg1, hc1⟩ | ⟨p, rfl, hf⟩
  · have hnl1 : ns1.length ≤ 3 := by
      rw [hn1, List.length_append]
      have := nsB_len false ts [[110]]
      simp only [List.length_cons, List.length_nil] at this
      omega
    have HR1 : Hid (RS wP rb e A1 n1 c1 (ts.drop 1) K nm1 NV1 ns1 at_ w1) := Lib.hid (by have q := hr1; exact q)
    have HC1 : Hid (∀ e1 W2 p2, Post wP rb e p2 (ts.drop 1) K nm1 NV1 ns1 at_ w1 e1 W2 → Post wP rb e ([[110]] ++ p2) ts K nm NV ns at_ W e1 W2) := Lib.hid (fun e1 W2 p2 q => HC0.out _ _ _ (hc1 _ _ _ (by exact q)))
    clear hm1 hr1 hn1 hg1 hc1 hp hq
    have HQ1 := Lib.hid (word_val [97, 116] (by decide) (by decide) (by decide) (by decide) (hw.drop 1) HR1.out)
    go_wp2_with fail
    refine HQ1.out.mono ?_
    intro e2 w2 hq
    have hp : Post wP rb e [[97, 116]] (ts.drop 1) K nm1 NV1 ns1 at_ w1 e2 w2 := hq
    rcases hp.cases (by decide) with ⟨rfl, hm2, A2, n2, c2, nm2, NV2, ns2, hr2, hn2, hg2, hc2⟩ | ⟨p, rfl, hf⟩
    · have hnl2 : ns2.length ≤ 4 := by
        rw [hn2, List.length_append]
        have := nsB_len false (ts.drop 1) [[97, 116]]
        simp only [List.length_cons, List.length_nil] at this
        omega
      have HR2 : Hid (RS wP rb e A2 n2 c2 (ts.drop 2) K nm2 NV2 ns2 at_ w2) := Lib.hid (by have q := hr2; rw [List.drop_drop] at q; exact q)
      have HC2 : Hid (∀ e1 W2 p2, Post wP rb e p2 (ts.drop 2) K nm2 NV2 ns2 at_ w2 e1 W2 → Post wP rb e ([[110], [97, 116]] ++ p2) ts K nm NV ns at_ W e1 W2) := Lib.hid (fun e1 W2 p2 q => HC1.out _ _ _ (hc2 _ _ _ (by rw [List.drop_drop]; exact q)))
      clear hm2 hr2 hn2 hg2 hc2 hp hq
      have HQ2 := Lib.hid (nums_val 2 (by omega) (by omega) (hw.drop 2) HR2.out)
      go_wp2_with fail
      refine HQ2.out.mono ?_
      intro e3 w3 hq
      have hp : Post wP rb e [[35], [35]] (ts.drop 2) K nm2 NV2 ns2 at_ w2 e3 w3 := hq
      rcases hp.cases (by decide) with ⟨rfl, hm3, A3, n3, c3, nm3, NV3, ns3, hr3, hn3, hg3, hc3⟩ | ⟨p, rfl, hf⟩
      · have hnl3 : ns3.length ≤ 6 := by
          rw [hn3, List.length_append]
          have := nsB_len false (ts.drop 2) [[35], [35]]
          simp only [List.length_cons, List.length_nil] at this
          omega
        have HR3 : Hid (RS wP rb e A3 n3 c3 (ts.drop 4) K nm3 NV3 ns3 at_ w3) := Lib.hid (by have q := hr3; rw [List.drop_drop] at q; exact q)
        have HC3 : Hid (∀ e1 W2 p2, Post wP rb e p2 (ts.drop 4) K nm3 NV3 ns3 at_ w3 e1 W2 → Post wP rb e ([[110], [97, 116], [35], [35]] ++ p2) ts K nm NV ns at_ W e1 W2) := Lib.hid (fun e1 W2 p2 q => HC2.out _ _ _ (hc3 _ _ _ (by rw [List.drop_drop]; exact q)))
        clear hm3 hr3 hn3 hg3 hc3 hp hq
        have HQ3 := Lib.hid (drift_val (by omega) (hw.drop 4) HR3.out)
        go_wp2_with fail
        refine HQ3.out.mono ?_
        intro e4 w4 hq
        have hp : Post wP rb e [[100], [35]] (ts.drop 4) K nm3 NV3 ns3 at_ w3 e4 w4 := hq
        rcases hp.cases (by decide) with ⟨rfl, hm4, A4, n4, c4, nm4, NV4, ns4, hr4, hn4, hg4, hc4⟩ | ⟨p, rfl, hf⟩
        · have hnl4 : ns4.length ≤ 8 := by
            rw [hn4, List.length_append]
            have := nsB_len false (ts.drop 4) [[100], [35]]
            simp only [List.length_cons, List.length_nil] at this
            omega
          have HR4 : Hid (RS wP rb e A4 n4 c4 (ts.drop 6) K nm4 NV4 ns4 at_ w4) := Lib.hid (by have q := hr4; rw [List.drop_drop] at q; exact q)
          have HC4 : Hid (∀ e1 W2 p2, Post wP rb e p2 (ts.drop 6) K nm4 NV4 ns4 at_ w4 e1 W2 → Post wP rb e ([[110], [97, 116], [35], [35], [100], [35]] ++ p2) ts K nm NV ns at_ W e1 W2) := Lib.hid (fun e1 W2 p2 q => HC3.out _ _ _ (hc4 _ _ _ (by rw [List.drop_drop]; exact q)))
          clear hm4 hr4 hn4 hg4 hc4 hp hq
          have BN4 := Lib.hid (Blk.new w4 9 #[.string ⟨#[98, 97, 116, 116, 101, 114, 121]⟩])
          have HB4 : Hid (Below w4.heap.size w4 (w4.alloc (.cells #[.string ⟨#[98, 97, 116, 116, 101, 114, 121]⟩] 9))) := Lib.hid ((Below.refl _ _).alloc (Nat.le_refl _) _)
          have HQ4 := Lib.hid (pairs_val [[98, 97, 116, 116, 101, 114, 121]] (by decide) (by decide) (by omega) (hw.drop 6) BN4.out (HR4.out.up HB4.out))
          go_wp2_with fail
          refine HQ4.out.mono ?_
          intro e5 w5 hq
          have hp : Post wP rb e [[98, 97, 116, 116, 101, 114, 121], [35]] (ts.drop 6) K nm4 NV4 ns4 at_ w4 e5 w5 := hq.start (Gr.of_below HB4.out)
          rcases hp.cases (by decide) with ⟨rfl, hm5, A5, n5, c5, nm5, NV5, ns5, hr5, hn5, hg5, hc5⟩ | ⟨p, rfl, hf⟩
          · have HZ : Hid (Post wP rb e [[110], [97, 116], [35], [35], [100], [35], [98, 97, 116, 116, 101, 114, 121], [35]] ts K nm NV ns at_ W _ _) := Lib.hid (HC4.out _ _ _ hp)
            clear hm5 hr5 hn5 hg5 hc5 hp hq
            go_wp2_with fail
            go_end0
            exact HZ.out
          · exact ⟨rfl, HC4.out _ _ _ (hf [])⟩
        · exact ⟨rfl, HC3.out _ _ _ (hf [[98, 97, 116, 116, 101, 114, 121], [35]])⟩
      · exact ⟨rfl, HC2.out _ _ _ (hf [[100], [35], [98, 97, 116, 116, 101, 114, 121], [35]])⟩
    · exact ⟨rfl, HC1.out _ _ _ (hf [[35], [35], [100], [35], [98, 97, 116, 116, 101, 114, 121], [35]])⟩
  · exact ⟨rfl, HC0.out _ _ _ (hf [[97, 116], [35], [35], [100], [35], [98, 97, 116, 116, 101, 114, 121], [35]])⟩
set_option maxRecDepth 100000 in
set_option maxHeartbeats 2000000 in
theorem c4_val {wP W : World} {rb e n c : Nat} {A : Option Addr} {ts : List Tok} {K : Int} {nm : ByteArray} {NV : Value} {ns : List Int} {at_ : Int} (hnl : ns.length ≤ 2) (hw : Wf ts) (h : RS wP rb e A n c ts K nm NV ns at_ W) :
    Calls Tryd.prog 56 #[.pointer (some ⟨rb, 0, none⟩)] W (Post wP rb e [[35]] ts K nm NV ns at_ W) := by
  have HR0 := Lib.hid h
  have HC0 : Hid (∀ e1 W2 p2, Post wP rb e p2 ts K nm NV ns at_ W e1 W2 → Post wP rb e ([] ++ p2) ts K nm NV ns at_ W e1 W2) := Lib.hid (fun _ _ _ q => q)
  clear h
  go_enter Tryd.func56, Tryd.ntmps56
  have HQ0 := Lib.hid (nums_val 1 (by omega) (by omega) (hw.drop 0) HR0.out)
  go_wp2_with fail
  refine HQ0.out.mono ?_
  intro e1 w1 hq
  have hp : Post wP rb e [[35]] ts K nm NV ns at_ W e1 w1 := hq
  rcases hp.cases (by decide) with ⟨rfl, hm1, A1, n1, c1, nm1, NV1, ns1, hr1, hn1, hg1, hc1⟩ | ⟨p, rfl, hf⟩
  · have HZ : Hid (Post wP rb e [[35]] ts K nm NV ns at_ W _ _) := Lib.hid (HC0.out _ _ _ hp)
    clear hm1 hr1 hn1 hg1 hc1 hp hq
    go_wp2_with fail
    go_end0
    exact HZ.out
  · exact ⟨rfl, HC0.out _ _ _ (hf [])⟩
set_option maxRecDepth 100000 in
set_option maxHeartbeats 2000000 in
theorem e2_val {wP W : World} {rb e n c : Nat} {A : Option Addr} {ts : List Tok} {K : Int} {nm : ByteArray} {NV : Value} {ns : List Int} {at_ : Int} (hnl : ns.length ≤ 2) (hw : Wf ts) (h : RS wP rb e A n c ts K nm NV ns at_ W) :
    Calls Tryd.prog 59 #[.pointer (some ⟨rb, 0, none⟩)] W (Post wP rb e [[35], [35], [114, 97, 100, 105, 117, 115], [35], [99, 104, 97, 110, 110, 101, 108], [35], [102, 111, 114], [35]] ts K nm NV ns at_ W) := by
  have HR0 := Lib.hid h
  have HC0 : Hid (∀ e1 W2 p2, Post wP rb e p2 ts K nm NV ns at_ W e1 W2 → Post wP rb e ([] ++ p2) ts K nm NV ns at_ W e1 W2) := Lib.hid (fun _ _ _ q => q)
  clear h
  go_enter Tryd.func59, Tryd.ntmps59
  have HQ0 := Lib.hid (nums_val 2 (by omega) (by omega) (hw.drop 0) HR0.out)
  go_wp2_with fail
  refine HQ0.out.mono ?_
  intro e1 w1 hq
  have hp : Post wP rb e [[35], [35]] ts K nm NV ns at_ W e1 w1 := hq
  rcases hp.cases (by decide) with ⟨rfl, hm1, A1, n1, c1, nm1, NV1, ns1, hr1, hn1, hg1, hc1⟩ | ⟨p, rfl, hf⟩
  · have hnl1 : ns1.length ≤ 4 := by
      rw [hn1, List.length_append]
      have := nsB_len false ts [[35], [35]]
      simp only [List.length_cons, List.length_nil] at this
      omega
    have HR1 : Hid (RS wP rb e A1 n1 c1 (ts.drop 2) K nm1 NV1 ns1 at_ w1) := Lib.hid (by have q := hr1; exact q)
    have HC1 : Hid (∀ e1 W2 p2, Post wP rb e p2 (ts.drop 2) K nm1 NV1 ns1 at_ w1 e1 W2 → Post wP rb e ([[35], [35]] ++ p2) ts K nm NV ns at_ W e1 W2) := Lib.hid (fun e1 W2 p2 q => HC0.out _ _ _ (hc1 _ _ _ (by exact q)))
    clear hm1 hr1 hn1 hg1 hc1 hp hq
    have BN1 := Lib.hid (Blk.new w1 9 #[.string ⟨#[114, 97, 100, 105, 117, 115]⟩, .string ⟨#[99, 104, 97, 110, 110, 101, 108]⟩, .string ⟨#[102, 111, 114]⟩])
    have HB1 : Hid (Below w1.heap.size w1 (w1.alloc (.cells #[.string ⟨#[114, 97, 100, 105, 117, 115]⟩, .string ⟨#[99, 104, 97, 110, 110, 101, 108]⟩, .string ⟨#[102, 111, 114]⟩] 9))) := Lib.hid ((Below.refl _ _).alloc (Nat.le_refl _) _)
    have HQ1 := Lib.hid (pairs_val [[114, 97, 100, 105, 117, 115], [99, 104, 97, 110, 110, 101, 108], [102, 111, 114]] (by decide) (by decide) (by omega) (hw.drop 2) BN1.out (HR1.out.up HB1.out))
    go_wp2_with fail
    refine HQ1.out.mono ?_
    intro e2 w2 hq
    have hp : Post wP rb e [[114, 97, 100, 105, 117, 115], [35], [99, 104, 97, 110, 110, 101, 108], [35], [102, 111, 114], [35]] (ts.drop 2) K nm1 NV1 ns1 at_ w1 e2 w2 := hq.start (Gr.of_below HB1.out)
    rcases hp.cases (by decide) with ⟨rfl, hm2, A2, n2, c2, nm2, NV2, ns2, hr2, hn2, hg2, hc2⟩ | ⟨p, rfl, hf⟩
    · have HZ : Hid (Post wP rb e [[35], [35], [114, 97, 100, 105, 117, 115], [35], [99, 104, 97, 110, 110, 101, 108], [35], [102, 111, 114], [35]] ts K nm NV ns at_ W _ _) := Lib.hid (HC1.out _ _ _ hp)
      clear hm2 hr2 hn2 hg2 hc2 hp hq
      go_wp2_with fail
      go_end0
      exact HZ.out
    · exact ⟨rfl, HC1.out _ _ _ (hf [])⟩
  · exact ⟨rfl, HC0.out _ _ _ (hf [[114, 97, 100, 105, 117, 115], [35], [99, 104, 97, 110, 110, 101, 108], [35], [102, 111, 114], [35]])⟩
set_option maxRecDepth 100000 in
set_option maxHeartbeats 2000000 in
theorem e3_val {wP W : World} {rb e n c : Nat} {A : Option Addr} {ts : List Tok} {K : Int} {nm : ByteArray} {NV : Value} {ns : List Int} {at_ : Int} (hnl : ns.length ≤ 2) (hw : Wf ts) (h : RS wP rb e A n c ts K nm NV ns at_ W) :
    Calls Tryd.prog 60 #[.pointer (some ⟨rb, 0, none⟩)] W (Post wP rb e [[35], [97, 116], [35], [35]] ts K nm NV ns at_ W) := by
  have HR0 := Lib.hid h
  have HC0 : Hid (∀ e1 W2 p2, Post wP rb e p2 ts K nm NV ns at_ W e1 W2 → Post wP rb e ([] ++ p2) ts K nm NV ns at_ W e1 W2) := Lib.hid (fun _ _ _ q => q)
  clear h
  go_enter Tryd.func60, Tryd.ntmps60
  have HQ0 := Lib.hid (nums_val 1 (by omega) (by omega) (hw.drop 0) HR0.out)
  go_wp2_with fail
  refine HQ0.out.mono ?_
  intro e1 w1 hq
  have hp : Post wP rb e [[35]] ts K nm NV ns at_ W e1 w1 := hq
  rcases hp.cases (by decide) with ⟨rfl, hm1, A1, n1, c1, nm1, NV1, ns1, hr1, hn1, hg1, hc1⟩ | ⟨p, rfl, hf⟩
  · have hnl1 : ns1.length ≤ 3 := by
      rw [hn1, List.length_append]
      have := nsB_len false ts [[35]]
      simp only [List.length_cons, List.length_nil] at this
      omega
    have HR1 : Hid (RS wP rb e A1 n1 c1 (ts.drop 1) K nm1 NV1 ns1 at_ w1) := Lib.hid (by have q := hr1; exact q)
    have HC1 : Hid (∀ e1 W2 p2, Post wP rb e p2 (ts.drop 1) K nm1 NV1 ns1 at_ w1 e1 W2 → Post wP rb e ([[35]] ++ p2) ts K nm NV ns at_ W e1 W2) := Lib.hid (fun e1 W2 p2 q => HC0.out _ _ _ (hc1 _ _ _ (by exact q)))
    clear hm1 hr1 hn1 hg1 hc1 hp hq
    have HQ1 := Lib.hid (word_val [97, 116] (by decide) (by decide) (by decide) (by decide) (hw.drop 1) HR1.out)
    go_wp2_with fail
    refine HQ1.out.mono ?_
    intro e2 w2 hq
    have hp : Post wP rb e [[97, 116]] (ts.drop 1) K nm1 NV1 ns1 at_ w1 e2 w2 := hq
    rcases hp.cases (by decide) with ⟨rfl, hm2, A2, n2, c2, nm2, NV2, ns2, hr2, hn2, hg2, hc2⟩ | ⟨p, rfl, hf⟩
    · have hnl2 : ns2.length ≤ 4 := by
        rw [hn2, List.length_append]
        have := nsB_len false (ts.drop 1) [[97, 116]]
        simp only [List.length_cons, List.length_nil] at this
        omega
      have HR2 : Hid (RS wP rb e A2 n2 c2 (ts.drop 2) K nm2 NV2 ns2 at_ w2) := Lib.hid (by have q := hr2; rw [List.drop_drop] at q; exact q)
      have HC2 : Hid (∀ e1 W2 p2, Post wP rb e p2 (ts.drop 2) K nm2 NV2 ns2 at_ w2 e1 W2 → Post wP rb e ([[35], [97, 116]] ++ p2) ts K nm NV ns at_ W e1 W2) := Lib.hid (fun e1 W2 p2 q => HC1.out _ _ _ (hc2 _ _ _ (by rw [List.drop_drop]; exact q)))
      clear hm2 hr2 hn2 hg2 hc2 hp hq
      have HQ2 := Lib.hid (nums_val 2 (by omega) (by omega) (hw.drop 2) HR2.out)
      go_wp2_with fail
      refine HQ2.out.mono ?_
      intro e3 w3 hq
      have hp : Post wP rb e [[35], [35]] (ts.drop 2) K nm2 NV2 ns2 at_ w2 e3 w3 := hq
      rcases hp.cases (by decide) with ⟨rfl, hm3, A3, n3, c3, nm3, NV3, ns3, hr3, hn3, hg3, hc3⟩ | ⟨p, rfl, hf⟩
      · have HZ : Hid (Post wP rb e [[35], [97, 116], [35], [35]] ts K nm NV ns at_ W _ _) := Lib.hid (HC2.out _ _ _ hp)
        clear hm3 hr3 hn3 hg3 hc3 hp hq
        go_wp2_with fail
        go_end0
        exact HZ.out
      · exact ⟨rfl, HC2.out _ _ _ (hf [])⟩
    · exact ⟨rfl, HC1.out _ _ _ (hf [[35], [35]])⟩
  · exact ⟨rfl, HC0.out _ _ _ (hf [[97, 116], [35], [35]])⟩
set_option maxRecDepth 100000 in
set_option maxHeartbeats 2000000 in
theorem e4_val {wP W : World} {rb e n c : Nat} {A : Option Addr} {ts : List Tok} {K : Int} {nm : ByteArray} {NV : Value} {ns : List Int} {at_ : Int} (hnl : ns.length ≤ 2) (hw : Wf ts) (h : RS wP rb e A n c ts K nm NV ns at_ W) :
    Calls Tryd.prog 61 #[.pointer (some ⟨rb, 0, none⟩)] W (Post wP rb e [[35], [115, 105, 122, 101], [35]] ts K nm NV ns at_ W) := by
  have HR0 := Lib.hid h
  have HC0 : Hid (∀ e1 W2 p2, Post wP rb e p2 ts K nm NV ns at_ W e1 W2 → Post wP rb e ([] ++ p2) ts K nm NV ns at_ W e1 W2) := Lib.hid (fun _ _ _ q => q)
  clear h
  go_enter Tryd.func61, Tryd.ntmps61
  have HQ0 := Lib.hid (nums_val 1 (by omega) (by omega) (hw.drop 0) HR0.out)
  go_wp2_with fail
  refine HQ0.out.mono ?_
  intro e1 w1 hq
  have hp : Post wP rb e [[35]] ts K nm NV ns at_ W e1 w1 := hq
  rcases hp.cases (by decide) with ⟨rfl, hm1, A1, n1, c1, nm1, NV1, ns1, hr1, hn1, hg1, hc1⟩ | ⟨p, rfl, hf⟩
  · have hnl1 : ns1.length ≤ 3 := by
      rw [hn1, List.length_append]
      have := nsB_len false ts [[35]]
      simp only [List.length_cons, List.length_nil] at this
      omega
    have HR1 : Hid (RS wP rb e A1 n1 c1 (ts.drop 1) K nm1 NV1 ns1 at_ w1) := Lib.hid (by have q := hr1; exact q)
    have HC1 : Hid (∀ e1 W2 p2, Post wP rb e p2 (ts.drop 1) K nm1 NV1 ns1 at_ w1 e1 W2 → Post wP rb e ([[35]] ++ p2) ts K nm NV ns at_ W e1 W2) := Lib.hid (fun e1 W2 p2 q => HC0.out _ _ _ (hc1 _ _ _ (by exact q)))
    clear hm1 hr1 hn1 hg1 hc1 hp hq
    have BN1 := Lib.hid (Blk.new w1 9 #[.string ⟨#[115, 105, 122, 101]⟩])
    have HB1 : Hid (Below w1.heap.size w1 (w1.alloc (.cells #[.string ⟨#[115, 105, 122, 101]⟩] 9))) := Lib.hid ((Below.refl _ _).alloc (Nat.le_refl _) _)
    have HQ1 := Lib.hid (pairs_val [[115, 105, 122, 101]] (by decide) (by decide) (by omega) (hw.drop 1) BN1.out (HR1.out.up HB1.out))
    go_wp2_with fail
    refine HQ1.out.mono ?_
    intro e2 w2 hq
    have hp : Post wP rb e [[115, 105, 122, 101], [35]] (ts.drop 1) K nm1 NV1 ns1 at_ w1 e2 w2 := hq.start (Gr.of_below HB1.out)
    rcases hp.cases (by decide) with ⟨rfl, hm2, A2, n2, c2, nm2, NV2, ns2, hr2, hn2, hg2, hc2⟩ | ⟨p, rfl, hf⟩
    · have HZ : Hid (Post wP rb e [[35], [115, 105, 122, 101], [35]] ts K nm NV ns at_ W _ _) := Lib.hid (HC1.out _ _ _ hp)
      clear hm2 hr2 hn2 hg2 hc2 hp hq
      go_wp2_with fail
      go_end0
      exact HZ.out
    · exact ⟨rfl, HC1.out _ _ _ (hf [])⟩
  · exact ⟨rfl, HC0.out _ _ _ (hf [[115, 105, 122, 101], [35]])⟩
end Go.Proofs.YtbgekgakamincaaDoor.Ps
