/- The reader in memory: next, need. -/
import Derived.Test.YtmdogklgbifacaaDoorPsPlain
import Derived.Test.YtmdogklgbifacaaDoorPrA
import Derived.Laws.EntriesVeiled
import Derived.Deep.RegionHeld3
import Derived.WalkSmall
namespace Go.Proofs.YtmdogklgbifacaaDoor.Ps
open Go.RowKit Go.Proofs.YtmdogklgbifacaaDoor.Lx Go.Proofs.YtmdogklgbifacaaDoor.Pr
set_option linter.unusedVariables false

def tokA (t : Tok) : Array Value := #[.int .i64 (t.kind : Nat), .string t.text, .int .i64 (t.n : Nat), .int .i64 (t.pos : Nat)]
/-- The next token; the end's. -/
def nextT (ts : List Tok) (e : Nat) : Tok := match ts with | t :: _ => t | [] => ⟨0, ⟨#[]⟩, 0, e⟩
/-- The reader, its tokens, the command that it builds. -/
structure RS (wP : World) (rb e : Nat) (A : Option Addr) (n c : Nat) (ts : List Tok) (K : Int) (nm : ByteArray) (NV : Value) (ns : List Int) (at_ : Int) (W : World) : Prop where
  bel : Below wP.heap.size wP W
  toks : Toks wP A n c ts
  blk : Blk W rb 65 #[.slice A n c, .int .i64 (e : Nat), .int .i64 K, .string nm, NV, .int .i64 at_]
  own : W.ownsRow wP.heap.size 3 1 NV ns.length (ns.map iv)
  ge : wP.heap.size ≤ rb
theorem RS.up {wP : World} {rb e : Nat} {A : Option Addr} {n c : Nat} {ts : List Tok} {K : Int} {nm : ByteArray} {NV : Value} {ns : List Int} {at_ : Int} {W W' : World} (h : RS wP rb e A n c ts K nm NV ns at_ W) (hb : Below W.heap.size W W') : RS wP rb e A n c ts K nm NV ns at_ W' :=
  ⟨h.bel.trans (hb.mono h.bel.size), h.toks, h.blk.up' hb, own_keep h.own hb, h.ge⟩
set_option maxRecDepth 100000 in
set_option maxHeartbeats 1000000 in
theorem next_val {wP : World} {rb e : Nat} {A : Option Addr} {n c : Nat} {ts : List Tok} {K : Int} {nm : ByteArray} {NV : Value} {ns : List Int} {at_ : Int} {W : World} (h : RS wP rb e A n c ts K nm NV ns at_ W) :
    Calls Tryd.prog 53 #[.pointer (some ⟨rb, 0, none⟩)] W fun e' w' => e' = .returned (.agg (tokA (nextT ts e))) ∧ w' = W.alloc (.cells (tokA (nextT ts e)) 41) := by
  have HS := Lib.hid h
  have c0 : W.cell? ⟨rb, 0, none⟩ = some (.slice A n c) := h.blk.cell 0
  have c1 : W.cell? ⟨rb, 1, none⟩ = some (.int .i64 (e : Nat)) := h.blk.cell 1
  have hl0 := Lx.cell_lt c0
  have d0 : (W.alloc (.cells #[.int .i64 0, .string ⟨#[]⟩, .int .i64 0, .int .i64 0] 41)).cell? ⟨rb, 0, none⟩ = some (.slice A n c) := by rw [World.cell?_alloc_lt _ _ _ hl0]; exact c0
  have d1 : (W.alloc (.cells #[.int .i64 0, .string ⟨#[]⟩, .int .i64 0, .int .i64 0] 41)).cell? ⟨rb, 1, none⟩ = some (.int .i64 (e : Nat)) := by rw [World.cell?_alloc_lt W _ ⟨rb, 1, none⟩ hl0]; exact c1
  have hT := h.toks.up h.bel
  have hn : ts.length = n := hT.2.1
  cases ts with
  | nil =>
    have h0 : n = 0 := hn.symm
    subst h0
    clear h hT hn hl0 c0 c1
    go_enter Tryd.func53, Tryd.ntmps53
    go_wp2_with fail
    refine bodyPost_ret (v := .agg (tokA (nextT [] e))) ?_ rfl ⟨rfl, rfl⟩
    simp [results, Tryd.f53, go_sem, tokA, nextT]
  | cons t r =>
    have h0 : ((n : Int) == 0) = false := by rw [beq_eq_false_iff_ne, ← hn]; simp only [List.length_cons]; omega
    have h1 : (0 : Int) < (n : Int) := by rw [← hn]; simp only [List.length_cons]; omega
    obtain ⟨b, off, rfl, hb, hc⟩ := rd_el (dec := decT) (s := 4) (fun _ => rfl) hT.1 hT.2.1 (i := 0) (by simp)
    have e0 := hc 0 _ rfl
    have e1 := hc 1 _ rfl
    have e2 := hc 2 _ rfl
    have e3 := hc 3 _ rfl
    simp only [Nat.zero_mul, Nat.add_zero, List.getElem_cons_zero] at e0 e1 e2 e3
    have f0 := (World.cell?_alloc_lt W (.cells #[.int .i64 0, .string ⟨#[]⟩, .int .i64 0, .int .i64 0] 41) ⟨b, off, none⟩ hb).trans e0
    have f1 := (World.cell?_alloc_lt W (.cells #[.int .i64 0, .string ⟨#[]⟩, .int .i64 0, .int .i64 0] 41) ⟨b, off + 1, none⟩ hb).trans e1
    have f2 := (World.cell?_alloc_lt W (.cells #[.int .i64 0, .string ⟨#[]⟩, .int .i64 0, .int .i64 0] 41) ⟨b, off + 2, none⟩ hb).trans e2
    have f3 := (World.cell?_alloc_lt W (.cells #[.int .i64 0, .string ⟨#[]⟩, .int .i64 0, .int .i64 0] 41) ⟨b, off + 3, none⟩ hb).trans e3
    clear h hT hl0 c0 c1 hc e0 e1 e2 e3 hb hn
    go_enter Tryd.func53, Tryd.ntmps53
    go_wp2_with fail
    refine bodyPost_ret (v := .agg (tokA (nextT (t :: r) e))) ?_ rfl ⟨rfl, rfl⟩
    simp [results, Tryd.f53, go_sem, tokA, nextT]

/-- Of what lay, all but the block rb and the row r2 lies as it lay. -/
structure Gr (rb : Nat) (r2 : Option Nat) (W W' : World) : Prop where
  os : W'.os = W.os
  tape : W'.tape = W.tape
  output : W'.output = W.output
  size : W.heap.size ≤ W'.heap.size
  block : ∀ k, k < W.heap.size → k ≠ rb → some k ≠ r2 → W'.heap[k]? = W.heap[k]?
theorem Gr.of_below {rb : Nat} {r2 : Option Nat} {W W' : World} (h : Below W.heap.size W W') : Gr rb r2 W W' := ⟨h.os, h.tape, h.output, h.size, fun k hk _ _ => h.block k hk⟩
theorem Gr.more {rb : Nat} {r2 : Option Nat} {W W' : World} (h : Gr rb none W W') : Gr rb r2 W W' := ⟨h.os, h.tape, h.output, h.size, fun k hk hr _ => h.block k hk hr (by simp)⟩
theorem Gr.trans {rb : Nat} {r2 r3 : Option Nat} {W W1 W2 : World} (h : Gr rb r2 W W1) (g : Gr rb r3 W1 W2) (h3 : r3 = none ∨ r3 = r2 ∨ ∃ k, r3 = some k ∧ W.heap.size ≤ k) : Gr rb r2 W W2 :=
  ⟨g.os.trans h.os, g.tape.trans h.tape, g.output.trans h.output, Nat.le_trans h.size g.size, fun k hk hr hr2 => by
    rw [g.block k (Nat.lt_of_lt_of_le hk h.size) hr ?_, h.block k hk hr hr2]
    rcases h3 with rfl | rfl | ⟨j, rfl, hj⟩
    · simp
    · exact hr2
    · intro e; injection e with e; omega⟩
theorem Gr.alloc {rb : Nat} {r2 : Option Nat} {W W1 : World} (h : Gr rb r2 W W1) (o : Obj) : Gr rb r2 W (W1.alloc o) :=
  h.trans (Gr.of_below (r2 := none) ((Below.refl _ W1).alloc (Nat.le_refl _) o)) (.inl rfl)
theorem Gr.setCell {rb : Nat} {r2 : Option Nat} {W W1 : World} (h : Gr rb r2 W W1) {p : Addr} (hp : p.block = rb ∨ W.heap.size ≤ p.block) (u : Value) : Gr rb r2 W (W1.setCell p u) :=
  ⟨h.os, h.tape, h.output, by rw [World.size_setCell]; exact h.size, fun k hk hr hr2 => by
    rw [Below.heap_setCell W1 p u k (by rcases hp with e | e <;> omega)]
    exact h.block k hk hr hr2⟩
theorem Gr.refl (rb : Nat) (r2 : Option Nat) (W : World) : Gr rb r2 W W := Gr.of_below (Below.refl _ W)
theorem Gr.blk {rb : Nat} {r2 : Option Nat} {W W' : World} (h : Gr rb r2 W W') {g : Nat} {t : TypeId} {cs : Array Value} (hb : Blk W g t cs) (hg : g ≠ rb) (hr : some g ≠ r2) : Blk W' g t cs := (h.block g hb.lt hg hr).trans hb
theorem Gr.below {rb B : Nat} {r2 : Option Nat} {W W' : World} (h : Gr rb r2 W W') (hB : B ≤ rb) (h2 : ∀ k, r2 = some k → B ≤ k) (hW : B ≤ W.heap.size) : Below B W W' :=
  ⟨h.os, h.tape, h.output, h.size, fun k hk => h.block k (by omega) (by omega) (fun e => by have := h2 k e.symm; omega)⟩
theorem own_ne {W : World} {rb base n : Nat} {v : Value} {xs : List Value} {cs : Array Value} (h : W.ownsRow base 3 1 v n xs) (hb : Blk W rb 65 cs) : v.ownBlock ≠ some rb := by
  rcases h.2 with ⟨rfl, _⟩ | ⟨g, cap, cur, rfl, _, hg, _⟩
  · simp [Value.ownBlock]
  · intro e
    have e2 : g = rb := by simpa [Value.ownBlock] using e
    subst e2
    have hb' : W.heap[g]? = some (.cells cs 65 (0, 0)) := hb
    rw [hg] at hb'
    injection hb' with hb'
    injection hb' with _ hb'
    exact absurd hb' (by decide)
section
variable {wP W W' : World} {rb e n c n' c' : Nat} {A A' : Option Addr} {ts ts' : List Tok} {K K' : Int} {nm nm' : ByteArray} {NV : Value} {ns : List Int} {at_ at' : Int}
theorem RS.next' (h : RS wP rb e A n c ts K nm NV ns at_ W) (hg : Gr rb none W W') (hb : Blk W' rb 65 #[.slice A' n' c', .int .i64 (e : Nat), .int .i64 K', .string nm', NV, .int .i64 at']) (ht : Toks wP A' n' c' ts') : RS wP rb e A' n' c' ts' K' nm' NV ns at' W' :=
  ⟨h.bel.trans (hg.below h.ge (fun k hk => by cases hk) h.bel.size), ht, hb, by
    have hne := own_ne h.own h.blk
    exact h.own.kept (row := some rb) ⟨hg.os, hg.tape, hg.output, hg.size, fun k hk hr => hg.block k hk (fun q => hr (by rw [q])) (by simp)⟩ (.inr hne), h.ge⟩
theorem RS.list (h : RS wP rb e A n c ts K nm NV ns at_ W) (ht : Toks wP A' n' c' ts') : RS wP rb e A' n' c' ts' K nm NV ns at_ (W.setCell ⟨rb, 0, none⟩ (.slice A' n' c')) :=
  h.next' ((Gr.refl rb none W).setCell (.inl rfl) _) (h.blk.set_ 0 _) ht
theorem RS.kindS (h : RS wP rb e A n c ts K nm NV ns at_ W) (k : Int) : RS wP rb e A n c ts k nm NV ns at_ (W.setCell ⟨rb, 2, none⟩ (.int .i64 k)) :=
  h.next' ((Gr.refl rb none W).setCell (.inl rfl) _) (h.blk.set_ 2 _) h.toks
theorem RS.nameS (h : RS wP rb e A n c ts K nm NV ns at_ W) (s : ByteArray) : RS wP rb e A n c ts K s NV ns at_ (W.setCell ⟨rb, 3, none⟩ (.string s)) :=
  h.next' ((Gr.refl rb none W).setCell (.inl rfl) _) (h.blk.set_ 3 _) h.toks
theorem RS.len (h : RS wP rb e A n c ts K nm NV ns at_ W) : ts.length = n := h.toks.2.1
end
/-- The value with which a command is left. -/
def FV (p : Nat) : Value := .iface 91 (.agg #[.int .i64 (p : Nat)])
theorem toks_one (A : Option Addr) (n c : Nat) (h : 1 ≤ n) (w : World) : (Instr.slice 30 (.slice A n c) (some (.int .i64 1)) none none).run Tryd.prog w = .ok (.slice (cutA A c 1) (n - 1) (c - 1)) w := toks_from A n c 1 h w
theorem Toks.tail {w : World} {A : Option Addr} {n c : Nat} {t : Tok} {ts : List Tok} (h : Toks w A n c (t :: ts)) : Toks w (cutA A c 1) (n - 1) (c - 1) ts := by
  have := Toks.drop h (k := 1) (by rw [← h.2.1]; simp)
  exact this
def z41 : Obj := .cells #[.int .i64 0, .string ⟨#[]⟩, .int .i64 0, .int .i64 0] 41
set_option maxRecDepth 100000 in
set_option maxHeartbeats 2000000 in
theorem need_ok {wP : World} {rb e : Nat} {A : Option Addr} {n c : Nat} {t : Tok} {ts : List Tok} {K : Int} {nm : ByteArray} {NV : Value} {ns : List Int} {at_ : Int} {W : World} (h : RS wP rb e A n c (t :: ts) K nm NV ns at_ W) :
    Calls Tryd.prog 58 #[.pointer (some ⟨rb, 0, none⟩), .bool true] W fun e' w' => e' = .returned (.agg (tokA t)) ∧ RS wP rb e (cutA A c 1) (n - 1) (c - 1) ts K nm NV ns at_ w' ∧ Gr rb none W w' := by
  obtain ⟨tk, tx, tn, tp⟩ := t
  have hn := h.len
  have h1 : 1 ≤ n := by rw [← hn]; simp
  have hb0 : Below W.heap.size W (W.alloc z41) := (Below.refl _ W).alloc (Nat.le_refl _) _
  have h0 := h.up hb0
  have HN := Lib.hid (next_val h0)
  have hsl := toks_one A n c h1
  have HT := Lib.hid (Toks.tail h.toks)
  have HS := Lib.hid h
  have hrl : rb < W.heap.size := h.blk.lt
  have BR : Hid (Blk (W.alloc z41) W.heap.size 41 #[.int .i64 0, .string ⟨#[]⟩, .int .i64 0, .int .i64 0]) := Lib.hid (Blk.new W _ _)
  have HG0 : Hid (Gr rb none W (W.alloc z41)) := Lib.hid ((Gr.refl rb none W).alloc _)
  unfold z41 at HN h0 BR HG0
  unfold tokA nextT at HN
  dsimp only at HN
  have H0 := Lib.hid h0
  clear h hb0 h0 hn
  go_enter Tryd.func58, Tryd.ntmps58
  go_wp2_with fail
  refine HN.out.mono ?_
  rintro e1 w1 ⟨rfl, hw1⟩
  have hb1 : Below (W.heap.size + 1) (W.alloc (.cells #[.int .i64 0, .string ⟨#[]⟩, .int .i64 0, .int .i64 0] 41)) w1 := by rw [hw1]; exact ((Below.refl _ _).alloc (by simp) _)
  have hb1' : Below (W.alloc (.cells #[.int .i64 0, .string ⟨#[]⟩, .int .i64 0, .int .i64 0] 41)).heap.size (W.alloc (.cells #[.int .i64 0, .string ⟨#[]⟩, .int .i64 0, .int .i64 0] 41)) w1 := by rw [World.size_alloc]; exact hb1
  have H1 := Lib.hid (H0.out.up hb1')
  have BR1 := Lib.hid (BR.out.up' hb1')
  have HG1 : Hid (Gr rb none W w1) := Lib.hid (HG0.out.trans (Gr.of_below (r2 := none) hb1') (.inl rfl))
  clear hw1 hb1 hb1' HN H0 BR HG0
  have BT := Lib.hid (Blk.new w1 41 #[.int .i64 (tk : Nat), .string tx, .int .i64 (tn : Nat), .int .i64 (tp : Nat)])
  have H2 := Lib.hid (H1.out.up ((Below.refl w1.heap.size w1).alloc (Nat.le_refl _) (.cells #[.int .i64 (tk : Nat), .string tx, .int .i64 (tn : Nat), .int .i64 (tp : Nat)] 41)))
  have BR2 := Lib.hid (BR1.out.alloc (.cells #[.int .i64 (tk : Nat), .string tx, .int .i64 (tn : Nat), .int .i64 (tp : Nat)] 41))
  have HG2 := Lib.hid (HG1.out.alloc (.cells #[.int .i64 (tk : Nat), .string tx, .int .i64 (tn : Nat), .int .i64 (tp : Nat)] 41))
  have hw1s := HG1.out.size
  have r0 : (w1.alloc (.cells #[.int .i64 (tk : Nat), .string tx, .int .i64 (tn : Nat), .int .i64 (tp : Nat)] 41)).cell? ⟨rb, 0, none⟩ = some (.slice A n c) := H2.out.blk.cell 0
  have r1 : (w1.alloc (.cells #[.int .i64 (tk : Nat), .string tx, .int .i64 (tn : Nat), .int .i64 (tp : Nat)] 41)).frozen? ⟨rb, 0, none⟩ = false := H2.out.blk.frozen 0
  clear H1 BR1 HG1
  obtain ⟨W2, hW2⟩ : ∃ W2, w1.alloc (.cells #[.int .i64 (tk : Nat), .string tx, .int .i64 (tn : Nat), .int .i64 (tp : Nat)] 41) = W2 := ⟨_, rfl⟩
  rw [hW2] at BT H2 BR2 HG2 r0 r1
  have H3 := Lib.hid (H2.out.list HT.out)
  have BT3 := Lib.hid (BT.out.far (p := ⟨rb, 0, none⟩) (show w1.heap.size ≠ rb by omega) (.slice (cutA A c 1) (n - 1) (c - 1)))
  have BR3 := Lib.hid (BR2.out.far (p := ⟨rb, 0, none⟩) (show W.heap.size ≠ rb by omega) (.slice (cutA A c 1) (n - 1) (c - 1)))
  have HG3 := Lib.hid (HG2.out.setCell (p := ⟨rb, 0, none⟩) (.inl rfl) (.slice (cutA A c 1) (n - 1) (c - 1)))
  obtain ⟨W3, hW3⟩ : ∃ W3, W2.setCell ⟨rb, 0, none⟩ (.slice (cutA A c 1) (n - 1) (c - 1)) = W3 := ⟨_, rfl⟩
  rw [hW3] at H3 BT3 BR3 HG3
  have q0 : W3.cell? ⟨w1.heap.size, 0, none⟩ = some (.int .i64 (tk : Nat)) := BT3.out.cell 0
  have q1 : W3.cell? ⟨w1.heap.size, 1, none⟩ = some (.string tx) := BT3.out.cell 1
  have q2 : W3.cell? ⟨w1.heap.size, 2, none⟩ = some (.int .i64 (tn : Nat)) := BT3.out.cell 2
  have q3 : W3.cell? ⟨w1.heap.size, 3, none⟩ = some (.int .i64 (tp : Nat)) := BT3.out.cell 3
  have p0 : W3.cell? ⟨W.heap.size, 0, none⟩ = some (.int .i64 0) := BR3.out.cell 0
  have p1 : W3.cell? ⟨W.heap.size, 1, none⟩ = some (.string ⟨#[]⟩) := BR3.out.cell 1
  have p2 : W3.cell? ⟨W.heap.size, 2, none⟩ = some (.int .i64 0) := BR3.out.cell 2
  have p3 : W3.cell? ⟨W.heap.size, 3, none⟩ = some (.int .i64 0) := BR3.out.cell 3
  have z0 := BR3.out.frozen 0
  have z1 := BR3.out.frozen 1
  have z2 := BR3.out.frozen 2
  have z3 := BR3.out.frozen 3
  clear H2 BR2 HG2 BT
  go_wp2_with fail
  have hG := (((HG3.out.setCell (p := ⟨W.heap.size, 0, none⟩) (.inr (Nat.le_refl _)) (.int .i64 (tk : Nat))).setCell (p := ⟨W.heap.size, 1, none⟩) (.inr (Nat.le_refl _)) (.string tx)).setCell (p := ⟨W.heap.size, 2, none⟩) (.inr (Nat.le_refl _)) (.int .i64 (tn : Nat))).setCell (p := ⟨W.heap.size, 3, none⟩) (.inr (Nat.le_refl _)) (.int .i64 (tp : Nat))
  have hB := (((H3.out.blk.far (p := ⟨W.heap.size, 0, none⟩) (show rb ≠ W.heap.size by omega) (.int .i64 (tk : Nat))).far (p := ⟨W.heap.size, 1, none⟩) (show rb ≠ W.heap.size by omega) (.string tx)).far (p := ⟨W.heap.size, 2, none⟩) (show rb ≠ W.heap.size by omega) (.int .i64 (tn : Nat))).far (p := ⟨W.heap.size, 3, none⟩) (show rb ≠ W.heap.size by omega) (.int .i64 (tp : Nat))
  have g0 := (((BR3.out.set_ 0 (.int .i64 (tk : Nat))).set_ 1 (.string tx)).set_ 2 (.int .i64 (tn : Nat))).set_ 3 (.int .i64 (tp : Nat))
  obtain ⟨W4, hW4⟩ : ∃ W4, (((W3.setCell ⟨W.heap.size, 0, none⟩ (.int .i64 (tk : Nat))).setCell ⟨W.heap.size, 1, none⟩ (.string tx)).setCell ⟨W.heap.size, 2, none⟩ (.int .i64 (tn : Nat))).setCell ⟨W.heap.size, 3, none⟩ (.int .i64 (tp : Nat)) = W4 := ⟨_, rfl⟩
  rw [hW4] at hG hB g0 ⊢
  have m0 : W4.cell? ⟨W.heap.size, 0, none⟩ = some (.int .i64 (tk : Nat)) := g0.cell 0
  have m1 : W4.cell? ⟨W.heap.size, 1, none⟩ = some (.string tx) := g0.cell 1
  have m2 : W4.cell? ⟨W.heap.size, 2, none⟩ = some (.int .i64 (tn : Nat)) := g0.cell 2
  have m3 : W4.cell? ⟨W.heap.size, 3, none⟩ = some (.int .i64 (tp : Nat)) := g0.cell 3
  refine bodyPost_ret (v := .agg (tokA ⟨tk, tx, tn, tp⟩)) ?_ rfl ⟨rfl, HS.out.next' hG hB HT.out, hG⟩
  simp [results, Tryd.f58, go_sem, tokA, m0, m1, m2, m3]

/-- need, where the condition does not hold. -/
theorem need_no {wP : World} {rb e : Nat} {A : Option Addr} {n c : Nat} {ts : List Tok} {K : Int} {nm : ByteArray} {NV : Value} {ns : List Int} {at_ : Int} {W : World} (h : RS wP rb e A n c ts K nm NV ns at_ W) :
    Calls Tryd.prog 58 #[.pointer (some ⟨rb, 0, none⟩), .bool false] W fun e' w' => e' = .panicked [{ v := FV (nextT ts e).pos, recovered := false }] ∧ Below W.heap.size W w' := by
  have hb0 : Below W.heap.size W (W.alloc z41) := (Below.refl _ W).alloc (Nat.le_refl _) _
  have h0 := h.up hb0
  have HN := Lib.hid (next_val h0)
  have HB0 := Lib.hid hb0
  obtain ⟨t, ht⟩ : ∃ t, nextT ts e = t := ⟨_, rfl⟩
  rw [ht] at HN ⊢
  obtain ⟨tk, tx, tn, tp⟩ := t
  unfold z41 at HN HB0
  unfold tokA at HN
  dsimp only at HN
  clear h hb0 h0 ht
  go_enter Tryd.func58, Tryd.ntmps58
  go_wp2_with fail
  refine HN.out.mono ?_
  rintro e1 w1 ⟨rfl, hw1⟩
  have hb1 : Below W.heap.size (W.alloc (.cells #[.int .i64 0, .string ⟨#[]⟩, .int .i64 0, .int .i64 0] 41)) w1 := by rw [hw1]; exact ((Below.refl _ _).alloc (by simp) _)
  have HB1 := Lib.hid (HB0.out.trans hb1)
  have BT := Lib.hid (Blk.new w1 41 #[.int .i64 (tk : Nat), .string tx, .int .i64 (tn : Nat), .int .i64 (tp : Nat)])
  have HB2 := Lib.hid (HB1.out.alloc HB1.out.size (.cells #[.int .i64 (tk : Nat), .string tx, .int .i64 (tn : Nat), .int .i64 (tp : Nat)] 41))
  clear hw1 hb1
  go_wp2_with fail
  exact ⟨rfl, rfl, HB2.out⟩
end Go.Proofs.YtmdogklgbifacaaDoor.Ps
