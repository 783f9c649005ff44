/- What a command's reading comes to. -/
import Derived.Test.YtmdogklgbifacaaDoorPsEnd
namespace Go.Proofs.YtmdogklgbifacaaDoor.Ps
open Go.RowKit Go.Proofs.YtmdogklgbifacaaDoor.Lx Go.Proofs.YtmdogklgbifacaaDoor.Pr
set_option linter.unusedVariables false

theorem rd_ok {ts : List Tok} {k : Nat} (h : selB ts = .ok k) (hm : matchB ts (expL k) = (expL k).length) : rdB ts = (some (builtB k ts), (expL k).length) := by
  unfold rdB; rw [h]; simp only [hm, if_true]
theorem rd_no {ts : List Tok} {k : Nat} (h : selB ts = .ok k) (hm : matchB ts (expL k) < (expL k).length) : rdB ts = (none, matchB ts (expL k)) := by
  unfold rdB; rw [h]; simp only; rw [if_neg (by omega)]
theorem rd_err {ts : List Tok} {n : Nat} (h : selB ts = .error n) : rdB ts = (none, n) := by unfold rdB; rw [h]
theorem next_pos (ts : List Tok) (e : Nat) : (nextT ts e).pos = posB ts.head? e := by cases ts <;> rfl
section
variable {wP W W1 W2 : World} {rb e n c : Nat} {A : Option Addr} {ps p1 p2 : List (List UInt8)} {ts : List Tok} {K : Int} {nm : ByteArray} {NV : Value} {ns : List Int} {at_ : Int} {e1 : Ending}
theorem RS.far (h : RS wP rb e A n c ts K nm NV ns at_ W) {p : Addr} (hp : p.block ≠ rb) (hn : NV.ownBlock ≠ some p.block) (hg : wP.heap.size ≤ p.block) (u : Value) : RS wP rb e A n c ts K nm NV ns at_ (W.setCell p u) := by
  refine ⟨h.bel.setCell hg _, h.toks, h.blk.far (Ne.symm hp) u, ?_, h.ge⟩
  exact h.own.kept (row := some p.block) ⟨rfl, rfl, rfl, by rw [World.size_setCell]; exact Nat.le_refl _, fun k hk hr => Below.heap_setCell W p u k (fun q => hr (congrArg some q))⟩ (.inr hn)
theorem RS.fresh (h : RS wP rb e A n c ts K nm NV ns at_ W) (p : Int) :
    RS wP rb e A n c ts 0 ⟨#[]⟩ (.slice none 0 0) [] p ((((W.setCell ⟨rb, 2, none⟩ (.int .i64 0)).setCell ⟨rb, 3, none⟩ (.string ⟨#[]⟩)).setCell ⟨rb, 4, none⟩ (.slice none 0 0)).setCell ⟨rb, 5, none⟩ (.int .i64 p)) ∧
    Gr rb none W ((((W.setCell ⟨rb, 2, none⟩ (.int .i64 0)).setCell ⟨rb, 3, none⟩ (.string ⟨#[]⟩)).setCell ⟨rb, 4, none⟩ (.slice none 0 0)).setCell ⟨rb, 5, none⟩ (.int .i64 p)) := by
  refine ⟨⟨(((h.bel.setCell (p := ⟨rb, 2, none⟩) h.ge _).setCell (p := ⟨rb, 3, none⟩) h.ge _).setCell (p := ⟨rb, 4, none⟩) h.ge _).setCell (p := ⟨rb, 5, none⟩) h.ge _, h.toks, (((h.blk.set_ 2 _).set_ 3 _).set_ 4 _).set_ 5 _, World.ownsRow_nil _ _ _ _, h.ge⟩, ?_⟩
  exact ((((Gr.refl rb none W).setCell (p := ⟨rb, 2, none⟩) (.inl rfl) _).setCell (p := ⟨rb, 3, none⟩) (.inl rfl) _).setCell (p := ⟨rb, 4, none⟩) (.inl rfl) _).setCell (p := ⟨rb, 5, none⟩) (.inl rfl) _
/-- What a part that was read leaves, whatever kind is set behind it. -/
theorem Post.sure (h : Post wP rb e p1 ts K nm NV ns at_ W e1 W1) (hm : matchB ts p1 = p1.length) (hl : p1.getLast? ≠ some [100]) :
    e1 = .returned (.tuple #[]) ∧ ∃ A' n' c' nm' NV' ns', RS wP rb e A' n' c' (ts.drop p1.length) K nm' NV' ns' at_ W1 ∧ ns' = ns ++ nsB false ts p1 ∧ Gr rb NV.ownBlock W W1 ∧ (NV'.ownBlock = NV.ownBlock ∨ ∃ k, NV'.ownBlock = some k ∧ W.heap.size ≤ k) ∧
      (∀ K' e1 W2 p2, Post wP rb e p2 (ts.drop p1.length) K' nm' NV' ns' at_ W1 e1 W2 → Post wP rb e (p1 ++ p2) ts K' nm NV ns at_ W e1 W2) := by
  obtain ⟨A', n', c', nm', NV', ns', h1, h2, h3, h4⟩ := h
  rcases h4 with ⟨h5, rfl, h6, h7⟩ | ⟨h5, _⟩
  · refine ⟨rfl, A', n', c', nm', NV', ns', h5 ▸ h1, h7, h2, h3, fun K' e1 W2 p2 hp => ?_⟩
    obtain ⟨A2, n2, c2, nm2, NV2, ns2, g1, g2, g3, g4⟩ := hp
    have hma : matchB ts (p1 ++ p2) = p1.length + matchB (ts.drop p1.length) p2 := by rw [match_append, if_pos h5]
    have hd : ts.drop (matchB ts (p1 ++ p2)) = (ts.drop p1.length).drop (matchB (ts.drop p1.length) p2) := by rw [hma, List.drop_drop]
    refine ⟨A2, n2, c2, nm2, NV2, ns2, by rw [hd]; exact g1, h2.trans g2 ?_, ?_, ?_⟩
    · rcases h3 with h | ⟨k, h, hk⟩
      · exact .inr (.inl h)
      · exact .inr (.inr ⟨k, h, hk⟩)
    · rcases g3 with g | ⟨k, g, hk⟩
      · rcases h3 with h | ⟨k, h, hk⟩
        · exact .inl (g.trans h)
        · exact .inr ⟨k, g.trans h, hk⟩
      · exact .inr ⟨k, g, Nat.le_trans h2.size hk⟩
    · rcases g4 with ⟨q1, q2, q3, q4⟩ | ⟨q1, q2⟩
      · refine .inl ⟨by rw [hma, q1, List.length_append], q2, ?_, ?_⟩
        · rw [q3, h6, nm_append p1 p2 ts nm h5]
        · rw [q4, h7, ns_append p1 p2 ts false h5 hl (.inl rfl), List.append_assoc]
      · exact .inr ⟨by rw [hma, List.length_append]; omega, by rw [hd]; exact q2⟩
  · omega
/-- Either all is read, or all ends at the first that does not fit. -/
theorem Post.two (h : Post wP rb e p1 ts K nm NV ns at_ W e1 W1) : (matchB ts p1 = p1.length ∧ e1 = .returned (.tuple #[])) ∨ (matchB ts p1 < p1.length ∧ e1 = pvE (nextT (ts.drop (matchB ts p1)) e).pos) := by
  obtain ⟨_, _, _, _, _, _, _, _, _, h4⟩ := h
  rcases h4 with ⟨h5, h6, _⟩ | ⟨h5, h6⟩
  · exact .inl ⟨h5, h6⟩
  · exact .inr ⟨h5, h6⟩
end
/-- What a command comes to: the reader behind it (behind what fits of it). -/
def CmdOut (wP : World) (rb e : Nat) (ts : List Tok) (W : World) (e' : Ending) (w' : World) : Prop :=
  ∃ A' n' c' K' nm' NV' ns' at', RS wP rb e A' n' c' (ts.drop (rdB ts).2) K' nm' NV' ns' at' w' ∧ Gr rb none W w' ∧ (∀ k, NV'.ownBlock = some k → W.heap.size ≤ k) ∧
    match (rdB ts).1 with
    | some c => e' = .returned (.tuple #[.int .i64 0, .bool true]) ∧ K' = (c.kind : Nat) ∧ nm' = c.name ∧ ns' = c.ns ∧ at' = (c.pos : Nat)
    | none => e' = .returned (.tuple #[.int .i64 (posB (ts.drop (rdB ts).2).head? e : Nat), .bool false])
/-- .. while the reader holds it: w2, the world in which the fresh command has been laid. -/
def CmdMid (wP : World) (rb e : Nat) (ts : List Tok) (w2 : World) (p : Option Nat) (w' : World) : Prop :=
  ∃ A' n' c' K' nm' NV' ns' at', RS wP rb e A' n' c' (ts.drop (rdB ts).2) K' nm' NV' ns' at' w' ∧ Gr rb none w2 w' ∧ (∀ k, NV'.ownBlock = some k → w2.heap.size ≤ k) ∧
    match (rdB ts).1 with
    | some c => p = none ∧ K' = (c.kind : Nat) ∧ nm' = c.name ∧ ns' = c.ns ∧ at' = (c.pos : Nat)
    | none => p = some (posB (ts.drop (rdB ts).2).head? e)
def posV : Option Nat → Int
  | none => 0
  | some q => (q : Nat)
def okV : Option Nat → Bool
  | none => true
  | some _ => false
section
variable {wP W w2 w' : World} {rb e : Nat} {ts : List Tok}
theorem mid_done {k : Nat} (hs : selB ts = .ok k) (he : expL k ≠ []) (h : Post wP rb e (expL k) ts (k : Nat) ⟨#[]⟩ (.slice none 0 0) [] ((nextT ts e).pos : Nat) w2 (.returned (.tuple #[])) w') : CmdMid wP rb e ts w2 none w' := by
  obtain ⟨A', n', c', nm', NV', ns', h1, h2, h3, h4⟩ := h
  rcases h4 with ⟨h5, _, h6, h7⟩ | ⟨_, q⟩
  · have hr := rd_ok hs h5
    refine ⟨A', n', c', k, nm', NV', ns', _, by rw [hr]; exact h5 ▸ h1, h2, ?_, ?_⟩
    · rcases h3 with h | ⟨j, h, hj⟩
      · intro j hj; rw [h] at hj; cases hj
      · intro j' hj'; rw [h] at hj'; cases hj'; exact hj
    · rw [hr]
      refine ⟨rfl, rfl, h6, by rw [h7]; rfl, ?_⟩
      show ((nextT ts e).pos : Int) = (posB ts.head? 0 : Nat)
      cases ts with
      | nil =>
        exfalso
        have h8 := (matchB_le [] (expL k)).2
        rw [h5] at h8
        exact he (List.eq_nil_of_length_eq_zero (by simpa using h8))
      | cons t r => rfl
  · cases q
theorem mid_fail {k p : Nat} {K nm NV ns at_} (hs : selB ts = .ok k) (hN : NV = .slice none 0 0) (h : Post wP rb e (expL k) ts K nm NV ns at_ w2 (pvE p) w') : CmdMid wP rb e ts w2 (some p) w' := by
  subst hN
  obtain ⟨A', n', c', nm', NV', ns', h1, h2, h3, h4⟩ := h
  rcases h4 with ⟨_, q, _⟩ | ⟨h5, h6⟩
  · cases q
  · have hr := rd_no hs h5
    refine ⟨A', n', c', K, nm', NV', ns', _, by rw [hr]; exact h1, h2, ?_, ?_⟩
    · rcases h3 with h | ⟨j, h, hj⟩
      · intro j hj; rw [h] at hj; cases hj
      · intro j' hj'; rw [h] at hj'; cases hj'; exact hj
    · rw [hr]
      show some p = some (posB (ts.drop (matchB ts (expL k))).head? e)
      rw [← next_pos]
      have : p = (nextT (ts.drop (matchB ts (expL k))) e).pos := by
        have := h6
        unfold pvE FV at this
        have : (p : Int) = ((nextT (ts.drop (matchB ts (expL k))) e).pos : Nat) := by simpa using this
        omega
      rw [this]
theorem mid_err {m p n c : Nat} {A K nm NV ns at_} (hs : selB ts = .error m) (h : RS wP rb e A n c (ts.drop m) K nm NV ns at_ w') (hg : Gr rb none w2 w') (hn : ∀ k, NV.ownBlock = some k → w2.heap.size ≤ k) (hp : p = (nextT (ts.drop m) e).pos) : CmdMid wP rb e ts w2 (some p) w' := by
  have hr := rd_err hs
  refine ⟨A, n, c, K, nm, NV, ns, at_, by rw [hr]; exact h, hg, hn, ?_⟩
  rw [hr, hp, next_pos]
/-- The cells of the results are laid; what was read stays. -/
theorem CmdMid.out {p : Option Nat} {c0 c1 : Nat} (h : CmdMid wP rb e ts w2 p w') (hW : Gr rb none W w2) (hP : wP.heap.size ≤ W.heap.size) (h0 : W.heap.size ≤ c0) (h1 : W.heap.size ≤ c1) (h02 : c0 < w2.heap.size) (h12 : c1 < w2.heap.size) (hr0 : c0 ≠ rb) (hr1 : c1 ≠ rb) :
    CmdOut wP rb e ts W (.returned (.tuple #[.int .i64 (posV p), .bool (okV p)])) ((w'.setCell ⟨c0, 0, none⟩ (.int .i64 (posV p))).setCell ⟨c1, 0, none⟩ (.bool (okV p))) := by
  obtain ⟨A', n', c', K', nm', NV', ns', at', g1, g2, g3, g4⟩ := h
  refine ⟨A', n', c', K', nm', NV', ns', at', ?_, ?_, fun k hk => Nat.le_trans hW.size (g3 k hk), ?_⟩
  · exact (g1.far (p := ⟨c0, 0, none⟩) hr0 (fun q => by have : w2.heap.size ≤ c0 := g3 _ q; omega) (Nat.le_trans hP h0) _).far (p := ⟨c1, 0, none⟩) hr1 (fun q => by have : w2.heap.size ≤ c1 := g3 _ q; omega) (Nat.le_trans hP h1) _
  · exact ((hW.trans g2 (.inl rfl)).setCell (p := ⟨c0, 0, none⟩) (.inr h0) _).setCell (p := ⟨c1, 0, none⟩) (.inr h1) _
  · cases hc : (rdB ts).1 with
    | some c => rw [hc] at g4; obtain ⟨rfl, g5⟩ := g4; exact ⟨rfl, g5⟩
    | none => rw [hc] at g4; subst g4; rfl
end
end Go.Proofs.YtmdogklgbifacaaDoor.Ps
