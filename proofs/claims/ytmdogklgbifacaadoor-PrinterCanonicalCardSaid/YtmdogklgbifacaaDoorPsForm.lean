/- The reader's pairs; what a form's parts do one behind the other. -/
import Derived.Test.YtmdogklgbifacaaDoorPsNums
namespace Go.Proofs.YtmdogklgbifacaaDoor.Ps
open Go.RowKit Go.Proofs.YtmdogklgbifacaaDoor.Lx Go.Proofs.YtmdogklgbifacaaDoor.Pr
set_option linter.unusedVariables false

theorem nsB_len : ∀ (neg : Bool) (ts : List Tok) (ps : List (List UInt8)), (nsB neg ts ps).length ≤ ps.length
  | neg, t :: ts, p :: ps => by
    simp only [nsB]
    split
    · simp only [List.length_cons]; have := nsB_len false ts ps; omega
    · simp only [List.length_cons]; have := nsB_len (decide (p = [100]) && t.text.data.toList == bSlow) ts ps; omega
  | neg, [], ps => by simp [nsB]
  | neg, t :: ts, [] => by simp [nsB]
theorem own_ne_t {W : World} {b base n : Nat} {t : TypeId} {v : Value} {xs : List Value} {cs : Array Value} (h : W.ownsRow base 3 1 v n xs) (hb : Blk W b t cs) (ht : t ≠ 3) : v.ownBlock ≠ some b := by
  rcases h.2 with ⟨rfl, _⟩ | ⟨g, cap, cur, rfl, _, hg, _⟩
  · simp [Value.ownBlock]
  · intro e
    have e2 : g = b := by simpa [Value.ownBlock] using e
    subst e2
    have hb' : W.heap[g]? = some (.cells cs t (0, 0)) := hb
    rw [hg] at hb'
    injection hb' with hb'
    injection hb' with _ hb'
    exact absurd hb'.symm ht
theorem blk_ne {W : World} {a b : Nat} {t t' : TypeId} {cs cs' : Array Value} (h : Blk W a t cs) (h' : Blk W b t' cs') (ht : t ≠ t') : a ≠ b := by
  intro e
  subst e
  have h1 : W.heap[a]? = some (.cells cs t (0, 0)) := h
  have h2 : W.heap[a]? = some (.cells cs' t' (0, 0)) := h'
  rw [h1] at h2
  injection h2 with h2
  injection h2 with _ h2
  exact ht h2
section
variable {wP W W1 W2 : World} {rb e : Nat} {ps p1 p2 : List (List UInt8)} {ts : List Tok} {K : Int} {nm : ByteArray} {NV : Value} {ns : List Int} {at_ : Int} {e1 e2 : Ending}
/-- What a part leaves: it goes on, or all ends. -/
theorem Post.cases (h : Post wP rb e p1 ts K nm NV ns at_ W e1 W1) (hl : p1.getLast? ≠ some [100]) :
    (e1 = .returned (.tuple #[]) ∧ matchB ts p1 = p1.length ∧ ∃ A' n' c' nm' NV' ns', RS wP rb e A' n' c' (ts.drop p1.length) K nm' NV' ns' at_ W1 ∧ ns' = ns ++ nsB false ts p1 ∧ Gr rb NV.ownBlock W W1 ∧
      (∀ e1 W2 p2, Post wP rb e p2 (ts.drop p1.length) K nm' NV' ns' at_ W1 e1 W2 → Post wP rb e (p1 ++ p2) ts K nm NV ns at_ W e1 W2)) ∨
    (∃ p, e1 = pvE p ∧ ∀ p2, Post wP rb e (p1 ++ p2) ts K nm NV ns at_ W (pvE p) W1) := by
  have h0 := h
  obtain ⟨A', n', c', nm', NV', ns', h1, h2, h3, h4⟩ := h
  rcases h4 with ⟨h5, rfl, h6, h7⟩ | ⟨h5, rfl⟩
  · left
    obtain ⟨hm, A2, n2, c2, nm2, NV2, ns2, g1, g2, g3⟩ := h0.cont hl
    exact ⟨rfl, hm, A2, n2, c2, nm2, NV2, ns2, g1, g2, h2, g3⟩
  · right
    exact ⟨_, rfl, fun p2 => h0.fail h5⟩
end
def pairsP (l : List (List UInt8)) : List (List UInt8) := l.flatMap fun s => [s, [35]]
theorem pairsP_last (l : List (List UInt8)) : (pairsP l).getLast? ≠ some [100] := by
  rcases List.eq_nil_or_concat l with rfl | ⟨l', s, rfl⟩
  · simp [pairsP]
  · unfold pairsP
    rw [List.concat_eq_append, List.flatMap_append, List.getLast?_append]
    simp
theorem pairsP_len (l : List (List UInt8)) : (pairsP l).length = 2 * l.length := by
  unfold pairsP
  induction l with
  | nil => rfl
  | cons a l ih => rw [List.flatMap_cons, List.length_append, ih, List.length_cons, List.length_cons, List.length_cons, List.length_nil]; omega
theorem pairsP_split {l : List (List UInt8)} {j : Nat} (h : j < l.length) : pairsP l = pairsP (l.take j) ++ ([l[j]] ++ ([[35]] ++ pairsP (l.drop (j + 1)))) := by
  conv => lhs; rw [← List.take_append_drop j l, List.drop_eq_getElem_cons h]
  unfold pairsP
  rw [List.flatMap_append, List.flatMap_cons]
  rfl
theorem pairsP_take {l : List (List UInt8)} {j : Nat} (h : j < l.length) : pairsP (l.take (j + 1)) = pairsP (l.take j) ++ ([l[j]] ++ [[35]]) := by
  rw [List.take_succ_eq_append_getElem h]
  unfold pairsP
  rw [List.flatMap_append]
  rfl
def strV (s : List UInt8) : Value := .string ⟨s.toArray⟩
set_option maxRecDepth 100000 in
set_option maxHeartbeats 2000000 in
theorem pairs_val {wP W : World} {rb e n c b : Nat} {A : Option Addr} {ts : List Tok} {K : Int} {nm : ByteArray} {NV : Value} {ns : List Int} {at_ : Int} (l : List (List UInt8)) (hl : ∀ s ∈ l, s ≠ [35] ∧ s ≠ [110] ∧ s ≠ [100] ∧ s ≠ []) (hll : l.length ≤ 4) (hnl : ns.length ≤ 8) (hw : Wf ts)
    (hb : Blk W b 9 (l.map strV).toArray) (h : RS wP rb e A n c ts K nm NV ns at_ W) :
    Calls Tryd.prog 75 #[.pointer (some ⟨rb, 0, none⟩), .slice (some ⟨b, 0, none⟩) l.length l.length] W (Post wP rb e (pairsP l) ts K nm NV ns at_ W) := by
  have HS := Lib.hid h
  have HB := Lib.hid hb
  have HNE := Lib.hid (own_ne_t h.own hb (by decide))
  have HRB := Lib.hid (blk_ne hb h.blk (by decide))
  have HL := Lib.hid hl
  clear h hb hl
  go_enter Tryd.func75, Tryd.ntmps75
  go_wp2_with fail
  go_loopw [8] (fun i wr => ∃ j : Nat, j ≤ l.length ∧ i = i64 (j : Nat) ∧ Hid (Post wP rb e (pairsP (l.take j)) ts K nm NV ns at_ W (.returned (.tuple #[])) wr)) (fun i _ => l.length - (intOf i).toNat)
  case atStart => exact ⟨0, Nat.zero_le _, rfl, Lib.hid HS.out.post0⟩
  case round =>
    obtain ⟨j, hj, rfl, HP⟩ := hrel
    by_cases hlt : j < l.length
    · have hlt' : (j : Int) < (l.length : Int) := by omega
      obtain ⟨hmj, A', n', c', nm', NV', ns', hr, hnl', hct⟩ := HP.out.cont (pairsP_last _)
      have hgr : Gr rb NV.ownBlock W wr := by
        obtain ⟨_, _, _, _, _, _, _, q, _⟩ := HP.out
        exact q
      have hnl2 : ns'.length ≤ 16 := by
        rw [hnl', List.length_append]
        have := nsB_len false ts (pairsP (l.take j))
        rw [pairsP_len, List.length_take] at this
        omega
      have hbj := hgr.blk HB.out HRB.out (Ne.symm HNE.out)
      have cS : wr.cell? ⟨b, j, none⟩ = some (strV l[j]) := by
        have := hbj.cell j
        rwa [List.getElem?_toArray, List.getElem?_map, List.getElem?_eq_getElem hlt] at this
      obtain ⟨s35, s110, s100, s0⟩ := HL.out l[j] (List.getElem_mem hlt)
      obtain ⟨s, hs⟩ : ∃ s, l[j] = s := ⟨_, rfl⟩
      have HSP := Lib.hid (pairsP_split hlt)
      have HST := Lib.hid (pairsP_take hlt)
      rw [hs] at s35 s110 s100 s0 cS HSP HST
      have HWD := Lib.hid (word_val s s35 s110 s100 s0 (hw.drop _) hr)
      have HCT := Lib.hid hct
      have HR := Lib.hid hr
      unfold strV at cS
      clear hmj hr hnl' hct hgr hbj
      go_wp2_with fail
      refine HWD.out.mono ?_
      intro e1 w1 hp1
      rcases hp1.cases (by simpa using s100) with ⟨rfl, hm1, A1, n1, c1, nm1, NV1, ns1, hr1, hn1, hg1, hc1⟩ | ⟨p, rfl, hf⟩
      · have hnl1 : ns1.length ≤ 17 := by
          rw [hn1, List.length_append]
          have := nsB_len false (ts.drop (pairsP (l.take j)).length) [s]
          rw [List.length_singleton] at this
          omega
        have HN := Lib.hid (nums_val 1 (by omega) (by omega) ((hw.drop _).drop _) hr1)
        have HC1 := Lib.hid hc1
        clear hm1 hr1 hn1 hg1 hc1 hp1
        go_wp2_with fail
        refine HN.out.mono ?_
        intro e2 w2 hp2
        have hq : Post wP rb e [[35]] _ K nm1 NV1 ns1 at_ w1 e2 w2 := hp2
        rcases hq.cases (by decide) with ⟨rfl, hm2, A2, n2, c2, nm2, NV2, ns2, hr2, hn2, hg2, hc2⟩ | ⟨p, rfl, hf⟩
        · have HP2 := Lib.hid (HCT.out _ _ _ (HC1.out _ _ _ hq))
          clear hm2 hr2 hn2 hg2 hc2 hq hp2
          go_wp2_with fail
          refine ⟨⟨j + 1, hlt, rfl, Lib.hid ?_⟩, ?_⟩
          · rw [HST.out]; exact HP2.out
          · show l.length - ((j : Int) + 1).toNat < l.length - ((j : Int)).toNat
            omega
        · refine ⟨rfl, ?_⟩
          rw [HSP.out]
          exact HCT.out _ _ _ (HC1.out _ _ _ (hf _))
      · refine ⟨rfl, ?_⟩
        rw [HSP.out]
        exact HCT.out _ _ _ (hf _)
    · have hlt' : ¬ (j : Int) < (l.length : Int) := by omega
      obtain rfl : j = l.length := by omega
      go_wp2_with fail
      go_end0
      have := HP.out
      rwa [List.take_length] at this
end Go.Proofs.YtmdogklgbifacaaDoor.Ps
