/- parser.Valid. -/
import Derived.Test.YtmdogklgbifacaaDoorPrCmd
namespace Go.Proofs.YtmdogklgbifacaaDoor.Pr
open Go.RowKit Go.Proofs.YtmdogklgbifacaaDoor.Lx
set_option linter.unusedVariables false

def cmB (x : Cm) : Bool := cmdB x.kind x.name x.ns
set_option maxRecDepth 100000 in
theorem validf_val (x : Cm) (w : World) (hx : Cm.In w x) :
    Calls Tryd.prog 37 #[.agg #[.int .i64 x.kind, .string x.name, .slice x.A x.n x.c, .int .i64 x.pos]] w fun e w' => e = .returned (.bool (!cmB x)) ∧ Below w.heap.size w w' := by
  obtain ⟨k, nm, A, n, c, ns, p⟩ := x
  have hb0 : Below w.heap.size w (w.alloc (.cells #[.int .i64 k, .string nm, .slice A n c, .int .i64 p] 46)) := (Below.refl _ w).alloc (Nat.le_refl _) _
  have HC := Lib.hid (isCommand_val ⟨k, nm, A, n, c, ns, p⟩ _ (hx.up hb0))
  have HB0 := Lib.hid hb0
  clear hx hb0
  go_enter Tryd.func37, Tryd.ntmps37
  go_wp2_with fail
  refine HC.out.mono ?_
  rintro e w1 ⟨rfl, hb1⟩
  have HB1 := Lib.hid (below_trans' HB0.out hb1)
  clear hb1
  go_wp2_with fail
  go_ret
  exact ⟨rfl, HB1.out⟩
theorem one_decC (a : Cm) : ∀ u ∈ decC a, u.oneCell' = true := by
  intro u hu
  unfold decC at hu
  simp only [List.mem_cons, List.not_mem_nil, or_false] at hu
  rcases hu with rfl | rfl | rfl | rfl <;> rfl
set_option maxRecDepth 100000 in
set_option maxHeartbeats 1000000 in
theorem index_val (A : Option Addr) (n c : Nat) (l : List Cm) (w : World) (h : IsCms w A n c l) :
    Calls Tryd.prog 59 #[.slice A n c, .func (.func 37) #[] #[]] w fun e w' => ∃ z : Int, e = .returned (.int .i64 z) ∧ decide (0 ≤ z) = !(l.all cmB) ∧ Below w.heap.size w w' := by
  have hnm : n ≤ 9223372036854775807 := Nat.le_trans h.2.2.1 (Nat.le_trans h.2.2.2.1 (by decide))
  have HI := Lib.hid h
  have HN := Lib.hid h.1
  clear h
  go_enter Tryd.func59, Tryd.ntmps59
  go_wp2_with fail
  go_loopw [8] (fun i wr => ∃ k : Nat, k ≤ n ∧ i = i64 (k : Nat) ∧ Hid (l.all cmB = (l.drop k).all cmB) ∧ Below w.heap.size w wr) (fun i _ => n - (intOf i).toNat)
  case atStart => exact ⟨0, Nat.zero_le _, rfl, Lib.hid rfl, Below.refl _ _⟩
  case round =>
    obtain ⟨k, hk, rfl, HG, hB⟩ := hrel
    have HB := Lib.hid hB
    clear hB
    by_cases hlt : k < n
    · have hlt' : (k : Int) < (n : Int) := by omega
      have hkl : k < l.length := by rw [HN.out]; exact hlt
      obtain ⟨b, off, rfl, hb, hc⟩ := rd_el (dec := decC) (s := 4) (fun _ => rfl) (HI.out.up HB.out).2.1 HN.out hkl
      have hg := HG.out
      rw [List.drop_eq_getElem_cons hkl, List.all_cons] at hg
      have HV := Lib.hid (validf_val l[k] _ ((HI.out.up HB.out).2.2.2.2 _ (List.getElem_mem hkl)))
      obtain ⟨⟨xk, xm, xA, xn, xc, xs, xp⟩, hx⟩ : ∃ x, l[k] = x := ⟨_, rfl⟩
      rw [hx] at hc hg HV
      have c0 := hc 0 _ rfl
      have c1 := hc 1 _ rfl
      have c2 := hc 2 _ rfl
      have c3 := hc 3 _ rfl
      rw [Nat.add_zero] at c0
      dsimp only at c0 c1 c2 c3 HV
      obtain ⟨v, hv⟩ : ∃ v, cmB ⟨xk, xm, xA, xn, xc, xs, xp⟩ = v := ⟨_, rfl⟩
      rw [hv] at hg HV
      have HG2 := Lib.hid hg
      clear hlt hb hc hx hv hg hkl
      cases v with
      | true =>
        go_wp2_with fail
        refine HV.out.mono ?_
        rintro e w1 ⟨rfl, hb1⟩
        have HB1 := Lib.hid (below_trans' HB.out hb1)
        clear hb1
        go_wp2_with fail
        case roundEnd =>
          refine ⟨⟨k + 1, by omega, rfl, Lib.hid (HG2.out.trans (Bool.true_and _)), HB1.out⟩, ?_⟩
          simp only [intOf]; omega
      | false =>
        go_wp2_with fail
        refine HV.out.mono ?_
        rintro e w1 ⟨rfl, hb1⟩
        have HB1 := Lib.hid (below_trans' HB.out hb1)
        clear hb1
        go_wp2_with fail
        go_ret
        refine ⟨_, rfl, ?_, HB1.out⟩
        rw [HG2.out, Bool.false_and]
        simp
    · have hlt' : ¬ (k : Int) < (n : Int) := by omega
      obtain rfl : k = n := by omega
      have hg := HG.out
      rw [List.drop_of_length_le (by rw [HN.out]; exact Nat.le_refl _)] at hg
      have HG2 := Lib.hid hg
      clear hg
      go_wp2_with fail
      go_ret
      refine ⟨_, rfl, ?_, HB.out⟩
      rw [HG2.out]
      rfl
set_option maxRecDepth 100000 in
theorem contains_val (A : Option Addr) (n c : Nat) (l : List Cm) (w : World) (h : IsCms w A n c l) :
    Calls Tryd.prog 36 #[.slice A n c, .func (.func 37) #[] #[]] w fun e w' => e = .returned (.bool (!(l.all cmB))) ∧ Below w.heap.size w w' := by
  have HI := Lib.hid (index_val A n c l w h)
  clear h
  go_enter Tryd.func36, Tryd.ntmps36
  go_wp2_with fail
  refine HI.out.mono ?_
  rintro e w1 ⟨z, rfl, hz, hb1⟩
  have HB1 := Lib.hid hb1
  have HZ := Lib.hid hz
  clear hb1 hz
  go_wp2_with fail
  go_ret
  rw [← HZ.out]
  exact ⟨rfl, HB1.out⟩
/-- Are commands valid? -/
def validB (l : List Cm) : Bool := decide (l.length ≤ 300) && l.all cmB
set_option maxRecDepth 100000 in
theorem valid_val (A : Option Addr) (n c : Nat) (l : List Cm) (w : World) (h : IsCms w A n c l) :
    Calls Tryd.prog 20 #[.slice A n c] w fun e w' => e = .returned (.bool (validB l)) ∧ Below w.heap.size w w' := by
  have HC := Lib.hid (contains_val A n c l w h)
  have hn := h.1
  by_cases h3 : n ≤ 300
  · have hb : (n : Int) ≤ 300 := by omega
    have HR : Hid (validB l = l.all cmB) := Lib.hid (by unfold validB; rw [hn, decide_eq_true h3, Bool.true_and])
    clear h hn h3
    go_enter Tryd.func20, Tryd.ntmps20
    go_wp2_with fail
    refine HC.out.mono ?_
    rintro e w1 ⟨rfl, hb1⟩
    have HB1 := Lib.hid hb1
    clear hb1
    go_wp2_with fail
    go_ret
    rw [HR.out]
    exact ⟨by simp, HB1.out⟩
  · have hb : ¬ (n : Int) ≤ 300 := by omega
    have HR : Hid (validB l = false) := Lib.hid (by unfold validB; rw [hn, decide_eq_false h3, Bool.false_and])
    clear h hn h3
    go_enter Tryd.func20, Tryd.ntmps20
    go_wp2_with fail
    go_ret
    rw [HR.out]
    exact ⟨rfl, Below.refl _ _⟩
end Go.Proofs.YtmdogklgbifacaaDoor.Pr
