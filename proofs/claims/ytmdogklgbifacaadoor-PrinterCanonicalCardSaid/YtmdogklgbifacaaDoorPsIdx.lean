/- The next semicolon. -/
import Derived.Test.YtmdogklgbifacaaDoorPsCmd
import Derived.Test.YtmdogklgbifacaaDoorPrA
namespace Go.Proofs.YtmdogklgbifacaaDoor.Ps
open Go.RowKit Go.Proofs.YtmdogklgbifacaaDoor.Lx Go.Proofs.YtmdogklgbifacaaDoor.Pr
set_option linter.unusedVariables false

set_option maxRecDepth 100000 in
theorem semi_val (t : Tok) (W : World) :
    Calls Tryd.prog 34 #[.agg (tokA t)] W fun e w' => e = .returned (.bool (t.text.data.toList == [59])) ∧ Below W.heap.size W w' := by
  obtain ⟨tk, tx, tn, tp⟩ := t
  unfold tokA
  dsimp only
  obtain ⟨v, hv0⟩ : ∃ v, (tx.data.toList == [59]) = v := ⟨_, rfl⟩
  have hv : (tx.toList == [59]) = v := by rw [Lib.toList_data]; exact hv0
  rw [hv0]
  have BT := Lib.hid (Blk.new W 41 #[.int .i64 (tk : Nat), .string tx, .int .i64 (tn : Nat), .int .i64 (tp : Nat)])
  have c1 := BT.out.cell 1
  rw [show (#[Value.int .i64 (tk : Nat), .string tx, .int .i64 (tn : Nat), .int .i64 (tp : Nat)] : Array Value)[1]? = some (.string tx) from rfl] at c1
  have HB : Hid (Below W.heap.size W (W.alloc (.cells #[.int .i64 (tk : Nat), .string tx, .int .i64 (tn : Nat), .int .i64 (tp : Nat)] 41))) := Lib.hid ((Below.refl _ _).alloc (Nat.le_refl _) _)
  go_enter Tryd.func34, Tryd.ntmps34
  go_wp2_with fail
  go_ret
  exact ⟨rfl, HB.out⟩
/-- The index of the next semicolon; -1. -/
def semiI (ts : List Tok) : Int := match ts.findIdx? (fun t => t.text.data.toList == [59]) with | some k => (k : Nat) | none => -1
set_option maxRecDepth 100000 in
set_option maxHeartbeats 1000000 in
theorem idx_val (A : Option Addr) (n c : Nat) (ts : List Tok) (w : World) (h : Toks w A n c ts) :
    Calls Tryd.prog 33 #[.slice A n c, .func (.func 34) #[] #[]] w fun e w' => e = .returned (.int .i64 (semiI ts)) ∧ Below w.heap.size w w' := by
  have hnm : n ≤ 9223372036854775807 := Nat.le_trans h.2.2.1 (Nat.le_trans h.2.2.2 (by decide))
  have HI := Lib.hid h
  have HN := Lib.hid h.2.1
  clear h
  go_enter Tryd.func33, Tryd.ntmps33
  go_wp2_with fail
  go_loopw [8] (fun i wr => ∃ k : Nat, k ≤ n ∧ i = i64 (k : Nat) ∧ Hid (semiI ts = match (ts.drop k).findIdx? (fun t => t.text.data.toList == [59]) with | some j => ((k + j : Nat) : Int) | none => -1) ∧ Below w.heap.size w wr) (fun i _ => n - (intOf i).toNat)
  case atStart => exact ⟨0, Nat.zero_le _, rfl, Lib.hid (by unfold semiI; rw [List.drop_zero]; cases ts.findIdx? (fun t => t.text.data.toList == [59]) <;> simp), Below.refl _ _⟩
  case round =>
    obtain ⟨k, hk, rfl, HG, hB⟩ := hrel
    have HB := Lib.hid hB
    clear hB
    by_cases hlt : k < n
    · have hlt' : (k : Int) < (n : Int) := by omega
      have hkl : k < ts.length := by rw [HN.out]; exact hlt
      obtain ⟨b, off, rfl, hb, hc⟩ := rd_el (dec := decT) (s := 4) (fun _ => rfl) (HI.out.up HB.out).1 HN.out hkl
      have hg := HG.out
      rw [List.drop_eq_getElem_cons hkl, List.findIdx?_cons] at hg
      have HV := Lib.hid (semi_val ts[k])
      obtain ⟨⟨tk, tx, tn, tp⟩, hx⟩ : ∃ x, ts[k] = x := ⟨_, rfl⟩
      rw [hx] at hc hg HV
      have c0 := hc 0 _ rfl
      have c1 := hc 1 _ rfl
      have c2 := hc 2 _ rfl
      have c3 := hc 3 _ rfl
      rw [Nat.add_zero] at c0
      unfold tokA at HV
      dsimp only at c0 c1 c2 c3 HV hg
      obtain ⟨v, hv⟩ : ∃ v, (tx.data.toList == [59]) = v := ⟨_, rfl⟩
      rw [hv] at hg HV
      have HG2 := Lib.hid hg
      clear hlt hb hc hx hv hg hkl
      cases v with
      | false =>
        go_wp2_with fail
        refine (HV.out _).mono ?_
        rintro e w1 ⟨rfl, hb1⟩
        have HB1 := Lib.hid (below_trans' HB.out hb1)
        clear hb1
        go_wp2_with fail
        case roundEnd =>
          refine ⟨⟨k + 1, by omega, rfl, Lib.hid (HG2.out.trans ?_), HB1.out⟩, ?_⟩
          · cases (ts.drop (k + 1)).findIdx? (fun t => t.text.data.toList == [59]) with
            | none => rfl
            | some j => show ((k + (j + 1) : Nat) : Int) = ((k + 1 + j : Nat) : Int); omega
          · simp only [intOf]; omega
      | true =>
        go_wp2_with fail
        refine (HV.out _).mono ?_
        rintro e w1 ⟨rfl, hb1⟩
        have HB1 := Lib.hid (below_trans' HB.out hb1)
        clear hb1
        go_wp2_with fail
        go_ret
        refine ⟨?_, HB1.out⟩
        rw [HG2.out]
        rfl
    · have hlt' : ¬ (k : Int) < (n : Int) := by omega
      obtain rfl : k = n := by omega
      have hg := HG.out
      rw [List.drop_of_length_le (by rw [HN.out]; exact Nat.le_refl _)] at hg
      have HG2 := Lib.hid hg
      clear hg
      go_wp2_with fail
      go_ret
      refine ⟨?_, HB.out⟩
      rw [HG2.out]
      rfl
end Go.Proofs.YtmdogklgbifacaaDoor.Ps
