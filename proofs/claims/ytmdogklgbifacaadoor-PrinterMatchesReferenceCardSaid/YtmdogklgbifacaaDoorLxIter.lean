/- lexer.spans: the iterator over the spans of a script. -/
import Derived.RangeFuncNested
import Derived.RangeFuncBound
import Derived.RangeFuncCalls
import Derived.RangeFuncLeaves
import Derived.Shelf.Abstract
import Derived.Shelf.RegionOpen
import Derived.OwnWalkIn
import Derived.TacticsInMore
import Derived.LoopNIn
import Derived.LoopIn
import Derived.Test.YtmdogklgbifacaaDoorLxEnd
namespace Go.Proofs.YtmdogklgbifacaaDoor.Lx
open Go.RowKit Go.Shelf
set_option linter.unusedVariables false
attribute [local go_sem] Oper.semAt_some

/-- What a round keeps: all below n₀, and the closure's box. -/
def Kp (n₀ Bs : Nat) (W W' : World) : Prop := Below n₀ W W' ∧ W'.heap[Bs]? = W.heap[Bs]?
theorem Kp.trans {n₀ Bs : Nat} {A B C : World} (h : Kp n₀ Bs A B) (k : Kp n₀ Bs B C) : Kp n₀ Bs A C := ⟨h.1.trans k.1, k.2.trans h.2⟩
theorem Kp.refl (n₀ Bs : Nat) (W : World) : Kp n₀ Bs W W := ⟨Below.refl _ _, rfl⟩
/-- A span that a script of bounded length has. -/
abbrev Sp := { x : Span // okS x }
def Sp.enc (x : Sp) : Array Value := #[i64 (x.1.pos : Nat), .agg #[i64 (x.1.cls : Nat), .string x.1.text]]

theorem extract_eq (s : ByteArray) (p k : Nat) : s.extract p (p + k) = ⟨((s.data.toList.drop p).take k).toArray⟩ := by
  apply ByteArray.ext
  rw [ByteArray.data_extract]
  apply Array.ext'
  rw [Array.toList_extract]
  simp [List.extract_eq_take_drop]

theorem slice_str (s : ByteArray) (p T : Nat) (h : p + T ≤ s.size) (w : World) :
    (Instr.slice 9 (.string s) (some (.int .i64 (p : Int))) (some (.int .i64 ((p : Int) + (T : Int)))) none).run Tryd.prog w = .ok (.string (s.extract p (p + T))) w := by
  rw [run_slice_string w 9 s .i64 .i64 _ _ Tryd.underlying9 (by omega) (by omega) (by omega)]
  have e1 : ((p : Int)).toNat = p := by omega
  have e2 : ((p : Int) + (T : Int)).toNat = p + T := by omega
  rw [e1, e2]

set_option maxRecDepth 100000 in
set_option maxHeartbeats 1000000 in
theorem spans1_in (l Bs n₀ : Nat) (s : ByteArray) (hs : s.size ≤ 8000) (J Jx : List Sp → World → Prop)
    (hY : ∀ pre x W, J pre W → pre.length < (spans s.data.toList 0).length → YieldAt Fence.wide 3 Tryd.prog l (Sp.enc x) W fun e W' =>
      (e = .returned (.bool true) ∧ J (pre ++ [x]) W' ∧ Kp n₀ Bs W W') ∨ (e = .returned (.bool false) ∧ Jx (pre ++ [x]) W'))
    (W : World) (hBs : Blk W Bs 9 #[.string s]) (h0 : J [] W) :
    CallsIn Fence.wide 4 Tryd.prog 65 #[.func (.yield l) #[] #[], .pointer (some ⟨Bs, 0, none⟩)] W fun e W' => (∃ v, e = .returned v) ∧
      ((∃ ys : List Sp, ys.map (·.1) = spans s.data.toList 0 ∧ J ys W') ∨ (∃ pre : List Sp, pre.map (·.1) <+: spans s.data.toList 0 ∧ Jx pre W')) := by
  have hl : s.data.toList.length = s.size := Array.length_toList
  have HL := Lib.hid hl; clear hl
  have H0 := Lib.hid h0; clear h0
  have HB := Lib.hid hBs; clear hBs
  refine callsIn_of_wp Tryd.func65 rfl trivial ?_ rfl
  simp only [Tryd.ntmps65, List.size_toArray, List.length_cons, List.length_nil, Nat.reduceAdd, Nat.reduceSub, Array.replicate_succ, Array.replicate_zero, List.push_toArray, List.append_toArray, List.nil_append, List.cons_append]
  gi_wp2
  gi_loopw [3] (fun i wr => ∃ (p : Nat) (pre : List Sp), p ≤ s.size ∧ i = .int .i64 p ∧ Hid (pre.map (·.1) ++ spans (s.data.toList.drop p) p = spans s.data.toList 0) ∧ Hid (J pre wr) ∧ Kp n₀ Bs W wr)
    (fun i _ => s.size - (intOf i).toNat)
  case atStart => exact ⟨0, [], Nat.zero_le _, rfl, Lib.hid (by simp), H0, Kp.refl _ _ _⟩
  case round =>
    obtain ⟨p, pre, hp, rfl, HP, HJ, hk⟩ := hrel
    have hB : Blk wr Bs 9 #[.string s] := hk.2.trans HB.out
    have b0 : wr.cell? ⟨Bs, 0, none⟩ = some (.string s) := hB.cell 0
    by_cases hlt : p < s.size
    · have hlt' : (p : Int) < (s.size : Int) := by omega
      have hpl : p < s.data.toList.length := by rw [HL.out]; exact hlt
      have hdc : s.data.toList.drop p = s[p] :: s.data.toList.drop (p + 1) := by
        rw [List.drop_eq_getElem_cons hpl]; rfl
      obtain ⟨c, hc⟩ : ∃ c, s[p] = c := ⟨_, rfl⟩
      have hok := okS_head (c := c) (r := s.data.toList.drop (p + 1)) (p := p) (by rw [← hc, ← hdc, List.length_drop, HL.out]; omega)
      have hlast := HP.out
      obtain ⟨T, hT⟩ : ∃ T, spanLen (s.data.toList.drop p) = T := ⟨_, rfl⟩
      have hT1 : 1 ≤ T := by rw [← hT, hdc]; exact spanLen_pos _ _
      have hT2 : p + T ≤ s.size := by
        have := spanLen_le (s.data.toList.drop p)
        rw [hT, List.length_drop, HL.out] at this
        omega
      have hhead : spans (s.data.toList.drop p) p = ⟨p, cls c, s.extract p (p + T)⟩ :: spans (s.data.toList.drop (p + T)) (p + T) := by
        rw [extract_eq, ← hT, ← List.drop_drop, hdc, hc, spans_cons]
      have hokx : okS ⟨p, cls c, s.extract p (p + T)⟩ := by
        rw [extract_eq, ← hT, hdc, hc]; exact hok
      rw [hhead] at hlast
      have hlen : pre.length < (spans s.data.toList 0).length := by
        rw [← hlast, List.length_append, List.length_map, List.length_cons]; omega
      obtain ⟨fn, tmps, assign, body, hy, hRd⟩ := hY pre ⟨⟨p, cls c, s.extract p (p + T)⟩, hokx⟩ wr HJ.out hlen
      dsimp only [Sp.enc] at hy
      have HNext : Hid ((pre ++ [(⟨⟨p, cls c, s.extract p (p + T)⟩, hokx⟩ : Sp)]).map (·.1) ++ spans (s.data.toList.drop (p + T)) (p + T) = spans s.data.toList 0) := Lib.hid (by
        rw [List.map_append, List.append_assoc]; exact hlast)
      have hO := byte32 (of_val s[p])
      have hE : spanLen (c :: s.data.toList.drop (p + 1)) = T := by rw [← hT, hdc, hc]
      have hdp : s.data.toList.drop p = c :: s.data.toList.drop (p + 1) := by rw [hdc, hc]
      clear hdc hT hhead hlast hlen hok
      rw [hc] at hO
      obtain ⟨k, hk'⟩ : ∃ k : Int, (cls c : Int) = k := ⟨_, rfl⟩
      rw [hk'] at hO hy
      rw [← hc] at hO
      have HPre : Hid ((pre ++ [(⟨⟨p, cls c, s.extract p (p + T)⟩, hokx⟩ : Sp)]).map (·.1) <+: spans s.data.toList 0) := Lib.hid ⟨_, HNext.out⟩
      have HO := Lib.hid hO
      have HC := Lib.hid hc
      have HK := Lib.hid hk'
      have HE := Lib.hid hE
      have HD := Lib.hid hdp
      clear hO hc hk' hE hdp
      by_cases h2 : k = 2
      · subst h2
        have hN := end_com s p (by unfold maxLen; omega) (by omega)
        have hr : run inCom (s.data.toList.drop p) = T := by
          rw [HD.out]
          have := HE.out
          have hk := HK.out
          simp only [spanLen] at this
          rwa [if_pos (by omega)] at this
        rw [hr] at hN
        have HN := Lib.hid hN
        have hsl := slice_str s p T hT2
        clear hN hr
        gi_wp2_with fail
        refine ⟨trivial, ?_⟩
        refine (callsIn_wide.2 (HO.out _)).mono ?_
        rintro e w1 ⟨rfl, rfl⟩
        gi_wp2_with fail
        refine ⟨trivial, ?_⟩
        refine (callsIn_wide.2 (HN.out _)).mono ?_
        rintro e w1 ⟨rfl, rfl⟩
        gi_wp2_with fail
        refine hRd.mono ?_
        rintro e W3 (⟨rfl, hJ3, hk3⟩ | ⟨rfl, hJx3⟩)
        · have HJ3 := Lib.hid hJ3; clear hJ3
          gi_wp2_with fail
          go_roundw
          case rel => exact ⟨p + T, _, by omega, by go_num, HNext, HJ3, hk.trans hk3⟩
          case measure => simp [intOf]; omega
        · have HJx3 := Lib.hid hJx3; clear hJx3
          gi_wp2_with fail
          refine bodyPost_ret (results_none rfl _ _ _) rfl ?_
          exact ⟨⟨_, rfl⟩, .inr ⟨_, HPre.out, HJx3.out⟩⟩
      have h2' : (k == 2) = false := by rw [beq_eq_false_iff_ne]; exact h2
      by_cases h3 : k = 3
      · subst h3
        have hN := end_nam s p (by unfold maxLen; omega) (by omega)
        have hr : run inNam (s.data.toList.drop p) = T := by
          rw [HD.out]
          have := HE.out
          have hk := HK.out
          simp only [spanLen] at this
          rwa [if_neg (by omega), if_pos (by omega)] at this
        rw [hr] at hN
        have HN := Lib.hid hN
        have hsl := slice_str s p T hT2
        clear hN hr
        gi_wp2_with fail
        refine ⟨trivial, ?_⟩
        refine (callsIn_wide.2 (HO.out _)).mono ?_
        rintro e w1 ⟨rfl, rfl⟩
        gi_wp2_with fail
        refine ⟨trivial, ?_⟩
        refine (callsIn_wide.2 (HN.out _)).mono ?_
        rintro e w1 ⟨rfl, rfl⟩
        gi_wp2_with fail
        refine hRd.mono ?_
        rintro e W3 (⟨rfl, hJ3, hk3⟩ | ⟨rfl, hJx3⟩)
        · have HJ3 := Lib.hid hJ3; clear hJ3
          gi_wp2_with fail
          go_roundw
          case rel => exact ⟨p + T, _, by omega, by go_num, HNext, HJ3, hk.trans hk3⟩
          case measure => simp [intOf]; omega
        · have HJx3 := Lib.hid hJx3; clear hJx3
          gi_wp2_with fail
          refine bodyPost_ret (results_none rfl _ _ _) rfl ?_
          exact ⟨⟨_, rfl⟩, .inr ⟨_, HPre.out, HJx3.out⟩⟩
      have h3' : (k == 3) = false := by rw [beq_eq_false_iff_ne]; exact h3
      by_cases h4 : k = 4
      · subst h4
        have hN := end_num s p (by unfold maxLen; omega) (by omega)
        have hr : run inNum (s.data.toList.drop p) = T := by
          rw [HD.out]
          have := HE.out
          have hk := HK.out
          simp only [spanLen] at this
          rwa [if_neg (by omega), if_neg (by omega), if_pos (by omega)] at this
        rw [hr] at hN
        have HN := Lib.hid hN
        have hsl := slice_str s p T hT2
        clear hN hr
        gi_wp2_with fail
        refine ⟨trivial, ?_⟩
        refine (callsIn_wide.2 (HO.out _)).mono ?_
        rintro e w1 ⟨rfl, rfl⟩
        gi_wp2_with fail
        refine ⟨trivial, ?_⟩
        refine (callsIn_wide.2 (HN.out _)).mono ?_
        rintro e w1 ⟨rfl, rfl⟩
        gi_wp2_with fail
        refine hRd.mono ?_
        rintro e W3 (⟨rfl, hJ3, hk3⟩ | ⟨rfl, hJx3⟩)
        · have HJ3 := Lib.hid hJ3; clear hJ3
          gi_wp2_with fail
          go_roundw
          case rel => exact ⟨p + T, _, by omega, by go_num, HNext, HJ3, hk.trans hk3⟩
          case measure => simp [intOf]; omega
        · have HJx3 := Lib.hid hJx3; clear hJx3
          gi_wp2_with fail
          refine bodyPost_ret (results_none rfl _ _ _) rfl ?_
          exact ⟨⟨_, rfl⟩, .inr ⟨_, HPre.out, HJx3.out⟩⟩
      have h4' : (k == 4) = false := by rw [beq_eq_false_iff_ne]; exact h4
      obtain rfl : T = 1 := by
        have := HE.out
        have hk := HK.out
        simp only [spanLen] at this
        rw [if_neg (by omega), if_neg (by omega), if_neg (by omega)] at this
        exact this.symm
      have hsl : ∀ w, (Instr.slice 9 (.string s) (some (.int .i64 (p : Int))) (some (.int .i64 ((p : Int) + 1))) none).run Tryd.prog w = .ok (.string (s.extract p (p + 1))) w := slice_str s p 1 hT2
      clear h2 h3 h4
      gi_wp2_with fail
      refine ⟨trivial, ?_⟩
      refine (callsIn_wide.2 (HO.out _)).mono ?_
      rintro e w1 ⟨rfl, rfl⟩
      gi_wp2_with fail
      refine hRd.mono ?_
      rintro e W3 (⟨rfl, hJ3, hk3⟩ | ⟨rfl, hJx3⟩)
      · have HJ3 := Lib.hid hJ3; clear hJ3
        gi_wp2_with fail
        go_roundw
        case rel => exact ⟨p + 1, _, by omega, by go_num, HNext, HJ3, hk.trans hk3⟩
        case measure => simp [intOf]; omega
      · have HJx3 := Lib.hid hJx3; clear hJx3
        gi_wp2_with fail
        refine bodyPost_ret (results_none rfl _ _ _) rfl ?_
        exact ⟨⟨_, rfl⟩, .inr ⟨_, HPre.out, HJx3.out⟩⟩
    · have hge : ¬ (p : Int) < (s.size : Int) := by omega
      obtain rfl : p = s.size := by omega
      gi_wp2_with fail
      go_end0
      refine ⟨⟨_, rfl⟩, .inl ⟨pre, ?_, HJ.out⟩⟩
      have := HP.out
      rw [List.drop_of_length_le (by rw [HL.out]; exact Nat.le_refl _), spans_nil, List.append_nil] at this
      exact this
end Go.Proofs.YtmdogklgbifacaaDoor.Lx
