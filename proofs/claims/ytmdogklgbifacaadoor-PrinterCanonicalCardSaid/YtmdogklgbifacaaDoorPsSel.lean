/- The tables' entries, the forms that they lead to. Printed by wip/mk_pssel.py. -/
import Derived.Test.YtmdogklgbifacaaDoorPsOut
import Derived.Test.YtmdogklgbifacaaDoorPsLine
namespace Go.Proofs.YtmdogklgbifacaaDoor.Ps
open Go.RowKit Go.Proofs.YtmdogklgbifacaaDoor.Lx Go.Proofs.YtmdogklgbifacaaDoor.Pr
set_option linter.unusedVariables false
/-- An entry's function reads the form's middle. -/
def FormAt (wP : World) (rb e m : Nat) (w : World) (v : Value) (k : Nat) (mid : List (List UInt8)) : Prop :=
  ∃ f caps, v = .agg #[.int .i64 (k : Nat), .func (.func f) #[] caps] ∧ (∀ args w, (callFunc f args).run Tryd.prog w = .ok (.enter f args) w) ∧ ∀ W' A n c ts K nm NV ns at_, Gr rb none w W' → (∀ j, NV.ownBlock = some j → j < m) → ns.length ≤ 2 → Wf ts → RS wP rb e A n c ts K nm NV ns at_ W' →
    Calls Tryd.prog f (#[.pointer (some ⟨rb, 0, none⟩)] ++ caps) W' (Post wP rb e mid ts K nm NV ns at_ W')
/-- What a word leads to. -/
def SelAt (T : List (ByteArray × Value)) (tab : List (List UInt8 × Nat)) (pre : List (List UInt8)) (wP : World) (rb e m : Nat) (w : World) (tx : ByteArray) : Prop :=
  (T.find? (fun x => tx == x.1) = none ∧ lookB tab tx.data.toList = none) ∨
  (∃ x k mid, T.find? (fun x => tx == x.1) = some x ∧ lookB tab tx.data.toList = some k ∧ expL k = pre ++ ([tx.data.toList] ++ (mid ++ [[59]])) ∧ tx.data.toList ≠ [35] ∧ tx.data.toList ≠ [110] ∧ tx.data.toList ≠ [100] ∧ tx.data.toList ≠ [] ∧ mid.getLast? ≠ some [100] ∧ FormAt wP rb e m w x.2 k mid)
theorem bne_of {x y : ByteArray} (h : x ≠ y) : (x == y) = false := by
  obtain ⟨a⟩ := x
  obtain ⟨b⟩ := y
  show (a == b) = false
  rw [beq_eq_false_iff_ne]
  exact fun q => h (by rw [q])
theorem ne_list {tx : ByteArray} {s : List UInt8} (h : tx ≠ ⟨s.toArray⟩) : (s == tx.data.toList) = false := by
  rw [beq_eq_false_iff_ne]
  intro q
  refine h ?_
  subst q
  rfl
theorem cmd_sel (wP : World) (rb e m : Nat) (w : World) (tx : ByteArray) : SelAt cmdT cmdTab [] wP rb e m w tx := by
  by_cases h0 : tx = ⟨#[109, 101, 115, 104]⟩
  · subst h0
    refine .inr ⟨_, 1, [[100, 97, 116, 97], [35], [114, 97, 110, 103, 101], [35]], rfl, rfl, expL_1, by decide, by decide, by decide, by decide, by decide, ?_⟩
    exact ⟨74, #[], rfl, fun args w => by kernel_rfl, fun W' A n c ts K nm NV ns at_ _ _ hl hw h => c1_val hl hw h⟩
  by_cases h1 : tx = ⟨#[114, 111, 111, 116]⟩
  · subst h1
    refine .inr ⟨_, 2, [[110], [97, 116], [35], [35]], rfl, rfl, expL_2, by decide, by decide, by decide, by decide, by decide, ?_⟩
    exact ⟨76, #[], rfl, fun args w => by kernel_rfl, fun W' A n c ts K nm NV ns at_ _ _ hl hw h => c2_val hl hw h⟩
  by_cases h2 : tx = ⟨#[110, 111, 100, 101]⟩
  · subst h2
    refine .inr ⟨_, 3, [[110], [97, 116], [35], [35], [100], [35], [98, 97, 116, 116, 101, 114, 121], [35]], rfl, rfl, expL_3, by decide, by decide, by decide, by decide, by decide, ?_⟩
    exact ⟨78, #[], rfl, fun args w => by kernel_rfl, fun W' A n c ts K nm NV ns at_ _ _ hl hw h => c3_val hl hw h⟩
  by_cases h3 : tx = ⟨#[114, 117, 110]⟩
  · subst h3
    refine .inr ⟨_, 11, [[35]], rfl, rfl, expL_11, by decide, by decide, by decide, by decide, by decide, ?_⟩
    exact ⟨80, #[], rfl, fun args w => by kernel_rfl, fun W' A n c ts K nm NV ns at_ _ _ hl hw h => c4_val hl hw h⟩
  refine .inl ⟨?_, ?_⟩
  · simp only [cmdT, List.find?_cons, List.find?_nil, bne_of h0, bne_of h1, bne_of h2, bne_of h3]
  · unfold lookB cmdTab
    simp only [List.find?_cons, List.find?_nil, ne_list (s := [109, 101, 115, 104]) h0, ne_list (s := [114, 111, 111, 116]) h1, ne_list (s := [110, 111, 100, 101]) h2, ne_list (s := [114, 117, 110]) h3]
    rfl
theorem ev_sel (wP : World) (rb e m : Nat) (w : World) (hT : EvTab m w) (hrb : rb < m) (tx : ByteArray) : SelAt (evT m) evTab [[97, 116], [35]] wP rb e m w tx := by
  by_cases h0 : tx = ⟨#[109, 111, 118, 101]⟩
  · subst h0
    refine .inr ⟨_, 4, [[110], [35], [35]], rfl, rfl, expL_4, by decide, by decide, by decide, by decide, by decide, ?_⟩
    refine ⟨82, #[.pointer (some ⟨m + 1, 0, none⟩)], rfl, fun args w => by kernel_rfl, fun W' A n c ts K nm NV ns at_ hg hn hl hw h => ?_⟩
    have hk := hg.blk hT.b1 (by omega) (by simp)
    exact e1_val 2 (by omega) hl hw hk (fun q => by have := hn _ q; omega) h
  by_cases h1 : tx = ⟨#[102, 97, 105, 108]⟩
  · subst h1
    refine .inr ⟨_, 5, [[110]], rfl, rfl, expL_5, by decide, by decide, by decide, by decide, by decide, ?_⟩
    refine ⟨82, #[.pointer (some ⟨m + 2, 0, none⟩)], rfl, fun args w => by kernel_rfl, fun W' A n c ts K nm NV ns at_ hg hn hl hw h => ?_⟩
    have hk := hg.blk hT.b2 (by omega) (by simp)
    exact e1_val 0 (by omega) hl hw hk (fun q => by have := hn _ q; omega) h
  by_cases h2 : tx = ⟨#[115, 116, 97, 114, 116]⟩
  · subst h2
    refine .inr ⟨_, 6, [[110]], rfl, rfl, expL_6, by decide, by decide, by decide, by decide, by decide, ?_⟩
    refine ⟨82, #[.pointer (some ⟨m + 3, 0, none⟩)], rfl, fun args w => by kernel_rfl, fun W' A n c ts K nm NV ns at_ hg hn hl hw h => ?_⟩
    have hk := hg.blk hT.b3 (by omega) (by simp)
    exact e1_val 0 (by omega) hl hw hk (fun q => by have := hn _ q; omega) h
  by_cases h3 : tx = ⟨#[114, 101, 97, 100]⟩
  · subst h3
    refine .inr ⟨_, 7, [[110], [35]], rfl, rfl, expL_7, by decide, by decide, by decide, by decide, by decide, ?_⟩
    refine ⟨82, #[.pointer (some ⟨m + 4, 0, none⟩)], rfl, fun args w => by kernel_rfl, fun W' A n c ts K nm NV ns at_ hg hn hl hw h => ?_⟩
    have hk := hg.blk hT.b4 (by omega) (by simp)
    exact e1_val 1 (by omega) hl hw hk (fun q => by have := hn _ q; omega) h
  by_cases h4 : tx = ⟨#[106, 97, 109]⟩
  · subst h4
    refine .inr ⟨_, 8, [[35], [35], [114, 97, 100, 105, 117, 115], [35], [99, 104, 97, 110, 110, 101, 108], [35], [102, 111, 114], [35]], rfl, rfl, expL_8, by decide, by decide, by decide, by decide, by decide, ?_⟩
    exact ⟨83, #[], rfl, fun args w => by kernel_rfl, fun W' A n c ts K nm NV ns at_ _ _ hl hw h => e2_val hl hw h⟩
  by_cases h5 : tx = ⟨#[114, 101, 112, 108, 97, 121]⟩
  · subst h5
    refine .inr ⟨_, 9, [[35], [97, 116], [35], [35]], rfl, rfl, expL_9, by decide, by decide, by decide, by decide, by decide, ?_⟩
    exact ⟨84, #[], rfl, fun args w => by kernel_rfl, fun W' A n c ts K nm NV ns at_ _ _ hl hw h => e3_val hl hw h⟩
  by_cases h6 : tx = ⟨#[112, 114, 111, 103, 114, 97, 109]⟩
  · subst h6
    refine .inr ⟨_, 10, [[35], [115, 105, 122, 101], [35]], rfl, rfl, expL_10, by decide, by decide, by decide, by decide, by decide, ?_⟩
    exact ⟨85, #[], rfl, fun args w => by kernel_rfl, fun W' A n c ts K nm NV ns at_ _ _ hl hw h => e4_val hl hw h⟩
  refine .inl ⟨?_, ?_⟩
  · simp only [evT, List.find?_cons, List.find?_nil, bne_of h0, bne_of h1, bne_of h2, bne_of h3, bne_of h4, bne_of h5, bne_of h6]
  · unfold lookB evTab
    simp only [List.find?_cons, List.find?_nil, ne_list (s := [109, 111, 118, 101]) h0, ne_list (s := [102, 97, 105, 108]) h1, ne_list (s := [115, 116, 97, 114, 116]) h2, ne_list (s := [114, 101, 97, 100]) h3, ne_list (s := [106, 97, 109]) h4, ne_list (s := [114, 101, 112, 108, 97, 121]) h5, ne_list (s := [112, 114, 111, 103, 114, 97, 109]) h6]
    rfl
end Go.Proofs.YtmdogklgbifacaaDoor.Ps
