/- The reference's Parts. -/
import Derived.Test.YtmdogklgbifacaaDoorPrForm
import Derived.Test.YtmdogklgbifacaaDoorApp
import Derived.Test.YtmdogklgbifacaaDoorFlat
import Derived.Test.YtmdogklgbifacaaDoorLxCut
namespace Go.Proofs.YtmdogklgbifacaaDoor.Pr
open Go.RowKit Go.Proofs.YtmdogklgbifacaaDoor.Lx
set_option linter.unusedVariables false

def partsL (acc : List UInt8) : List UInt8 → List (List UInt8)
  | [] => [acc]
  | c :: r => if c.toNat = 32 then acc :: partsL [] r else partsL (acc ++ [c]) r
def strV (l : List UInt8) : Value := .string ⟨l.toArray⟩
/-- Strings in memory that a call has made. -/
def Strs (B : Nat) (w : World) (A : Option Addr) (n c : Nat) (l : List (List UInt8)) : Prop := w.ownsRow B 9 1 (.slice A n c) n (l.map strV) ∧ l.length = n
theorem info_str : (Tryd.prog.info? 9).map (fun i => (i.zero, i.size, i.bytes)) = some (some (.string ⟨#[]⟩), 1, 16) := by kernel_rfl

theorem one_str (l : List (List UInt8)) : ∀ u ∈ l.map strV, u.oneCell' = true := by
  intro u hu
  obtain ⟨x, _, rfl⟩ := List.mem_map.1 hu
  rfl
set_option maxRecDepth 100000 in
set_option maxHeartbeats 2000000 in
theorem parts_val (s : ByteArray) (hs : s.size ≤ 1000) (w : World) :
    Calls Tryd.prog 92 #[.string s] w fun e w' => ∃ A n c, e = .returned (.slice A n c) ∧ Strs w.heap.size w' A n c (partsL [] s.data.toList) ∧ Below w.heap.size w w' := by
  obtain ⟨i0, hi, hz0, hz1, hz2⟩ := info_parts info_str
  have HL : Hid (s.data.toList.length = s.size) := Lib.hid Array.length_toList
  go_enter Tryd.func92, Tryd.ntmps92
  go_wp2_with fail
  go_loopw [3, 4, 5] (fun o f i wr => ∃ (k q n c : Nat) (A : Option Addr) (out : List (List UInt8)), k ≤ s.size + 1 ∧ q ≤ k ∧ n ≤ k ∧ o = .slice A n c ∧ f = i64 (q : Nat) ∧ i = i64 (k : Nat) ∧ Hid (Strs w.heap.size wr A n c out) ∧
    Hid (partsL [] s.data.toList = out ++ (if k ≤ s.size then partsL ((s.data.toList.take k).drop q) (s.data.toList.drop k) else [])) ∧ Below w.heap.size w wr) (fun _ _ i _ => s.size + 1 - (intOf i).toNat)
  case atStart => exact ⟨0, 0, 0, 0, none, [], Nat.zero_le _, Nat.le_refl _, Nat.le_refl _, rfl, rfl, rfl, Lib.hid ⟨World.ownsRow_nil _ _ _ _, rfl⟩, Lib.hid (by rw [if_pos (Nat.zero_le _)]; rfl), Below.refl _ _⟩
  case round =>
    obtain ⟨k, q, n, c, A, out, hk, hq, hn, rfl, rfl, rfl, HS, HG, hB⟩ := hrel
    have HB := Lib.hid hB
    clear hB
    by_cases hlt : k ≤ s.size
    · have hlt' : (k : Int) ≤ (s.size : Int) := by omega
      have hcm := cut_mid s q k hq hlt
      have hpc : strM s q k = ⟨((s.data.toList.take k).drop q).toArray⟩ := rfl
      rw [hpc] at hcm
      have hR := rd_fresh wr 9 #[strV ((s.data.toList.take k).drop q)] 1 1 [strV ((s.data.toList.take k).drop q)] rfl rfl
      have HR := Lib.hid hR
      have HO := Lib.hid (HS.out.1.kept (World.grownBy_alloc wr (.cells #[strV ((s.data.toList.take k).drop q)] 9) none) (Classical.em _))
      have HBa : Hid (Below w.heap.size w (wr.alloc (.cells #[strV ((s.data.toList.take k).drop q)] 9))) := Lib.hid (HB.out.alloc HB.out.size _)
      unfold strV at HR HO HBa
      clear hR hpc
      have hg := HG.out
      rw [if_pos hlt] at hg
      by_cases hend : k = s.size
      · subst hend
        rw [show s.data.toList.drop s.size = [] from List.drop_of_length_le (by rw [HL.out]; exact Nat.le_refl _)] at hg
        have HG2 := Lib.hid hg
        clear hg
        go_wp2_with (at_builtin; refine wpList_append_rd _ rfl (.tmp 22) (.tmp 27) _ rfl w.heap.size 9 i0 _ 1 16 Tryd.underlying39 hi hz0 hz1 hz2 rfl (by decide) _ n _ rfl HO.out _ (some ⟨wr.heap.size, 0, none⟩) 1 1 _ rfl HR.out (one_str [(s.data.toList.take s.size).drop q]) (by simp only [maxLen]; omega) (by omega) HBa.out.size ?_; intro Aa ca w5 hown1 hfm hg1; have HS5 : Hid (Strs w.heap.size w5 Aa (n + 1) ca (out ++ [(s.data.toList.take s.size).drop q])) := Lib.hid ⟨by rw [List.map_append]; exact hown1, by rw [List.length_append, HS.out.2]; rfl⟩; have HB5 := Lib.hid (own_below HO.out hg1 HBa.out (Nat.le_refl _) HBa.out.size); clear hown1 hfm hg1)
        case roundEnd =>
          refine ⟨⟨s.size + 1, s.size + 1, n + 1, ca, Aa, out ++ [(s.data.toList.take s.size).drop q], Nat.le_refl _, Nat.le_refl _, by omega, rfl, rfl, rfl, HS5, Lib.hid ?_, HB5.out⟩, ?_⟩
          · rw [if_neg (by omega), List.append_nil, HG2.out]; rfl
          · simp only [intOf]; omega
      · have hkl : k < s.data.toList.length := by rw [HL.out]; omega
        have he : ((k : Int) == (s.size : Int)) = false := by rw [beq_eq_false_iff_ne]; omega
        have hlt2 : (k : Int) < (s.size : Int) := by omega
        obtain ⟨b, hb⟩ : ∃ b, s[k]'(by omega) = b := ⟨_, rfl⟩
        have hbb : s.data.toList[k] = b := hb
        rw [List.drop_eq_getElem_cons hkl, hbb] at hg
        simp only [partsL] at hg
        by_cases h32 : b.toNat = 32
        · have e32 : ((b.toNat : Int) == 32) = true := by rw [beq_iff_eq]; omega
          rw [if_pos h32] at hg
          have HG2 := Lib.hid hg
          clear hg hbb h32
          go_wp2_with (at_builtin; refine wpList_append_rd _ rfl (.tmp 22) (.tmp 27) _ rfl w.heap.size 9 i0 _ 1 16 Tryd.underlying39 hi hz0 hz1 hz2 rfl (by decide) _ n _ rfl HO.out _ (some ⟨wr.heap.size, 0, none⟩) 1 1 _ rfl HR.out (one_str [(s.data.toList.take k).drop q]) (by simp only [maxLen]; omega) (by omega) HBa.out.size ?_; intro Aa ca w5 hown1 hfm hg1; have HS5 : Hid (Strs w.heap.size w5 Aa (n + 1) ca (out ++ [(s.data.toList.take k).drop q])) := Lib.hid ⟨by rw [List.map_append]; exact hown1, by rw [List.length_append, HS.out.2]; rfl⟩; have HB5 := Lib.hid (own_below HO.out hg1 HBa.out (Nat.le_refl _) HBa.out.size); clear hown1 hfm hg1)
          case roundEnd =>
            refine ⟨⟨k + 1, k + 1, n + 1, ca, Aa, out ++ [(s.data.toList.take k).drop q], by omega, Nat.le_refl _, by omega, rfl, rfl, rfl, HS5, Lib.hid ?_, HB5.out⟩, ?_⟩
            · rw [if_pos (by omega), HG2.out, List.append_assoc, List.drop_of_length_le (l := s.data.toList.take (k + 1)) (by rw [List.length_take]; omega)]; rfl
            · simp only [intOf]; omega
        · have e32 : ((b.toNat : Int) == 32) = false := by rw [beq_eq_false_iff_ne]; omega
          rw [if_neg h32] at hg
          have hnx : (s.data.toList.take (k + 1)).drop q = (s.data.toList.take k).drop q ++ [b] := by
            rw [List.take_succ_eq_append_getElem hkl, hbb, List.drop_append_of_le_length (by rw [List.length_take]; omega)]
          have HG2 := Lib.hid hg
          clear hg hbb h32 HR HO HBa
          go_wp2_with fail
          case roundEnd =>
            refine ⟨⟨k + 1, q, n, c, A, out, by omega, by omega, by omega, rfl, rfl, rfl, HS, Lib.hid ?_, HB.out⟩, ?_⟩
            · rw [if_pos (by omega), hnx]; exact HG2.out
            · simp only [intOf]; omega
    · have hlt' : ¬ (k : Int) ≤ (s.size : Int) := by omega
      have hg := HG.out
      rw [if_neg hlt, List.append_nil] at hg
      have HG2 := Lib.hid hg
      clear hg
      go_wp2_with fail
      go_ret
      refine ⟨A, n, c, rfl, ?_, HB.out⟩
      rw [HG2.out]
      exact HS.out
end Go.Proofs.YtmdogklgbifacaaDoor.Pr
