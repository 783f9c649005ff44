/- The reference's numbers and drifts. -/
import Derived.Deep.RegionHeld3
import Derived.Lib.ItoaLen
import Derived.Lib.ItoaMem
import Derived.Test.YtmdogklgbifacaaDoorPrValid
import Derived.Test.YtmdogklgbifacaaDoorLxText
namespace Go.Proofs.YtmdogklgbifacaaDoor.Pr
open Go.RowKit Go.Proofs.YtmdogklgbifacaaDoor.Lx
set_option linter.unusedVariables false

theorem conv_at (k g : Nat) (W : World) (h : W.cell? ⟨g, 0, none⟩ = some (.int .u8 (48 + (k : Int) % 10))) : (convert 35 9 (.slice (some ⟨g, 0, none⟩) 1 1)).run Tryd.prog W = .ok (.string ⟨#[dgt k]⟩) W := by
  have := run_convert_bytes_back (P := Tryd.prog) W 35 9 5 ⟨g, 0, none⟩ 1 [dgt k] Tryd.underlying35 Tryd.underlying5 Tryd.underlying9 (fun j hj => by
    simp only [List.length_singleton] at hj
    obtain rfl : j = 0 := by omega
    rw [show (⟨g, 0, none⟩ : Addr).add 0 = ⟨g, 0, none⟩ from rfl, h]
    simp [dgt_nat])
  exact this
theorem dec_len {n : Nat} (h : n ≤ 1000000000) : (Lib.decDigits n).length ≤ 21 := by
  rw [← Lib.itoa_nonneg]; exact Lib.itoa_length_le _ (by omega) (by omega)
set_option maxRecDepth 100000 in
set_option maxHeartbeats 1000000 in
theorem number_val : ∀ (n : Nat) (hn : n ≤ 1000000000) (w : World),
    Calls Tryd.prog 44 #[i64 (n : Nat)] w fun e w' => e = .returned (.string ⟨(Lib.decDigits n).toArray⟩) ∧ Below w.heap.size w w' := by
  intro n
  induction n using Nat.strongRecOn with
  | ind n ih =>
    intro hn w
    by_cases h10 : n < 10
    · have h10' : (n : Int) < 10 := by omega
      have HD : Hid (Lib.decDigits n = [dgt n]) := Lib.hid (dec_small h10)
      have e1 : (48 + (n : Int)) % 256 = 48 + (n : Int) % 10 := by omega
      have hcv := conv_at n w.heap.size (w.alloc (.cells #[.int .u8 (48 + (n : Int) % 10)] 5)) ((Blk.new w _ _).cell 0)
      rw [show (48 + (n : Int) % 10) = 48 + (n : Int) by omega] at hcv
      have HBn := Lib.hid ((Below.refl _ w).alloc (Nat.le_refl _) (.cells #[.int .u8 (48 + (n : Int))] 5))
      clear ih e1
      go_enter Tryd.func44, Tryd.ntmps44
      go_wp2_with fail
      go_ret
      rw [HD.out]
      exact ⟨rfl, HBn.out⟩
    · have h10' : ¬ (n : Int) < 10 := by omega
      have HD : Hid (Lib.decDigits n = Lib.decDigits (n / 10) ++ [dgt n]) := Lib.hid (dec_big h10)
      have HR := Lib.hid (ih (n / 10) (by omega) (by omega))
      obtain ⟨D, hD⟩ : ∃ D : ByteArray, ⟨(Lib.decDigits (n / 10)).toArray⟩ = D := ⟨_, rfl⟩
      have hDs : D.size ≤ 21 := by rw [← hD]; exact dec_len (by omega)
      have HDl : Hid (D.data.toList = Lib.decDigits (n / 10)) := Lib.hid (by rw [← hD])
      rw [hD] at HR
      have HRES : Hid (Ending.returned (Value.string (D ++ (⟨#[dgt n]⟩ : ByteArray))) = .returned (.string ⟨(Lib.decDigits n).toArray⟩)) := Lib.hid (by
        rw [HD.out]
        exact congrArg (fun x => Ending.returned (Value.string x)) (ByteArray.ext (Array.ext' (by rw [Joins.data_append]; simp [HDl.out])))) 
      clear hD
      have hq : IntKind.i64.wrap ((n : Int) / 10) = ((n / 10 : Nat) : Int) := by rw [IntKind.wrap_i64]; omega
      have hm : (n : Int).tmod 10 = (n : Int) % 10 := Int.tmod_eq_emod_of_nonneg (by omega)
      have hm2 : IntKind.i64.wrap (48 + (n : Int) % 10) = 48 + (n : Int) % 10 := by rw [IntKind.wrap_i64]; omega
      have hm3 : IntKind.u8.wrap (48 + (n : Int) % 10) = 48 + (n : Int) % 10 := by rw [IntKind.wrap_u8]; omega
      have HC0 := Lib.hid (((Blk.new w 5 #[.int .u8 (48 + (n : Int) % 10)]).drew.cell 0))
      have HB0 := Lib.hid ((Below.refl w.heap.size w).drew)
      have HB1 := Lib.hid (((Below.refl w.heap.size w).alloc (Nat.le_refl _) (.cells #[.int .u8 (48 + (n : Int) % 10)] 5)).drew)
      clear ih
      go_enter Tryd.func44, Tryd.ntmps44
      go_wp2_with fail
      go_region_with (first
        | (go_at_call 44; refine (HR.out _).mono ?_; rintro e w5 ⟨rfl, hb5⟩; have HC5 := Lib.hid ((Blk.new w5 5 #[.int .u8 (48 + (n : Int) % 10)]).cell 0); (try have HC6 := Lib.hid (((Blk.new w 5 #[.int .u8 (48 + (n : Int) % 10)]).drew.up' hb5).cell 0)); have HB5 : Hid (Below w.heap.size w w5) := Lib.hid (by first | exact HB0.out.trans (hb5.mono HB0.out.size) | exact HB1.out.trans (hb5.mono HB1.out.size)); clear hb5)
        | ((first | rw [conv_at n _ _ HC0.out] | rw [conv_at n _ _ HC5.out] | rw [conv_at n _ _ HC6.out]); simp only [Result.andThen_ok, Oper.upon_value]))
      all_goals
        go_wp2_with fail
        go_ret
        exact ⟨HRES.out, by first | exact HB5.out | exact HB5.out.alloc HB5.out.size _⟩

/-- The text of a drift. -/
def driftL (v : Int) : List UInt8 := (if v < 0 then [115, 108, 111, 119, 32] else [102, 97, 115, 116, 32]) ++ Lib.decDigits v.natAbs
set_option maxRecDepth 100000 in
set_option maxHeartbeats 1000000 in
theorem drift_val (v : Int) (h0 : -1000000000 ≤ v) (h1 : v ≤ 1000000000) (w : World) :
    Calls Tryd.prog 45 #[i64 v] w fun e w' => e = .returned (.string ⟨(driftL v).toArray⟩) ∧ Below w.heap.size w w' := by
  have hdl := dec_len (n := v.natAbs) (by omega)
  have HR := Lib.hid (number_val v.natAbs (by omega))
  obtain ⟨D, hD⟩ : ∃ D : ByteArray, ⟨(Lib.decDigits v.natAbs).toArray⟩ = D := ⟨_, rfl⟩
  have hDs : D.size ≤ 21 := by rw [← hD]; exact hdl
  have HDl : Hid (D.data.toList = Lib.decDigits v.natAbs) := Lib.hid (by rw [← hD])
  rw [hD] at HR
  clear hD hdl
  by_cases hv : v < 0
  · have hneg : ((v.natAbs : Nat) : Int) = -v := by omega
    rw [hneg] at HR
    have HRES : Hid (Ending.returned (Value.string ((⟨#[115, 108, 111, 119, 32]⟩ : ByteArray) ++ D)) = .returned (.string ⟨(driftL v).toArray⟩)) := Lib.hid (by
      refine congrArg (fun x => Ending.returned (Value.string x)) (ByteArray.ext (Array.ext' ?_))
      rw [Joins.data_append]
      unfold driftL
      rw [if_pos hv, HDl.out])
    clear hneg
    go_enter Tryd.func45, Tryd.ntmps45
    go_wp2_with fail
    refine (HR.out _).mono ?_
    rintro e w1 ⟨rfl, hb1⟩
    have HB1 := Lib.hid hb1
    clear hb1
    go_wp2_with fail
    go_ret
    exact ⟨HRES.out, HB1.out⟩
  · have hpos : ((v.natAbs : Nat) : Int) = v := by omega
    rw [hpos] at HR
    have HRES : Hid (Ending.returned (Value.string ((⟨#[102, 97, 115, 116, 32]⟩ : ByteArray) ++ D)) = .returned (.string ⟨(driftL v).toArray⟩)) := Lib.hid (by
      refine congrArg (fun x => Ending.returned (Value.string x)) (ByteArray.ext (Array.ext' ?_))
      rw [Joins.data_append]
      unfold driftL
      rw [if_neg hv, HDl.out])
    clear hpos
    go_enter Tryd.func45, Tryd.ntmps45
    go_wp2_with fail
    refine (HR.out _).mono ?_
    rintro e w1 ⟨rfl, hb1⟩
    have HB1 := Lib.hid hb1
    clear hb1
    go_wp2_with fail
    go_ret
    exact ⟨HRES.out, HB1.out⟩
end Go.Proofs.YtmdogklgbifacaaDoor.Pr
