/- The reference's numbers and drifts. The printer in plain Lean: lines of commands. The reference's Line. The reference's Tokens and Print. The variables that the printer reads. -/
import Derived.Deep.RegionHeld3
import Derived.Lib.ItoaLen
import Derived.Lib.ItoaMem
import Derived.Test.YtmdogklgbifacaaDoorPrA
import Derived.Test.YtmdogklgbifacaaDoorLxB
import Derived.Deep.QuietTactic
import Derived.BigQuiet
import Derived.Test.YtmdogklgbifacaaDoorBas
import Derived.Lib.LaidTab
import Derived.Lib.ItoaNum
import Derived.Test.YtmdogklgbifacaaDoorLxA

/- The reference's numbers and drifts. -/
namespace Go.Proofs.YtmdogklgbifacaaDoor.Pr
open Go.RowKit Go.Proofs.YtmdogklgbifacaaDoor.Lx
set_option linter.unusedVariables false

theorem conv_at (k g : Nat) (W : World) (h : W.cell? ⟨g, 0, none⟩ = some (.int .u8 (48 + (k : Int) % 10))) : (convert 35 9 (.slice (some ⟨g, 0, none⟩) 1 1)).run Tryd.prog W = .ok (.string ⟨#[dgt k]⟩) W := by
  have := run_convert_bytes_back (P := Tryd.prog) W 35 9 5 ⟨g, 0, none⟩ 1 [dgt k] Tryd.underlying35 Tryd.underlying5 Tryd.underlying9 (fun j hj => by
    simp only [List.length_singleton] at hj
    obtain rfl : j = 0 := by omega
    rw [show (⟨g, 0, none⟩ : Addr).add 0 = ⟨g, 0, none⟩ from rfl, h]
    simp [dgt_nat])
  exact this
theorem dec_len {n : Nat} (h : n ≤ 1000000000) : (Lib.decDigits n).length ≤ 21 := by
  rw [← Lib.itoa_nonneg]; exact Lib.itoa_length_le _ (by omega) (by omega)
set_option maxRecDepth 100000 in
set_option maxHeartbeats 1000000 in
theorem number_val : ∀ (n : Nat) (hn : n ≤ 1000000000) (w : World),
    Calls Tryd.prog 44 #[i64 (n : Nat)] w fun e w' => e = .returned (.string ⟨(Lib.decDigits n).toArray⟩) ∧ Below w.heap.size w w' := by
  intro n
  induction n using Nat.strongRecOn with
  | ind n ih =>
    intro hn w
    by_cases h10 : n < 10
    · have h10' : (n : Int) < 10 := by omega
      have HD : Hid (Lib.decDigits n = [dgt n]) := Lib.hid (dec_small h10)
      have e1 : (48 + (n : Int)) % 256 = 48 + (n : Int) % 10 := by omega
      have hcv := conv_at n w.heap.size (w.alloc (.cells #[.int .u8 (48 + (n : Int) % 10)] 5)) ((Blk.new w _ _).cell 0)
      rw [show (48 + (n : Int) % 10) = 48 + (n : Int) by omega] at hcv
      have HBn := Lib.hid ((Below.refl _ w).alloc (Nat.le_refl _) (.cells #[.int .u8 (48 + (n : Int))] 5))
      clear ih e1
      go_enter Tryd.func44, Tryd.ntmps44
      go_wp2_with fail
      go_ret
      rw [HD.out]
      exact ⟨rfl, HBn.out⟩
    · have h10' : ¬ (n : Int) < 10 := by omega
      have HD : Hid (Lib.decDigits n = Lib.decDigits (n / 10) ++ [dgt n]) := Lib.hid (dec_big h10)
      have HR := Lib.hid (ih (n / 10) (by omega) (by omega))
      obtain ⟨D, hD⟩ : ∃ D : ByteArray, ⟨(Lib.decDigits (n / 10)).toArray⟩ = D := ⟨_, rfl⟩
      have hDs : D.size ≤ 21 := by rw [← hD]; exact dec_len (by omega)
      have HDl : Hid (D.data.toList = Lib.decDigits (n / 10)) := Lib.hid (by rw [← hD])
      rw [hD] at HR
      have HRES : Hid (Ending.returned (Value.string (D ++ (⟨#[dgt n]⟩ : ByteArray))) = .returned (.string ⟨(Lib.decDigits n).toArray⟩)) := Lib.hid (by
        rw [HD.out]
        exact congrArg (fun x => Ending.returned (Value.string x)) (ByteArray.ext (Array.ext' (by rw [Joins.data_append]; simp [HDl.out])))) 
      clear hD
      have hq : IntKind.i64.wrap ((n : Int) / 10) = ((n / 10 : Nat) : Int) := by rw [IntKind.wrap_i64]; omega
      have hm : (n : Int).tmod 10 = (n : Int) % 10 := Int.tmod_eq_emod_of_nonneg (by omega)
      have hm2 : IntKind.i64.wrap (48 + (n : Int) % 10) = 48 + (n : Int) % 10 := by rw [IntKind.wrap_i64]; omega
      have hm3 : IntKind.u8.wrap (48 + (n : Int) % 10) = 48 + (n : Int) % 10 := by rw [IntKind.wrap_u8]; omega
      have HC0 := Lib.hid (((Blk.new w 5 #[.int .u8 (48 + (n : Int) % 10)]).drew.cell 0))
      have HB0 := Lib.hid ((Below.refl w.heap.size w).drew)
      have HB1 := Lib.hid (((Below.refl w.heap.size w).alloc (Nat.le_refl _) (.cells #[.int .u8 (48 + (n : Int) % 10)] 5)).drew)
      clear ih
      go_enter Tryd.func44, Tryd.ntmps44
      go_wp2_with fail
      go_region_with (first
        | (go_at_call 44; refine (HR.out _).mono ?_; rintro e w5 ⟨rfl, hb5⟩; have HC5 := Lib.hid ((Blk.new w5 5 #[.int .u8 (48 + (n : Int) % 10)]).cell 0); (try have HC6 := Lib.hid (((Blk.new w 5 #[.int .u8 (48 + (n : Int) % 10)]).drew.up' hb5).cell 0)); have HB5 : Hid (Below w.heap.size w w5) := Lib.hid (by first | exact HB0.out.trans (hb5.mono HB0.out.size) | exact HB1.out.trans (hb5.mono HB1.out.size)); clear hb5)
        | ((first | rw [conv_at n _ _ HC0.out] | rw [conv_at n _ _ HC5.out] | rw [conv_at n _ _ HC6.out]); simp only [Result.andThen_ok, Oper.upon_value]))
      all_goals
        go_wp2_with fail
        go_ret
        exact ⟨HRES.out, by first | exact HB5.out | exact HB5.out.alloc HB5.out.size _⟩

/-- The text of a drift. -/
def driftL (v : Int) : List UInt8 := (if v < 0 then [115, 108, 111, 119, 32] else [102, 97, 115, 116, 32]) ++ Lib.decDigits v.natAbs
set_option maxRecDepth 100000 in
set_option maxHeartbeats 1000000 in
theorem drift_val (v : Int) (h0 : -1000000000 ≤ v) (h1 : v ≤ 1000000000) (w : World) :
    Calls Tryd.prog 45 #[i64 v] w fun e w' => e = .returned (.string ⟨(driftL v).toArray⟩) ∧ Below w.heap.size w w' := by
  have hdl := dec_len (n := v.natAbs) (by omega)
  have HR := Lib.hid (number_val v.natAbs (by omega))
  obtain ⟨D, hD⟩ : ∃ D : ByteArray, ⟨(Lib.decDigits v.natAbs).toArray⟩ = D := ⟨_, rfl⟩
  have hDs : D.size ≤ 21 := by rw [← hD]; exact hdl
  have HDl : Hid (D.data.toList = Lib.decDigits v.natAbs) := Lib.hid (by rw [← hD])
  rw [hD] at HR
  clear hD hdl
  by_cases hv : v < 0
  · have hneg : ((v.natAbs : Nat) : Int) = -v := by omega
    rw [hneg] at HR
    have HRES : Hid (Ending.returned (Value.string ((⟨#[115, 108, 111, 119, 32]⟩ : ByteArray) ++ D)) = .returned (.string ⟨(driftL v).toArray⟩)) := Lib.hid (by
      refine congrArg (fun x => Ending.returned (Value.string x)) (ByteArray.ext (Array.ext' ?_))
      rw [Joins.data_append]
      unfold driftL
      rw [if_pos hv, HDl.out])
    clear hneg
    go_enter Tryd.func45, Tryd.ntmps45
    go_wp2_with fail
    refine (HR.out _).mono ?_
    rintro e w1 ⟨rfl, hb1⟩
    have HB1 := Lib.hid hb1
    clear hb1
    go_wp2_with fail
    go_ret
    exact ⟨HRES.out, HB1.out⟩
  · have hpos : ((v.natAbs : Nat) : Int) = v := by omega
    rw [hpos] at HR
    have HRES : Hid (Ending.returned (Value.string ((⟨#[102, 97, 115, 116, 32]⟩ : ByteArray) ++ D)) = .returned (.string ⟨(driftL v).toArray⟩)) := Lib.hid (by
      refine congrArg (fun x => Ending.returned (Value.string x)) (ByteArray.ext (Array.ext' ?_))
      rw [Joins.data_append]
      unfold driftL
      rw [if_neg hv, HDl.out])
    clear hpos
    go_enter Tryd.func45, Tryd.ntmps45
    go_wp2_with fail
    refine (HR.out _).mono ?_
    rintro e w1 ⟨rfl, hb1⟩
    have HB1 := Lib.hid hb1
    clear hb1
    go_wp2_with fail
    go_ret
    exact ⟨HRES.out, HB1.out⟩
end Go.Proofs.YtmdogklgbifacaaDoor.Pr

/- The printer in plain Lean: lines of commands. -/
namespace Go.Proofs.YtmdogklgbifacaaDoor.Pr
open Go.RowKit Go.Proofs.YtmdogklgbifacaaDoor.Lx
set_option linter.unusedVariables false

/-- The printer's form of a kind. -/
def formP (k : Nat) : List UInt8 :=
  if k = 1 then [109, 101, 115, 104, 32, 100, 97, 116, 97, 32, 35, 32, 114, 97, 110, 103, 101, 32, 35]
  else if k = 2 then [114, 111, 111, 116, 32, 78, 32, 97, 116, 32, 35, 32, 35]
  else if k = 3 then [110, 111, 100, 101, 32, 78, 32, 97, 116, 32, 35, 32, 35, 32, 37, 32, 98, 97, 116, 116, 101, 114, 121, 32, 35]
  else if k = 4 then [97, 116, 32, 35, 32, 109, 111, 118, 101, 32, 78, 32, 35, 32, 35]
  else if k = 5 then [97, 116, 32, 35, 32, 102, 97, 105, 108, 32, 78]
  else if k = 6 then [97, 116, 32, 35, 32, 115, 116, 97, 114, 116, 32, 78]
  else if k = 7 then [97, 116, 32, 35, 32, 114, 101, 97, 100, 32, 78, 32, 35]
  else if k = 8 then [97, 116, 32, 35, 32, 106, 97, 109, 32, 35, 32, 35, 32, 114, 97, 100, 105, 117, 115, 32, 35, 32, 99, 104, 97, 110, 110, 101, 108, 32, 35, 32, 102, 111, 114, 32, 35]
  else if k = 9 then [97, 116, 32, 35, 32, 114, 101, 112, 108, 97, 121, 32, 35, 32, 97, 116, 32, 35, 32, 35]
  else if k = 10 then [97, 116, 32, 35, 32, 112, 114, 111, 103, 114, 97, 109, 32, 35, 32, 115, 105, 122, 101, 32, 35]
  else if k = 11 then [114, 117, 110, 32, 35]
  else []
/-- The digits of a number. -/
def dg (v : Int) : List UInt8 := Lib.decDigits v.natAbs
/-- What stands behind a part of a form. -/
def wrF (nm : List UInt8) : List UInt8 → List Int → List UInt8
  | [], _ => []
  | c :: r, ns => if c = 78 then nm ++ wrF nm r ns else if c = 37 then driftL (ns.headD 0) ++ wrF nm r ns.tail else if c = 35 then dg (ns.headD 0) ++ wrF nm r ns.tail else c :: wrF nm r ns
/-- The line of a command, without its line feed. -/
def lineL (k : Int) (nm : List UInt8) (ns : List Int) : List UInt8 := wrF nm (formP k.toNat) ns ++ [59]
def kind11 (k : Int) : Prop := k = 1 ∨ k = 2 ∨ k = 3 ∨ k = 4 ∨ k = 5 ∨ k = 6 ∨ k = 7 ∨ k = 8 ∨ k = 9 ∨ k = 10 ∨ k = 11
theorem numsB_get : ∀ (ns : List Int) (k : Int) (i : Nat), numsB k i ns = true → ∀ j (h : j < ns.length), numB k (i + j) ns[j] = true
  | [], k, i, h, j, hj => absurd hj (by simp)
  | v :: r, k, i, h, 0, hj => by simp only [numsB, Bool.and_eq_true] at h; exact h.1
  | v :: r, k, i, h, j + 1, hj => by
    simp only [numsB, Bool.and_eq_true] at h
    have := numsB_get r k (i + 1) h.2 j (by simpa using hj)
    rw [show i + (j + 1) = i + 1 + j by omega]
    exact this
structure OkC (k : Int) (nm : ByteArray) (ns : List Int) : Prop where
  kind : kind11 k
  len : (ns.length : Int) = (shapeOf k).2
  named : (shapeOf k).1 = true → nameB nm = true
  bare : (shapeOf k).1 = false → nm.size = 0
  nums : ∀ j (h : j < ns.length), numB k j ns[j] = true
theorem okC_of {k : Int} {nm : ByteArray} {ns : List Int} (h : cmdB k nm ns = true) : OkC k nm ns := by
  unfold cmdB at h
  simp only [Bool.and_eq_true, decide_eq_true_eq, Bool.or_eq_true, Bool.not_eq_true'] at h
  obtain ⟨⟨h1, h2⟩, h3, h4⟩ := h
  refine ⟨?_, h1, ?_, ?_, fun j hj => by have := numsB_get ns k 0 h4 j hj; rwa [Nat.zero_add] at this⟩
  · by_cases hk : k = 1 ∨ k = 2 ∨ k = 3 ∨ k = 4 ∨ k = 5 ∨ k = 6 ∨ k = 7 ∨ k = 8 ∨ k = 9 ∨ k = 10 ∨ k = 11
    · exact hk
    · rw [shape_none hk] at h1; exact absurd h1 (by simp only; omega)
  · intro hn
    rcases h3 with h3 | h3
    · rw [hn] at h3; cases h3
    · exact h3
  · intro hn
    rw [hn, beq_iff_eq] at h2
    exact Classical.not_not.1 (of_decide_eq_false h2.symm)
theorem num_range {k : Int} {j : Nat} {v : Int} (h : numB k j v = true) : -1000000000 ≤ v ∧ v ≤ 1000000000 ∧ (¬ (k = 3 ∧ j = 2) → 0 ≤ v) := by
  unfold numB at h
  simp only [Bool.and_eq_true, decide_eq_true_eq, Bool.or_eq_true] at h
  obtain ⟨h1, h2 | ⟨h2, h3, h4⟩⟩ := h
  · exact ⟨by omega, h1, fun _ => h2⟩
  · exact ⟨h4, h1, fun hn => absurd ⟨h2, h3⟩ hn⟩
theorem name_size {nm : ByteArray} (h : nameB nm = true) : nm.size ≤ 12 := by
  unfold nameB at h
  simp only [Bool.and_eq_true, decide_eq_true_eq] at h
  exact h.1.2.1
theorem OkC.name12 {k : Int} {nm : ByteArray} {ns : List Int} (h : OkC k nm ns) : nm.size ≤ 12 := by
  cases hs : (shapeOf k).1 with
  | true => exact name_size (h.named hs)
  | false => rw [h.bare hs]; omega
end Go.Proofs.YtmdogklgbifacaaDoor.Pr

/- The reference's Line. -/
namespace Go.Proofs.YtmdogklgbifacaaDoor.Pr
open Go.RowKit Go.Proofs.YtmdogklgbifacaaDoor.Lx
set_option linter.unusedVariables false

/-- The text of a number that is not negative. -/
def numL (v : Int) : List UInt8 := Lib.decDigits (max 0 v).toNat
theorem numL_pos {v : Int} (h : 0 ≤ v) : numL v = dg v := by
  unfold numL dg
  rw [show (max 0 v).toNat = v.natAbs by omega]
theorem numL_len {v : Int} (h : v ≤ 1000000000) : (numL v).length ≤ 21 := dec_len (by omega)
set_option maxRecDepth 100000 in
set_option maxHeartbeats 4000000 in
theorem line_val (x : Cm) (w : World) (hx : Cm.In w x) (ho : OkC x.kind x.name x.ns) :
    Calls Tryd.prog 24 #[.agg #[.int .i64 x.kind, .string x.name, .slice x.A x.n x.c, .int .i64 x.pos]] w fun e w' => e = .returned (.string ⟨(lineL x.kind x.name.data.toList x.ns).toArray⟩) ∧ Below w.heap.size w w' := by
  obtain ⟨k, nm, A, n, c, ns, p⟩ := x
  obtain ⟨i0, hi, hz0, hz1, hz2⟩ := info_parts info_str
  have HX := Lib.hid hx
  have HO := Lib.hid ho
  have hn := hx.len
  dsimp only at hn ho
  have hn6 : n ≤ 6 := by
    have h1 := ho.len
    have h2 := ho.kind
    rcases h2 with rfl | rfl | rfl | rfl | rfl | rfl | rfl | rfl | rfl | rfl | rfl <;> simp [shapeOf] at h1 <;> omega
  have HLN := Lib.hid hn
  have hnm12 : nm.size ≤ 12 := ho.name12
  have HB0 : Hid (Below w.heap.size w (w.alloc (.cells #[.int .i64 k, .string nm, .slice A n c, .int .i64 p] 46))) := Lib.hid ((Below.refl _ w).alloc (Nat.le_refl _) _)
  have BX : Hid (Blk (w.alloc (.cells #[.int .i64 k, .string nm, .slice A n c, .int .i64 p] 46)) w.heap.size 46 #[.int .i64 k, .string nm, .slice A n c, .int .i64 p]) := Lib.hid (Blk.new w _ _)
  clear hx hn ho
  go_enter Tryd.func24, Tryd.ntmps24
  go_wp2_with fail
  obtain ⟨w0, hw0⟩ : ∃ w0, w.alloc (.cells #[.int .i64 k, .string nm, .slice A n c, .int .i64 p] 46) = w0 := ⟨_, rfl⟩
  rw [hw0] at BX HB0 ⊢
  have hs0 : w0.heap.size = w.heap.size + 1 := by rw [← hw0]; simp
  have HS0 := Lib.hid hs0
  clear hw0 hs0
  go_loopw [3, 4] (fun o i wr => ∃ (j c2 : Nat) (A2 : Option Addr), j ≤ n ∧ o = .slice A2 j c2 ∧ i = i64 (j : Nat) ∧ Hid (Strs w0.heap.size wr A2 j c2 ((ns.take j).map numL)) ∧ Below w0.heap.size w0 wr) (fun _ i _ => n - (intOf i).toNat)
  case atStart => exact ⟨0, 0, none, Nat.zero_le _, rfl, rfl, Lib.hid ⟨World.ownsRow_nil _ _ _ _, rfl⟩, Below.refl _ _⟩
  case round =>
    obtain ⟨j, c2, A2, hj, rfl, rfl, HS, hB⟩ := hrel
    have HB := Lib.hid hB
    clear hB
    have BXr := Lib.hid (BX.out.up' HB.out)
    have k0 : wr.cell? ⟨w.heap.size, 0, none⟩ = some (.int .i64 k) := BXr.out.cell 0
    have k1 : wr.cell? ⟨w.heap.size, 1, none⟩ = some (.string nm) := BXr.out.cell 1
    have k2 : wr.cell? ⟨w.heap.size, 2, none⟩ = some (.slice A n c) := BXr.out.cell 2
    by_cases hlt : j < n
    · have hlt' : (j : Int) < (n : Int) := by omega
      have hjn : j < ns.length := by rw [HLN.out]; exact hlt
      obtain ⟨b, off, rfl, hb, hcc⟩ := (HX.out.rd.up (HB0.out.trans (HB.out.mono HB0.out.size))).2 (by show 0 < n; omega)
      have hc := hcc j (iv ns[j]) (by rw [List.getElem?_map, List.getElem?_eq_getElem hjn]; rfl)
      obtain ⟨v, hv⟩ : ∃ v, ns[j] = v := ⟨_, rfl⟩
      have hv9 : v ≤ 1000000000 := by rw [← hv]; exact (num_range (HO.out.nums j hjn)).2.1
      have htk : (ns.take (j + 1)).map numL = (ns.take j).map numL ++ [numL v] := by rw [List.take_succ_eq_append_getElem hjn, hv, List.map_append]; rfl
      rw [hv] at hc
      unfold iv at hc
      have HTK := Lib.hid htk
      have HN := Lib.hid (number_val (max 0 v).toNat (by omega))
      rw [show (((max 0 v).toNat : Nat) : Int) = max 0 v by omega] at HN
      obtain ⟨K, hK⟩ : ∃ K : ByteArray, ⟨(Lib.decDigits (max 0 v).toNat).toArray⟩ = K := ⟨_, rfl⟩
      have HV : Hid (Value.string K = strV (numL v)) := Lib.hid (by rw [← hK]; rfl)
      have HV1 : Hid (∀ u ∈ [Value.string K], u.oneCell' = true) := Lib.hid (by rw [HV.out]; exact one_str [numL v])
      rw [hK] at HN
      clear hb hcc hv hK htk hjn
      go_wp2_with fail
      refine (HN.out _).mono ?_
      rintro e w1 ⟨rfl, hb1⟩
      have HB1 := Lib.hid (below_trans' HB.out hb1)
      have HS1 := Lib.hid (own_keep HS.out.1 hb1)
      have HON := Lib.hid HS.out.2
      have HR := Lib.hid (rd_fresh w1 9 #[Value.string K] 1 1 [Value.string K] rfl rfl)
      have HW := Lib.hid (HS1.out.kept (World.grownBy_alloc w1 (.cells #[Value.string K] 9) none) (Classical.em _))
      have HBa : Hid (Below w0.heap.size w0 (w1.alloc (.cells #[Value.string K] 9))) := Lib.hid (HB1.out.alloc HB1.out.size _)
      clear hb1
      go_wp2_with (at_builtin; refine wpList_append_rd _ rfl (.tmp 12) (.tmp 20) _ rfl w0.heap.size 9 i0 _ 1 16 Tryd.underlying39 hi hz0 hz1 hz2 rfl (by decide) _ j _ rfl HW.out _ (some ⟨w1.heap.size, 0, none⟩) 1 1 _ rfl HR.out HV1.out (by simp only [maxLen]; omega) (by omega) HBa.out.size ?_; intro Aa ca w5 hown hfm hg; have HS5 : Hid (Strs w0.heap.size w5 Aa (j + 1) ca ((ns.take (j + 1)).map numL)) := Lib.hid ⟨by rw [HTK.out, List.map_append]; rw [HV.out] at hown; exact hown, by rw [HTK.out, List.length_append, HON.out]; rfl⟩; have HB5 := Lib.hid (own_below HW.out hg HBa.out (Nat.le_refl _) HBa.out.size); clear hown hfm hg)
      case roundEnd =>
        refine ⟨⟨j + 1, ca, Aa, by omega, rfl, rfl, HS5, HB5.out⟩, ?_⟩
        simp only [intOf]; omega
    · have hlt' : ¬ (j : Int) < (n : Int) := by omega
      obtain rfl : j = n := by omega
      have HSE : Hid (Strs w0.heap.size wr A2 j c2 (ns.map numL)) := Lib.hid (by have := HS.out; rwa [List.take_of_length_le (by rw [HLN.out]; exact Nat.le_refl _)] at this)
      have HBE := Lib.hid (below_trans' (HB0.out.mono (Nat.le_refl _)) ((HB.out).mono (Nat.le_refl _)))
      have HRS := Lib.hid (Rd.of_own HSE.out.1)
      have ho := HO.out
      have hno := HLN.out
      clear HS hlt hj hlt'
      obtain ⟨hkd, hln, hnam, hbare, hnums⟩ := ho
      rcases hkd with rfl | rfl | rfl | rfl | rfl | rfl | rfl | rfl | rfl | rfl | rfl
      · obtain rfl : j = 2 := by have := hln; simp [shapeOf] at this; omega
        obtain ⟨v0, v1, rfl⟩ : ∃ v0 v1, ns = [v0, v1] := by
          match ns, hno with
          | [v0, v1], _ => exact ⟨v0, v1, rfl⟩
        obtain ⟨b, off, rfl, hb, hcc⟩ := HRS.out.2 (by decide)
        have r0 := num_range (hnums 0 (by simp))
        have r1 := num_range (hnums 1 (by simp))
        dsimp only [List.getElem_cons_zero, List.getElem_cons_succ] at r0 r1
        obtain ⟨E0, hE0⟩ : ∃ E : ByteArray, (⟨(numL v0).toArray⟩ : ByteArray) = E := ⟨_, rfl⟩
        have q0 : wr.cell? ⟨b, off, none⟩ = some (.string E0) := hcc 0 _ (by rw [← hE0]; rfl)
        have s0 : E0.size ≤ 21 := by rw [← hE0]; exact numL_len r0.2.1
        have D0 : Hid (E0.data.toList = dg v0) := Lib.hid (by rw [← hE0, ← numL_pos (r0.2.2 (by omega))])
        clear hE0
        obtain ⟨E1, hE1⟩ : ∃ E : ByteArray, (⟨(numL v1).toArray⟩ : ByteArray) = E := ⟨_, rfl⟩
        have q1 : wr.cell? ⟨b, off + 1, none⟩ = some (.string E1) := hcc 1 _ (by rw [← hE1]; rfl)
        have s1 : E1.size ≤ 21 := by rw [← hE1]; exact numL_len r1.2.1
        have D1 : Hid (E1.data.toList = dg v1) := Lib.hid (by rw [← hE1, ← numL_pos (r1.2.2 (by omega))])
        clear hE1
        clear hcc hnums hnam hbare hln hno r0 r1
        go_wp2_with fail
        go_quiet (fail)
        go_wp2_with fail
        go_ret
        refine ⟨congrArg (fun x => Ending.returned (Value.string x)) (ByteArray.ext (Array.ext' ?_)), ?_⟩
        · simp only [Joins.data_append, D0.out, D1.out]
          unfold lineL formP
          simp [wrF]
        · first | exact HBE.out | exact below_drewN' HBE.out _
      · obtain rfl : j = 2 := by have := hln; simp [shapeOf] at this; omega
        obtain ⟨v0, v1, rfl⟩ : ∃ v0 v1, ns = [v0, v1] := by
          match ns, hno with
          | [v0, v1], _ => exact ⟨v0, v1, rfl⟩
        obtain ⟨b, off, rfl, hb, hcc⟩ := HRS.out.2 (by decide)
        have r0 := num_range (hnums 0 (by simp))
        have r1 := num_range (hnums 1 (by simp))
        dsimp only [List.getElem_cons_zero, List.getElem_cons_succ] at r0 r1
        obtain ⟨E0, hE0⟩ : ∃ E : ByteArray, (⟨(numL v0).toArray⟩ : ByteArray) = E := ⟨_, rfl⟩
        have q0 : wr.cell? ⟨b, off, none⟩ = some (.string E0) := hcc 0 _ (by rw [← hE0]; rfl)
        have s0 : E0.size ≤ 21 := by rw [← hE0]; exact numL_len r0.2.1
        have D0 : Hid (E0.data.toList = dg v0) := Lib.hid (by rw [← hE0, ← numL_pos (r0.2.2 (by omega))])
        clear hE0
        obtain ⟨E1, hE1⟩ : ∃ E : ByteArray, (⟨(numL v1).toArray⟩ : ByteArray) = E := ⟨_, rfl⟩
        have q1 : wr.cell? ⟨b, off + 1, none⟩ = some (.string E1) := hcc 1 _ (by rw [← hE1]; rfl)
        have s1 : E1.size ≤ 21 := by rw [← hE1]; exact numL_len r1.2.1
        have D1 : Hid (E1.data.toList = dg v1) := Lib.hid (by rw [← hE1, ← numL_pos (r1.2.2 (by omega))])
        clear hE1
        clear hcc hnums hnam hbare hln hno r0 r1
        go_wp2_with fail
        go_quiet (fail)
        go_wp2_with fail
        go_ret
        refine ⟨congrArg (fun x => Ending.returned (Value.string x)) (ByteArray.ext (Array.ext' ?_)), ?_⟩
        · simp only [Joins.data_append, D0.out, D1.out]
          unfold lineL formP
          simp [wrF]
        · first | exact HBE.out | exact below_drewN' HBE.out _
      · obtain rfl : j = 4 := by have := hln; simp [shapeOf] at this; omega
        obtain ⟨v0, v1, v2, v3, rfl⟩ : ∃ v0 v1 v2 v3, ns = [v0, v1, v2, v3] := by
          match ns, hno with
          | [v0, v1, v2, v3], _ => exact ⟨v0, v1, v2, v3, rfl⟩
        obtain ⟨b, off, rfl, hb, hcc⟩ := HRS.out.2 (by decide)
        have r0 := num_range (hnums 0 (by simp))
        have r1 := num_range (hnums 1 (by simp))
        have r2 := num_range (hnums 2 (by simp))
        have r3 := num_range (hnums 3 (by simp))
        dsimp only [List.getElem_cons_zero, List.getElem_cons_succ] at r0 r1 r2 r3
        obtain ⟨E0, hE0⟩ : ∃ E : ByteArray, (⟨(numL v0).toArray⟩ : ByteArray) = E := ⟨_, rfl⟩
        have q0 : wr.cell? ⟨b, off, none⟩ = some (.string E0) := hcc 0 _ (by rw [← hE0]; rfl)
        have s0 : E0.size ≤ 21 := by rw [← hE0]; exact numL_len r0.2.1
        have D0 : Hid (E0.data.toList = dg v0) := Lib.hid (by rw [← hE0, ← numL_pos (r0.2.2 (by omega))])
        clear hE0
        obtain ⟨E1, hE1⟩ : ∃ E : ByteArray, (⟨(numL v1).toArray⟩ : ByteArray) = E := ⟨_, rfl⟩
        have q1 : wr.cell? ⟨b, off + 1, none⟩ = some (.string E1) := hcc 1 _ (by rw [← hE1]; rfl)
        have s1 : E1.size ≤ 21 := by rw [← hE1]; exact numL_len r1.2.1
        have D1 : Hid (E1.data.toList = dg v1) := Lib.hid (by rw [← hE1, ← numL_pos (r1.2.2 (by omega))])
        clear hE1
        obtain ⟨E2, hE2⟩ : ∃ E : ByteArray, (⟨(numL v2).toArray⟩ : ByteArray) = E := ⟨_, rfl⟩
        have q2 : wr.cell? ⟨b, off + 2, none⟩ = some (.string E2) := hcc 2 _ (by rw [← hE2]; rfl)
        have s2 : E2.size ≤ 21 := by rw [← hE2]; exact numL_len r2.2.1
        clear q2 s2 hE2 E2
        obtain ⟨E3, hE3⟩ : ∃ E : ByteArray, (⟨(numL v3).toArray⟩ : ByteArray) = E := ⟨_, rfl⟩
        have q3 : wr.cell? ⟨b, off + 3, none⟩ = some (.string E3) := hcc 3 _ (by rw [← hE3]; rfl)
        have s3 : E3.size ≤ 21 := by rw [← hE3]; exact numL_len r3.2.1
        have D3 : Hid (E3.data.toList = dg v3) := Lib.hid (by rw [← hE3, ← numL_pos (r3.2.2 (by omega))])
        clear hE3
        have HDR := Lib.hid (drift_val v2 r2.1 r2.2.1)
        have hdl : (driftL v2).length ≤ 26 := by unfold driftL; have := dec_len (n := v2.natAbs) (by have := r2.1; have := r2.2.1; omega); rw [List.length_append]; split <;> simp only [List.length_cons, List.length_nil] <;> omega
        obtain ⟨E2, hE2⟩ : ∃ E : ByteArray, (⟨(driftL v2).toArray⟩ : ByteArray) = E := ⟨_, rfl⟩
        have s2 : E2.size ≤ 26 := by rw [← hE2]; exact hdl
        have D2 : Hid (E2.data.toList = driftL v2) := Lib.hid (by rw [← hE2])
        rw [hE2] at HDR
        obtain ⟨nb, no, hnA, hnb, hnc⟩ := (HX.out.rd.up HBE.out).2 (by show 0 < 4; omega)
        dsimp only at hnA
        subst hnA
        have n2 : wr.cell? ⟨nb, no + 2, none⟩ = some (.int .i64 v2) := hnc 2 _ rfl
        clear hE2 hdl hnc
        clear hcc hnums hnam hbare hln hno r0 r1 r2 r3
        have hup : ∀ a b, Below wr.heap.size wr a → Below a.heap.size a b → Below wr.heap.size wr b := fun a b h k => below_trans' h k
        have f1 : ∀ s : WOf (Below wr.heap.size wr), s.w.cell? ⟨w.heap.size, 1, none⟩ = some (.string nm) := fun s => (s.ok.cell (Lx.cell_lt k1)).trans k1
        have f2 : ∀ s : WOf (Below wr.heap.size wr), s.w.cell? ⟨w.heap.size, 2, none⟩ = some (.slice (some ⟨nb, no, none⟩) 4 c) := fun s => (s.ok.cell (Lx.cell_lt k2)).trans k2
        have f3 : ∀ s : WOf (Below wr.heap.size wr), s.w.cell? ⟨nb, no + 2, none⟩ = some (.int .i64 v2) := fun s => (s.ok.cell (Lx.cell_lt n2)).trans n2
        have g0 : ∀ s : WOf (Below wr.heap.size wr), s.w.cell? ⟨b, off, none⟩ = some (.string E0) := fun s => (s.ok.cell (Lx.cell_lt q0)).trans q0
        have g1 : ∀ s : WOf (Below wr.heap.size wr), s.w.cell? ⟨b, off + 1, none⟩ = some (.string E1) := fun s => (s.ok.cell (Lx.cell_lt q1)).trans q1
        have g3 : ∀ s : WOf (Below wr.heap.size wr), s.w.cell? ⟨b, off + 3, none⟩ = some (.string E3) := fun s => (s.ok.cell (Lx.cell_lt q3)).trans q3
        clear hb hnb
        go_wp2_with fail
        refine wp_region_ext (Below wr.heap.size wr) (Below.refl _ _) hup (by kernel_rfl) (by kernel_rfl) (fun hne => ?_)
        repeat (go_big_quiet_step (with_reducible exact calls_ext hup (HDR.out _)))
        refine wpQuiet_nil ?_
        clear hne
        intro wx hx'
        obtain ⟨⟨_, hxx⟩, hx''⟩ := hx'
        subst hx''
        go_wp2_with fail
        go_ret
        refine ⟨congrArg (fun x => Ending.returned (Value.string x)) (ByteArray.ext (Array.ext' ?_)), ?_⟩
        · simp only [Joins.data_append, D0.out, D1.out, D2.out, D3.out]
          unfold lineL formP
          simp [wrF]
        · exact HBE.out.trans (hxx.mono HBE.out.size)
      · obtain rfl : j = 3 := by have := hln; simp [shapeOf] at this; omega
        obtain ⟨v0, v1, v2, rfl⟩ : ∃ v0 v1 v2, ns = [v0, v1, v2] := by
          match ns, hno with
          | [v0, v1, v2], _ => exact ⟨v0, v1, v2, rfl⟩
        obtain ⟨b, off, rfl, hb, hcc⟩ := HRS.out.2 (by decide)
        have r0 := num_range (hnums 0 (by simp))
        have r1 := num_range (hnums 1 (by simp))
        have r2 := num_range (hnums 2 (by simp))
        dsimp only [List.getElem_cons_zero, List.getElem_cons_succ] at r0 r1 r2
        obtain ⟨E0, hE0⟩ : ∃ E : ByteArray, (⟨(numL v0).toArray⟩ : ByteArray) = E := ⟨_, rfl⟩
        have q0 : wr.cell? ⟨b, off, none⟩ = some (.string E0) := hcc 0 _ (by rw [← hE0]; rfl)
        have s0 : E0.size ≤ 21 := by rw [← hE0]; exact numL_len r0.2.1
        have D0 : Hid (E0.data.toList = dg v0) := Lib.hid (by rw [← hE0, ← numL_pos (r0.2.2 (by omega))])
        clear hE0
        obtain ⟨E1, hE1⟩ : ∃ E : ByteArray, (⟨(numL v1).toArray⟩ : ByteArray) = E := ⟨_, rfl⟩
        have q1 : wr.cell? ⟨b, off + 1, none⟩ = some (.string E1) := hcc 1 _ (by rw [← hE1]; rfl)
        have s1 : E1.size ≤ 21 := by rw [← hE1]; exact numL_len r1.2.1
        have D1 : Hid (E1.data.toList = dg v1) := Lib.hid (by rw [← hE1, ← numL_pos (r1.2.2 (by omega))])
        clear hE1
        obtain ⟨E2, hE2⟩ : ∃ E : ByteArray, (⟨(numL v2).toArray⟩ : ByteArray) = E := ⟨_, rfl⟩
        have q2 : wr.cell? ⟨b, off + 2, none⟩ = some (.string E2) := hcc 2 _ (by rw [← hE2]; rfl)
        have s2 : E2.size ≤ 21 := by rw [← hE2]; exact numL_len r2.2.1
        have D2 : Hid (E2.data.toList = dg v2) := Lib.hid (by rw [← hE2, ← numL_pos (r2.2.2 (by omega))])
        clear hE2
        clear hcc hnums hnam hbare hln hno r0 r1 r2
        go_wp2_with fail
        go_quiet (fail)
        go_wp2_with fail
        go_ret
        refine ⟨congrArg (fun x => Ending.returned (Value.string x)) (ByteArray.ext (Array.ext' ?_)), ?_⟩
        · simp only [Joins.data_append, D0.out, D1.out, D2.out]
          unfold lineL formP
          simp [wrF]
        · first | exact HBE.out | exact below_drewN' HBE.out _
      · obtain rfl : j = 1 := by have := hln; simp [shapeOf] at this; omega
        obtain ⟨v0, rfl⟩ : ∃ v0, ns = [v0] := by
          match ns, hno with
          | [v0], _ => exact ⟨v0, rfl⟩
        obtain ⟨b, off, rfl, hb, hcc⟩ := HRS.out.2 (by decide)
        have r0 := num_range (hnums 0 (by simp))
        dsimp only [List.getElem_cons_zero, List.getElem_cons_succ] at r0
        obtain ⟨E0, hE0⟩ : ∃ E : ByteArray, (⟨(numL v0).toArray⟩ : ByteArray) = E := ⟨_, rfl⟩
        have q0 : wr.cell? ⟨b, off, none⟩ = some (.string E0) := hcc 0 _ (by rw [← hE0]; rfl)
        have s0 : E0.size ≤ 21 := by rw [← hE0]; exact numL_len r0.2.1
        have D0 : Hid (E0.data.toList = dg v0) := Lib.hid (by rw [← hE0, ← numL_pos (r0.2.2 (by omega))])
        clear hE0
        clear hcc hnums hnam hbare hln hno r0
        go_wp2_with fail
        go_quiet (fail)
        go_wp2_with fail
        go_ret
        refine ⟨congrArg (fun x => Ending.returned (Value.string x)) (ByteArray.ext (Array.ext' ?_)), ?_⟩
        · simp only [Joins.data_append, D0.out]
          unfold lineL formP
          simp [wrF]
        · first | exact HBE.out | exact below_drewN' HBE.out _
      · obtain rfl : j = 1 := by have := hln; simp [shapeOf] at this; omega
        obtain ⟨v0, rfl⟩ : ∃ v0, ns = [v0] := by
          match ns, hno with
          | [v0], _ => exact ⟨v0, rfl⟩
        obtain ⟨b, off, rfl, hb, hcc⟩ := HRS.out.2 (by decide)
        have r0 := num_range (hnums 0 (by simp))
        dsimp only [List.getElem_cons_zero, List.getElem_cons_succ] at r0
        obtain ⟨E0, hE0⟩ : ∃ E : ByteArray, (⟨(numL v0).toArray⟩ : ByteArray) = E := ⟨_, rfl⟩
        have q0 : wr.cell? ⟨b, off, none⟩ = some (.string E0) := hcc 0 _ (by rw [← hE0]; rfl)
        have s0 : E0.size ≤ 21 := by rw [← hE0]; exact numL_len r0.2.1
        have D0 : Hid (E0.data.toList = dg v0) := Lib.hid (by rw [← hE0, ← numL_pos (r0.2.2 (by omega))])
        clear hE0
        clear hcc hnums hnam hbare hln hno r0
        go_wp2_with fail
        go_quiet (fail)
        go_wp2_with fail
        go_ret
        refine ⟨congrArg (fun x => Ending.returned (Value.string x)) (ByteArray.ext (Array.ext' ?_)), ?_⟩
        · simp only [Joins.data_append, D0.out]
          unfold lineL formP
          simp [wrF]
        · first | exact HBE.out | exact below_drewN' HBE.out _
      · obtain rfl : j = 2 := by have := hln; simp [shapeOf] at this; omega
        obtain ⟨v0, v1, rfl⟩ : ∃ v0 v1, ns = [v0, v1] := by
          match ns, hno with
          | [v0, v1], _ => exact ⟨v0, v1, rfl⟩
        obtain ⟨b, off, rfl, hb, hcc⟩ := HRS.out.2 (by decide)
        have r0 := num_range (hnums 0 (by simp))
        have r1 := num_range (hnums 1 (by simp))
        dsimp only [List.getElem_cons_zero, List.getElem_cons_succ] at r0 r1
        obtain ⟨E0, hE0⟩ : ∃ E : ByteArray, (⟨(numL v0).toArray⟩ : ByteArray) = E := ⟨_, rfl⟩
        have q0 : wr.cell? ⟨b, off, none⟩ = some (.string E0) := hcc 0 _ (by rw [← hE0]; rfl)
        have s0 : E0.size ≤ 21 := by rw [← hE0]; exact numL_len r0.2.1
        have D0 : Hid (E0.data.toList = dg v0) := Lib.hid (by rw [← hE0, ← numL_pos (r0.2.2 (by omega))])
        clear hE0
        obtain ⟨E1, hE1⟩ : ∃ E : ByteArray, (⟨(numL v1).toArray⟩ : ByteArray) = E := ⟨_, rfl⟩
        have q1 : wr.cell? ⟨b, off + 1, none⟩ = some (.string E1) := hcc 1 _ (by rw [← hE1]; rfl)
        have s1 : E1.size ≤ 21 := by rw [← hE1]; exact numL_len r1.2.1
        have D1 : Hid (E1.data.toList = dg v1) := Lib.hid (by rw [← hE1, ← numL_pos (r1.2.2 (by omega))])
        clear hE1
        clear hcc hnums hnam hbare hln hno r0 r1
        go_wp2_with fail
        go_quiet (fail)
        go_wp2_with fail
        go_ret
        refine ⟨congrArg (fun x => Ending.returned (Value.string x)) (ByteArray.ext (Array.ext' ?_)), ?_⟩
        · simp only [Joins.data_append, D0.out, D1.out]
          unfold lineL formP
          simp [wrF]
        · first | exact HBE.out | exact below_drewN' HBE.out _
      · obtain rfl : j = 6 := by have := hln; simp [shapeOf] at this; omega
        obtain ⟨v0, v1, v2, v3, v4, v5, rfl⟩ : ∃ v0 v1 v2 v3 v4 v5, ns = [v0, v1, v2, v3, v4, v5] := by
          match ns, hno with
          | [v0, v1, v2, v3, v4, v5], _ => exact ⟨v0, v1, v2, v3, v4, v5, rfl⟩
        obtain ⟨b, off, rfl, hb, hcc⟩ := HRS.out.2 (by decide)
        have r0 := num_range (hnums 0 (by simp))
        have r1 := num_range (hnums 1 (by simp))
        have r2 := num_range (hnums 2 (by simp))
        have r3 := num_range (hnums 3 (by simp))
        have r4 := num_range (hnums 4 (by simp))
        have r5 := num_range (hnums 5 (by simp))
        dsimp only [List.getElem_cons_zero, List.getElem_cons_succ] at r0 r1 r2 r3 r4 r5
        obtain ⟨E0, hE0⟩ : ∃ E : ByteArray, (⟨(numL v0).toArray⟩ : ByteArray) = E := ⟨_, rfl⟩
        have q0 : wr.cell? ⟨b, off, none⟩ = some (.string E0) := hcc 0 _ (by rw [← hE0]; rfl)
        have s0 : E0.size ≤ 21 := by rw [← hE0]; exact numL_len r0.2.1
        have D0 : Hid (E0.data.toList = dg v0) := Lib.hid (by rw [← hE0, ← numL_pos (r0.2.2 (by omega))])
        clear hE0
        obtain ⟨E1, hE1⟩ : ∃ E : ByteArray, (⟨(numL v1).toArray⟩ : ByteArray) = E := ⟨_, rfl⟩
        have q1 : wr.cell? ⟨b, off + 1, none⟩ = some (.string E1) := hcc 1 _ (by rw [← hE1]; rfl)
        have s1 : E1.size ≤ 21 := by rw [← hE1]; exact numL_len r1.2.1
        have D1 : Hid (E1.data.toList = dg v1) := Lib.hid (by rw [← hE1, ← numL_pos (r1.2.2 (by omega))])
        clear hE1
        obtain ⟨E2, hE2⟩ : ∃ E : ByteArray, (⟨(numL v2).toArray⟩ : ByteArray) = E := ⟨_, rfl⟩
        have q2 : wr.cell? ⟨b, off + 2, none⟩ = some (.string E2) := hcc 2 _ (by rw [← hE2]; rfl)
        have s2 : E2.size ≤ 21 := by rw [← hE2]; exact numL_len r2.2.1
        have D2 : Hid (E2.data.toList = dg v2) := Lib.hid (by rw [← hE2, ← numL_pos (r2.2.2 (by omega))])
        clear hE2
        obtain ⟨E3, hE3⟩ : ∃ E : ByteArray, (⟨(numL v3).toArray⟩ : ByteArray) = E := ⟨_, rfl⟩
        have q3 : wr.cell? ⟨b, off + 3, none⟩ = some (.string E3) := hcc 3 _ (by rw [← hE3]; rfl)
        have s3 : E3.size ≤ 21 := by rw [← hE3]; exact numL_len r3.2.1
        have D3 : Hid (E3.data.toList = dg v3) := Lib.hid (by rw [← hE3, ← numL_pos (r3.2.2 (by omega))])
        clear hE3
        obtain ⟨E4, hE4⟩ : ∃ E : ByteArray, (⟨(numL v4).toArray⟩ : ByteArray) = E := ⟨_, rfl⟩
        have q4 : wr.cell? ⟨b, off + 4, none⟩ = some (.string E4) := hcc 4 _ (by rw [← hE4]; rfl)
        have s4 : E4.size ≤ 21 := by rw [← hE4]; exact numL_len r4.2.1
        have D4 : Hid (E4.data.toList = dg v4) := Lib.hid (by rw [← hE4, ← numL_pos (r4.2.2 (by omega))])
        clear hE4
        obtain ⟨E5, hE5⟩ : ∃ E : ByteArray, (⟨(numL v5).toArray⟩ : ByteArray) = E := ⟨_, rfl⟩
        have q5 : wr.cell? ⟨b, off + 5, none⟩ = some (.string E5) := hcc 5 _ (by rw [← hE5]; rfl)
        have s5 : E5.size ≤ 21 := by rw [← hE5]; exact numL_len r5.2.1
        have D5 : Hid (E5.data.toList = dg v5) := Lib.hid (by rw [← hE5, ← numL_pos (r5.2.2 (by omega))])
        clear hE5
        clear hcc hnums hnam hbare hln hno r0 r1 r2 r3 r4 r5
        go_wp2_with fail
        go_quiet (fail)
        go_wp2_with fail
        go_ret
        refine ⟨congrArg (fun x => Ending.returned (Value.string x)) (ByteArray.ext (Array.ext' ?_)), ?_⟩
        · simp only [Joins.data_append, D0.out, D1.out, D2.out, D3.out, D4.out, D5.out]
          unfold lineL formP
          simp [wrF]
        · first | exact HBE.out | exact below_drewN' HBE.out _
      · obtain rfl : j = 4 := by have := hln; simp [shapeOf] at this; omega
        obtain ⟨v0, v1, v2, v3, rfl⟩ : ∃ v0 v1 v2 v3, ns = [v0, v1, v2, v3] := by
          match ns, hno with
          | [v0, v1, v2, v3], _ => exact ⟨v0, v1, v2, v3, rfl⟩
        obtain ⟨b, off, rfl, hb, hcc⟩ := HRS.out.2 (by decide)
        have r0 := num_range (hnums 0 (by simp))
        have r1 := num_range (hnums 1 (by simp))
        have r2 := num_range (hnums 2 (by simp))
        have r3 := num_range (hnums 3 (by simp))
        dsimp only [List.getElem_cons_zero, List.getElem_cons_succ] at r0 r1 r2 r3
        obtain ⟨E0, hE0⟩ : ∃ E : ByteArray, (⟨(numL v0).toArray⟩ : ByteArray) = E := ⟨_, rfl⟩
        have q0 : wr.cell? ⟨b, off, none⟩ = some (.string E0) := hcc 0 _ (by rw [← hE0]; rfl)
        have s0 : E0.size ≤ 21 := by rw [← hE0]; exact numL_len r0.2.1
        have D0 : Hid (E0.data.toList = dg v0) := Lib.hid (by rw [← hE0, ← numL_pos (r0.2.2 (by omega))])
        clear hE0
        obtain ⟨E1, hE1⟩ : ∃ E : ByteArray, (⟨(numL v1).toArray⟩ : ByteArray) = E := ⟨_, rfl⟩
        have q1 : wr.cell? ⟨b, off + 1, none⟩ = some (.string E1) := hcc 1 _ (by rw [← hE1]; rfl)
        have s1 : E1.size ≤ 21 := by rw [← hE1]; exact numL_len r1.2.1
        have D1 : Hid (E1.data.toList = dg v1) := Lib.hid (by rw [← hE1, ← numL_pos (r1.2.2 (by omega))])
        clear hE1
        obtain ⟨E2, hE2⟩ : ∃ E : ByteArray, (⟨(numL v2).toArray⟩ : ByteArray) = E := ⟨_, rfl⟩
        have q2 : wr.cell? ⟨b, off + 2, none⟩ = some (.string E2) := hcc 2 _ (by rw [← hE2]; rfl)
        have s2 : E2.size ≤ 21 := by rw [← hE2]; exact numL_len r2.2.1
        have D2 : Hid (E2.data.toList = dg v2) := Lib.hid (by rw [← hE2, ← numL_pos (r2.2.2 (by omega))])
        clear hE2
        obtain ⟨E3, hE3⟩ : ∃ E : ByteArray, (⟨(numL v3).toArray⟩ : ByteArray) = E := ⟨_, rfl⟩
        have q3 : wr.cell? ⟨b, off + 3, none⟩ = some (.string E3) := hcc 3 _ (by rw [← hE3]; rfl)
        have s3 : E3.size ≤ 21 := by rw [← hE3]; exact numL_len r3.2.1
        have D3 : Hid (E3.data.toList = dg v3) := Lib.hid (by rw [← hE3, ← numL_pos (r3.2.2 (by omega))])
        clear hE3
        clear hcc hnums hnam hbare hln hno r0 r1 r2 r3
        go_wp2_with fail
        go_quiet (fail)
        go_wp2_with fail
        go_ret
        refine ⟨congrArg (fun x => Ending.returned (Value.string x)) (ByteArray.ext (Array.ext' ?_)), ?_⟩
        · simp only [Joins.data_append, D0.out, D1.out, D2.out, D3.out]
          unfold lineL formP
          simp [wrF]
        · first | exact HBE.out | exact below_drewN' HBE.out _
      · obtain rfl : j = 3 := by have := hln; simp [shapeOf] at this; omega
        obtain ⟨v0, v1, v2, rfl⟩ : ∃ v0 v1 v2, ns = [v0, v1, v2] := by
          match ns, hno with
          | [v0, v1, v2], _ => exact ⟨v0, v1, v2, rfl⟩
        obtain ⟨b, off, rfl, hb, hcc⟩ := HRS.out.2 (by decide)
        have r0 := num_range (hnums 0 (by simp))
        have r1 := num_range (hnums 1 (by simp))
        have r2 := num_range (hnums 2 (by simp))
        dsimp only [List.getElem_cons_zero, List.getElem_cons_succ] at r0 r1 r2
        obtain ⟨E0, hE0⟩ : ∃ E : ByteArray, (⟨(numL v0).toArray⟩ : ByteArray) = E := ⟨_, rfl⟩
        have q0 : wr.cell? ⟨b, off, none⟩ = some (.string E0) := hcc 0 _ (by rw [← hE0]; rfl)
        have s0 : E0.size ≤ 21 := by rw [← hE0]; exact numL_len r0.2.1
        have D0 : Hid (E0.data.toList = dg v0) := Lib.hid (by rw [← hE0, ← numL_pos (r0.2.2 (by omega))])
        clear hE0
        obtain ⟨E1, hE1⟩ : ∃ E : ByteArray, (⟨(numL v1).toArray⟩ : ByteArray) = E := ⟨_, rfl⟩
        have q1 : wr.cell? ⟨b, off + 1, none⟩ = some (.string E1) := hcc 1 _ (by rw [← hE1]; rfl)
        have s1 : E1.size ≤ 21 := by rw [← hE1]; exact numL_len r1.2.1
        have D1 : Hid (E1.data.toList = dg v1) := Lib.hid (by rw [← hE1, ← numL_pos (r1.2.2 (by omega))])
        clear hE1
        obtain ⟨E2, hE2⟩ : ∃ E : ByteArray, (⟨(numL v2).toArray⟩ : ByteArray) = E := ⟨_, rfl⟩
        have q2 : wr.cell? ⟨b, off + 2, none⟩ = some (.string E2) := hcc 2 _ (by rw [← hE2]; rfl)
        have s2 : E2.size ≤ 21 := by rw [← hE2]; exact numL_len r2.2.1
        have D2 : Hid (E2.data.toList = dg v2) := Lib.hid (by rw [← hE2, ← numL_pos (r2.2.2 (by omega))])
        clear hE2
        clear hcc hnums hnam hbare hln hno r0 r1 r2
        go_wp2_with fail
        go_quiet (fail)
        go_wp2_with fail
        go_ret
        refine ⟨congrArg (fun x => Ending.returned (Value.string x)) (ByteArray.ext (Array.ext' ?_)), ?_⟩
        · simp only [Joins.data_append, D0.out, D1.out, D2.out]
          unfold lineL formP
          simp [wrF]
        · first | exact HBE.out | exact below_drewN' HBE.out _
      · obtain rfl : j = 1 := by have := hln; simp [shapeOf] at this; omega
        obtain ⟨v0, rfl⟩ : ∃ v0, ns = [v0] := by
          match ns, hno with
          | [v0], _ => exact ⟨v0, rfl⟩
        obtain ⟨b, off, rfl, hb, hcc⟩ := HRS.out.2 (by decide)
        have r0 := num_range (hnums 0 (by simp))
        dsimp only [List.getElem_cons_zero, List.getElem_cons_succ] at r0
        obtain ⟨E0, hE0⟩ : ∃ E : ByteArray, (⟨(numL v0).toArray⟩ : ByteArray) = E := ⟨_, rfl⟩
        have q0 : wr.cell? ⟨b, off, none⟩ = some (.string E0) := hcc 0 _ (by rw [← hE0]; rfl)
        have s0 : E0.size ≤ 21 := by rw [← hE0]; exact numL_len r0.2.1
        have D0 : Hid (E0.data.toList = dg v0) := Lib.hid (by rw [← hE0, ← numL_pos (r0.2.2 (by omega))])
        clear hE0
        clear hcc hnums hnam hbare hln hno r0
        go_wp2_with fail
        go_ret
        refine ⟨congrArg (fun x => Ending.returned (Value.string x)) (ByteArray.ext (Array.ext' ?_)), ?_⟩
        · simp only [Joins.data_append, D0.out]
          unfold lineL formP
          simp [wrF]
        · first | exact HBE.out | exact below_drewN' HBE.out _
end Go.Proofs.YtmdogklgbifacaaDoor.Pr

/- The reference's Tokens and Print. -/
namespace Go.Proofs.YtmdogklgbifacaaDoor.Pr
open Go.RowKit Go.Proofs.YtmdogklgbifacaaDoor.Lx
set_option linter.unusedVariables false

def blanks : List UInt8 → Nat
  | [] => 0
  | c :: r => (if c.toNat = 32 then 1 else 0) + blanks r
theorem blanks_le : ∀ l, blanks l ≤ l.length
  | [] => Nat.le_refl _
  | c :: r => by have := blanks_le r; simp only [blanks, List.length_cons]; split <;> omega
set_option maxRecDepth 100000 in
set_option maxHeartbeats 1000000 in
theorem tokens_val (s : ByteArray) (hs : s.size ≤ 100000) (w : World) :
    Calls Tryd.prog 25 #[.string s] w fun e w' => e = .returned (i64 ((2 + blanks s.data.toList : Nat) : Int)) ∧ w = w' := by
  have HL : Hid (s.data.toList.length = s.size) := Lib.hid Array.length_toList
  go_enter Tryd.func25, Tryd.ntmps25
  go_wp2_with fail
  go_loopw [3, 4] (fun q i wr => ∃ (k n : Nat), k ≤ s.size ∧ n ≤ k + 2 ∧ q = i64 (n : Nat) ∧ i = i64 (k : Nat) ∧ Hid (2 + blanks s.data.toList = n + blanks (s.data.toList.drop k)) ∧ w = wr) (fun _ i _ => s.size - (intOf i).toNat)
  case atStart => exact ⟨0, 2, Nat.zero_le _, Nat.le_refl _, rfl, rfl, Lib.hid rfl, rfl⟩
  case round =>
    obtain ⟨k, n, hk, hn, rfl, rfl, HG, rfl⟩ := hrel
    by_cases hlt : k < s.size
    · have hlt' : (k : Int) < (s.size : Int) := by omega
      have hg := HG.out
      rw [List.drop_eq_getElem_cons (by rw [HL.out]; exact hlt)] at hg
      obtain ⟨b, hb⟩ : ∃ b, s[k] = b := ⟨_, rfl⟩
      have hbb : s.data.toList[k]'(by rw [HL.out]; exact hlt) = b := hb
      rw [hbb] at hg
      simp only [blanks] at hg
      clear hbb
      by_cases h32 : b.toNat = 32
      · have f1 : ((b.toNat : Int) == 32) = true := by rw [beq_iff_eq]; omega
        rw [if_pos h32] at hg
        have HG2 := Lib.hid hg
        clear hg h32
        go_wp2_with fail
        case roundEnd =>
          refine ⟨⟨k + 1, n + 1, by omega, by omega, rfl, rfl, Lib.hid (by rw [HG2.out]; omega), trivial⟩, ?_⟩
          simp only [intOf]; omega
      · have f1 : ((b.toNat : Int) == 32) = false := by rw [beq_eq_false_iff_ne]; omega
        rw [if_neg h32] at hg
        have HG2 := Lib.hid hg
        clear hg h32
        go_wp2_with fail
        case roundEnd =>
          refine ⟨⟨k + 1, n, by omega, by omega, rfl, rfl, Lib.hid (by rw [HG2.out]; omega), trivial⟩, ?_⟩
          simp only [intOf]; omega
    · have hlt' : ¬ (k : Int) < (s.size : Int) := by omega
      obtain rfl : k = s.size := by omega
      have hg := HG.out
      rw [List.drop_of_length_le (by rw [HL.out]; exact Nat.le_refl _)] at hg
      have HG2 : Hid (2 + blanks s.data.toList = n) := Lib.hid hg
      clear hg
      go_wp2_with fail
      go_ret
      exact ⟨congrArg (fun z => Ending.returned (i64 z)) (by have := HG2.out; omega), rfl⟩

/-- The line of a command that lies in memory. -/
def lnC (x : Cm) : List UInt8 := lineL x.kind x.name.data.toList x.ns
/-- The text of commands. -/
def outL (l : List Cm) : List UInt8 := l.flatMap fun x => lnC x ++ [10]
/-- How many tokens it has. -/
def tokL : List Cm → Nat
  | [] => 0
  | x :: r => (2 + blanks (lnC x)) + tokL r
theorem tokL_append : ∀ a b, tokL (a ++ b) = tokL a + tokL b
  | [], b => by simp [tokL]
  | x :: a, b => by rw [List.cons_append]; simp only [tokL]; rw [tokL_append a b]; omega
theorem dg_len {v : Int} (h0 : -1000000000 ≤ v) (h1 : v ≤ 1000000000) : (dg v).length ≤ 21 := dec_len (by omega)
theorem drift_len {v : Int} (h0 : -1000000000 ≤ v) (h1 : v ≤ 1000000000) : (driftL v).length ≤ 26 := by
  unfold driftL
  have := dec_len (n := v.natAbs) (by omega)
  rw [List.length_append]
  split <;> simp only [List.length_cons, List.length_nil] <;> omega
theorem wrF_len (nm : List UInt8) (hn : nm.length ≤ 12) : ∀ (f : List UInt8) (ns : List Int), (∀ v ∈ ns, -1000000000 ≤ v ∧ v ≤ 1000000000) → (wrF nm f ns).length ≤ f.length * 26
  | [], ns, h => by simp [wrF]
  | c :: r, ns, h => by
    have hh : -1000000000 ≤ ns.headD 0 ∧ ns.headD 0 ≤ 1000000000 := by
      cases ns with
      | nil => exact ⟨by decide, by decide⟩
      | cons v t => exact h v (List.mem_cons_self ..)
    have ht : ∀ v ∈ ns.tail, -1000000000 ≤ v ∧ v ≤ 1000000000 := fun v hv => h v (List.mem_of_mem_tail hv)
    have h1 := wrF_len nm hn r ns h
    have h2 := wrF_len nm hn r ns.tail ht
    have h3 := dg_len hh.1 hh.2
    have h4 := drift_len hh.1 hh.2
    simp only [wrF, List.length_cons]
    split
    · rw [List.length_append]; omega
    · split
      · rw [List.length_append]; omega
      · split
        · rw [List.length_append]; omega
        · rw [List.length_cons]; omega
theorem ite_len {p : Prop} [Decidable p] {a b : List UInt8} (ha : a.length ≤ 40) (hb : b.length ≤ 40) : (if p then a else b).length ≤ 40 := by split <;> assumption
theorem formP_len (k : Nat) : (formP k).length ≤ 40 := by
  unfold formP
  repeat (refine ite_len (by decide) ?_)
  decide
theorem OkC.range {k : Int} {nm : ByteArray} {ns : List Int} (h : OkC k nm ns) : ∀ v ∈ ns, -1000000000 ≤ v ∧ v ≤ 1000000000 := by
  intro v hv
  obtain ⟨j, hj, rfl⟩ := List.getElem_of_mem hv
  have := num_range (h.nums j hj)
  exact ⟨this.1, this.2.1⟩
theorem lnC_len {x : Cm} (h : cmB x = true) : (lnC x).length ≤ 1041 := by
  have ho := okC_of h
  have h1 := wrF_len x.name.data.toList (by rw [show x.name.data.toList.length = x.name.size from Array.length_toList]; exact ho.name12) (formP x.kind.toNat) x.ns ho.range
  have h2 := formP_len x.kind.toNat
  unfold lnC lineL
  rw [List.length_append]
  simp only [List.length_cons, List.length_nil]
  omega
/-- What the reference prints: a text and an error's number. -/
def rprintL (l : List Cm) : List UInt8 × Nat :=
  if validB l = false then ([], 1) else if 8000 < (outL l).length ∨ 2000 < tokL l then ([], 2) else (outL l, 0)
theorem outL_snoc (l : List Cm) (x : Cm) : outL (l ++ [x]) = outL l ++ (lnC x ++ [10]) := by unfold outL; rw [List.flatMap_append]; simp
theorem tokL_snoc (l : List Cm) (x : Cm) : tokL (l ++ [x]) = tokL l + (2 + blanks (lnC x)) := by rw [tokL_append]; simp [tokL]

set_option maxRecDepth 100000 in
set_option maxHeartbeats 1000000 in
theorem rprint_val (A : Option Addr) (n c : Nat) (l : List Cm) (w : World) (h : IsCms w A n c l) :
    Calls Tryd.prog 13 #[.slice A n c] w fun e w' => e = .returned (.tuple #[.string ⟨(rprintL l).1.toArray⟩, i64 ((rprintL l).2 : Nat)]) ∧ Below w.heap.size w w' := by
  have hnm : n ≤ 9223372036854775807 := Nat.le_trans h.2.2.1 (Nat.le_trans h.2.2.2.1 (by decide))
  have HI := Lib.hid h
  have HN := Lib.hid h.1
  have HV := Lib.hid (rvalid_val A n c l w h)
  obtain ⟨v, hv⟩ : ∃ v, validB l = v := ⟨_, rfl⟩
  rw [hv] at HV
  clear h
  cases v with
  | false =>
    have HR : Hid (rprintL l = ([], 1)) := Lib.hid (by unfold rprintL; rw [if_pos hv])
    clear hv
    go_enter Tryd.func13, Tryd.ntmps13
    go_wp2_with fail
    refine HV.out.mono ?_
    rintro e w1 ⟨rfl, hb1⟩
    have HB1 := Lib.hid hb1
    clear hb1
    go_wp2_with fail
    go_ret2
    rw [HR.out]
    exact ⟨rfl, HB1.out⟩
  | true =>
    have hv2 := hv
    unfold validB at hv2
    simp only [Bool.and_eq_true, decide_eq_true_eq] at hv2
    have HA := Lib.hid (List.all_eq_true.1 hv2.2)
    have hn3 : n ≤ 300 := by rw [← HN.out]; exact hv2.1
    have HR : Hid (rprintL l = if 8000 < (outL l).length ∨ 2000 < tokL l then ([], 2) else (outL l, 0)) := Lib.hid (by unfold rprintL; rw [if_neg (by rw [hv]; decide)])
    clear hv hv2 hnm
    go_enter Tryd.func13, Tryd.ntmps13
    go_wp2_with fail
    refine HV.out.mono ?_
    rintro e w1 ⟨rfl, hb1⟩
    have HB1 := Lib.hid hb1
    clear hb1
    go_wp2_with fail
    go_loopw [4, 5, 6, 7] (fun o t i z wr => ∃ (k m : Nat) (S : ByteArray) (zz : Value), k ≤ n ∧ m ≤ 2000 * k ∧ S.size ≤ 2000 * k ∧ o = .string S ∧ t = i64 (m : Nat) ∧ i = i64 (k : Nat) ∧ z = zz ∧ Hid (S.data.toList = outL (l.take k)) ∧ Hid (tokL (l.take k) = m) ∧ Below w.heap.size w wr) (fun _ _ i _ _ => n - (intOf i).toNat)
    case atStart => exact ⟨0, 0, ⟨#[]⟩, _, Nat.zero_le _, Nat.le_refl _, Nat.le_refl _, rfl, rfl, rfl, rfl, Lib.hid rfl, Lib.hid rfl, HB1.out⟩
    case round =>
      obtain ⟨k, m, S, zz, hk, hm, hS, rfl, rfl, rfl, rfl, HSl, HM, hB⟩ := hrel
      have HB := Lib.hid hB
      clear hB
      by_cases hlt : k < n
      · have hlt' : (k : Int) < (n : Int) := by omega
        have hkl : k < l.length := by rw [HN.out]; exact hlt
        obtain ⟨b, off, rfl, hb, hc⟩ := rd_el (dec := decC) (s := 4) (fun _ => rfl) (HI.out.up HB.out).2.1 HN.out hkl
        have hok := HA.out l[k] (List.getElem_mem hkl)
        have HV2 := Lib.hid (line_val l[k] _ ((HI.out.up HB.out).2.2.2.2 _ (List.getElem_mem hkl)) (okC_of hok))
        have hlen := lnC_len hok
        have hst : outL (l.take (k + 1)) = outL (l.take k) ++ (lnC l[k] ++ [10]) := by rw [List.take_succ_eq_append_getElem hkl, outL_snoc]
        have htk : tokL (l.take (k + 1)) = tokL (l.take k) + (2 + blanks (lnC l[k])) := by rw [List.take_succ_eq_append_getElem hkl, tokL_snoc]
        have hlc : lnC l[k] = lineL l[k].kind l[k].name.data.toList l[k].ns := rfl
        rw [← hlc] at HV2
        obtain ⟨X, hX⟩ : ∃ X, lnC l[k] = X := ⟨_, rfl⟩
        rw [hX] at HV2 hlen hst htk
        obtain ⟨⟨xk, xm, xA, xn, xc, xs, xp⟩, hx⟩ : ∃ x, l[k] = x := ⟨_, rfl⟩
        rw [hx] at hc HV2
        have c0 := hc 0 _ rfl
        have c1 := hc 1 _ rfl
        have c2 := hc 2 _ rfl
        have c3 := hc 3 _ rfl
        rw [Nat.add_zero] at c0
        dsimp only at c0 c1 c2 c3 HV2
        obtain ⟨K, hK⟩ : ∃ K : ByteArray, ⟨X.toArray⟩ = K := ⟨_, rfl⟩
        have HKl : Hid (K.data.toList = X) := Lib.hid (by rw [← hK])
        have hKs : K.size ≤ 1041 := by rw [← hK]; exact hlen
        have HT := Lib.hid (fun W => tokens_val K (by omega) W)
        obtain ⟨q, hq⟩ : ∃ q, 2 + blanks K.data.toList = q := ⟨_, rfl⟩
        have hqb : q ≤ 1043 := by rw [← hq, HKl.out]; have := blanks_le X; omega
        rw [hq] at HT
        have HTK : Hid (tokL (l.take (k + 1)) = m + q) := Lib.hid (by rw [htk, HM.out, ← hq, HKl.out])
        have HST : Hid ((S ++ (K ++ (⟨#[10]⟩ : ByteArray))).data.toList = outL (l.take (k + 1))) := Lib.hid (by rw [hst, Joins.data_append, Joins.data_append, HKl.out, HSl.out])
        have hSS : (S ++ (K ++ (⟨#[10]⟩ : ByteArray))).size ≤ 2000 * (k + 1) := by rw [ByteArray.size_append, ByteArray.size_append]; show S.size + (K.size + 1) ≤ _; omega
        rw [hK] at HV2
        have HSS := Lib.hid hSS
        clear hb hc hx hX hK hq hlc hst htk hkl hlen hok hSS
        go_wp2_with fail
        refine HV2.out.mono ?_
        rintro e w2 ⟨rfl, hb2⟩
        have HB2 := Lib.hid (below_trans' HB.out hb2)
        clear hb2
        go_wp2_with fail
        refine (HT.out _).mono ?_
        rintro e w3 ⟨rfl, rfl⟩
        go_wp2_with fail
        case roundEnd =>
          refine ⟨⟨k + 1, m + q, _, _, by omega, by omega, HSS.out, rfl, rfl, rfl, rfl, HST, HTK, HB2.out⟩, ?_⟩
          simp only [intOf]; omega
      · have hlt' : ¬ (k : Int) < (n : Int) := by omega
        obtain rfl : k = n := by omega
        have hs := HSl.out
        have ht := HM.out
        rw [List.take_of_length_le (by rw [HN.out]; exact Nat.le_refl _)] at hs ht
        have hsz : S.size = (outL l).length := by rw [← hs]; exact (Array.length_toList).symm
        have HSE : Hid (S.data.toList = outL l) := Lib.hid hs
        have HR2 : Hid (rprintL l = if 8000 < S.size ∨ 2000 < m then ([], 2) else (S.data.toList, 0)) := Lib.hid (by rw [HR.out, hsz, ht, hs])
        clear hs ht hsz
        by_cases q1 : 8000 < S.size
        · have f1 : (8000 : Int) < (S.size : Int) := by omega
          have HR3 : Hid (rprintL l = ([], 2)) := Lib.hid (by rw [HR2.out, if_pos (.inl q1)])
          go_wp2_with fail
          go_ret2
          rw [HR3.out]
          exact ⟨rfl, HB.out⟩
        · have f1 : ¬ (8000 : Int) < (S.size : Int) := by omega
          by_cases q2 : 2000 < m
          · have f2 : (2000 : Int) < (m : Int) := by omega
            have HR3 : Hid (rprintL l = ([], 2)) := Lib.hid (by rw [HR2.out, if_pos (.inr q2)])
            go_wp2_with fail
            go_ret2
            rw [HR3.out]
            exact ⟨rfl, HB.out⟩
          · have f2 : ¬ (2000 : Int) < (m : Int) := by omega
            have HR3 : Hid (rprintL l = (S.data.toList, 0)) := Lib.hid (by rw [HR2.out, if_neg (by omega)])
            go_wp2_with fail
            go_ret2
            rw [HR3.out]
            exact ⟨by rw [str_eta]; rfl, HB.out⟩
end Go.Proofs.YtmdogklgbifacaaDoor.Pr

/- The variables that the printer reads. -/
namespace Go.Proofs.YtmdogklgbifacaaDoor.Pr
open Go.RowKit Go.Proofs.YtmdogklgbifacaaDoor.Lx
set_option linter.unusedVariables false

/-- The printer's forms lie in their variable. -/
def FormsIs (w : World) : Prop := ∀ i, i < 12 → w.cell? ⟨0, i, none⟩ = some (.string ⟨(formP i).toArray⟩)
structure VarP (w : World) : Prop where
  err : Vars w
  pow : Lib.TabIs Tryd.prog w "internal/strconv.uint64pow10" .u64 Lib.pow10Tab
  forms : FormsIs w
theorem gPow : Tryd.prog.globalNamed "internal/strconv.uint64pow10" = some 1 := by kernel_rfl
theorem tabIs_up {n : String} {g : Nat} {k : IntKind} {zs : List Int} {w w' : World} (hg : Tryd.prog.globalNamed n = some g) (h : Lib.TabIs Tryd.prog w n k zs) (hb : Below w.heap.size w w') : Lib.TabIs Tryd.prog w' n k zs := by
  unfold Lib.TabIs World.var? at h ⊢
  rw [hg] at h ⊢
  simp only [Option.bind_some] at h ⊢
  have hlt : g < w.heap.size := by
    rcases Nat.lt_or_ge g w.heap.size with h' | h'
    · exact h'
    · rw [Array.getElem?_eq_none h'] at h; cases h
  rw [hb.block g hlt]
  exact h
theorem VarP.up {w w' : World} (h : VarP w) (hb : Below w.heap.size w w') : VarP w' :=
  ⟨h.err.up hb, tabIs_up gPow h.pow hb, fun i hi => (hb.cell (Lx.cell_lt (h.forms i hi))).trans (h.forms i hi)⟩
end Go.Proofs.YtmdogklgbifacaaDoor.Pr
