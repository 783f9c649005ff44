/- The reference's Tokens and Print. -/
import Derived.Test.YtmdogklgbifacaaDoorPrLine
namespace Go.Proofs.YtmdogklgbifacaaDoor.Pr
open Go.RowKit Go.Proofs.YtmdogklgbifacaaDoor.Lx
set_option linter.unusedVariables false

def blanks : List UInt8 → Nat
  | [] => 0
  | c :: r => (if c.toNat = 32 then 1 else 0) + blanks r
theorem blanks_le : ∀ l, blanks l ≤ l.length
  | [] => Nat.le_refl _
  | c :: r => by have := blanks_le r; simp only [blanks, List.length_cons]; split <;> omega
set_option maxRecDepth 100000 in
set_option maxHeartbeats 1000000 in
theorem tokens_val (s : ByteArray) (hs : s.size ≤ 100000) (w : World) :
    Calls Tryd.prog 25 #[.string s] w fun e w' => e = .returned (i64 ((2 + blanks s.data.toList : Nat) : Int)) ∧ w = w' := by
  have HL : Hid (s.data.toList.length = s.size) := Lib.hid Array.length_toList
  go_enter Tryd.func25, Tryd.ntmps25
  go_wp2_with fail
  go_loopw [3, 4] (fun q i wr => ∃ (k n : Nat), k ≤ s.size ∧ n ≤ k + 2 ∧ q = i64 (n : Nat) ∧ i = i64 (k : Nat) ∧ Hid (2 + blanks s.data.toList = n + blanks (s.data.toList.drop k)) ∧ w = wr) (fun _ i _ => s.size - (intOf i).toNat)
  case atStart => exact ⟨0, 2, Nat.zero_le _, Nat.le_refl _, rfl, rfl, Lib.hid rfl, rfl⟩
  case round =>
    obtain ⟨k, n, hk, hn, rfl, rfl, HG, rfl⟩ := hrel
    by_cases hlt : k < s.size
    · have hlt' : (k : Int) < (s.size : Int) := by omega
      have hg := HG.out
      rw [List.drop_eq_getElem_cons (by rw [HL.out]; exact hlt)] at hg
      obtain ⟨b, hb⟩ : ∃ b, s[k] = b := ⟨_, rfl⟩
      have hbb : s.data.toList[k]'(by rw [HL.out]; exact hlt) = b := hb
      rw [hbb] at hg
      simp only [blanks] at hg
      clear hbb
      by_cases h32 : b.toNat = 32
      · have f1 : ((b.toNat : Int) == 32) = true := by rw [beq_iff_eq]; omega
        rw [if_pos h32] at hg
        have HG2 := Lib.hid hg
        clear hg h32
        go_wp2_with fail
        case roundEnd =>
          refine ⟨⟨k + 1, n + 1, by omega, by omega, rfl, rfl, Lib.hid (by rw [HG2.out]; omega), trivial⟩, ?_⟩
          simp only [intOf]; omega
      · have f1 : ((b.toNat : Int) == 32) = false := by rw [beq_eq_false_iff_ne]; omega
        rw [if_neg h32] at hg
        have HG2 := Lib.hid hg
        clear hg h32
        go_wp2_with fail
        case roundEnd =>
          refine ⟨⟨k + 1, n, by omega, by omega, rfl, rfl, Lib.hid (by rw [HG2.out]; omega), trivial⟩, ?_⟩
          simp only [intOf]; omega
    · have hlt' : ¬ (k : Int) < (s.size : Int) := by omega
      obtain rfl : k = s.size := by omega
      have hg := HG.out
      rw [List.drop_of_length_le (by rw [HL.out]; exact Nat.le_refl _)] at hg
      have HG2 : Hid (2 + blanks s.data.toList = n) := Lib.hid hg
      clear hg
      go_wp2_with fail
      go_ret
      exact ⟨congrArg (fun z => Ending.returned (i64 z)) (by have := HG2.out; omega), rfl⟩

/-- The line of a command that lies in memory. -/
def lnC (x : Cm) : List UInt8 := lineL x.kind x.name.data.toList x.ns
/-- The text of commands. -/
def outL (l : List Cm) : List UInt8 := l.flatMap fun x => lnC x ++ [10]
/-- How many tokens it has. -/
def tokL : List Cm → Nat
  | [] => 0
  | x :: r => (2 + blanks (lnC x)) + tokL r
theorem tokL_append : ∀ a b, tokL (a ++ b) = tokL a + tokL b
  | [], b => by simp [tokL]
  | x :: a, b => by rw [List.cons_append]; simp only [tokL]; rw [tokL_append a b]; omega
theorem dg_len {v : Int} (h0 : -1000000000 ≤ v) (h1 : v ≤ 1000000000) : (dg v).length ≤ 21 := dec_len (by omega)
theorem drift_len {v : Int} (h0 : -1000000000 ≤ v) (h1 : v ≤ 1000000000) : (driftL v).length ≤ 26 := by
  unfold driftL
  have := dec_len (n := v.natAbs) (by omega)
  rw [List.length_append]
  split <;> simp only [List.length_cons, List.length_nil] <;> omega
theorem wrF_len (nm : List UInt8) (hn : nm.length ≤ 12) : ∀ (f : List UInt8) (ns : List Int), (∀ v ∈ ns, -1000000000 ≤ v ∧ v ≤ 1000000000) → (wrF nm f ns).length ≤ f.length * 26
  | [], ns, h => by simp [wrF]
  | c :: r, ns, h => by
    have hh : -1000000000 ≤ ns.headD 0 ∧ ns.headD 0 ≤ 1000000000 := by
      cases ns with
      | nil => exact ⟨by decide, by decide⟩
      | cons v t => exact h v (List.mem_cons_self ..)
    have ht : ∀ v ∈ ns.tail, -1000000000 ≤ v ∧ v ≤ 1000000000 := fun v hv => h v (List.mem_of_mem_tail hv)
    have h1 := wrF_len nm hn r ns h
    have h2 := wrF_len nm hn r ns.tail ht
    have h3 := dg_len hh.1 hh.2
    have h4 := drift_len hh.1 hh.2
    simp only [wrF, List.length_cons]
    split
    · rw [List.length_append]; omega
    · split
      · rw [List.length_append]; omega
      · split
        · rw [List.length_append]; omega
        · rw [List.length_cons]; omega
theorem ite_len {p : Prop} [Decidable p] {a b : List UInt8} (ha : a.length ≤ 40) (hb : b.length ≤ 40) : (if p then a else b).length ≤ 40 := by split <;> assumption
theorem formP_len (k : Nat) : (formP k).length ≤ 40 := by
  unfold formP
  repeat (refine ite_len (by decide) ?_)
  decide
theorem OkC.range {k : Int} {nm : ByteArray} {ns : List Int} (h : OkC k nm ns) : ∀ v ∈ ns, -1000000000 ≤ v ∧ v ≤ 1000000000 := by
  intro v hv
  obtain ⟨j, hj, rfl⟩ := List.getElem_of_mem hv
  have := num_range (h.nums j hj)
  exact ⟨this.1, this.2.1⟩
theorem lnC_len {x : Cm} (h : cmB x = true) : (lnC x).length ≤ 1041 := by
  have ho := okC_of h
  have h1 := wrF_len x.name.data.toList (by rw [show x.name.data.toList.length = x.name.size from Array.length_toList]; exact ho.name12) (formP x.kind.toNat) x.ns ho.range
  have h2 := formP_len x.kind.toNat
  unfold lnC lineL
  rw [List.length_append]
  simp only [List.length_cons, List.length_nil]
  omega
/-- What the reference prints: a text and an error's number. -/
def rprintL (l : List Cm) : List UInt8 × Nat :=
  if validB l = false then ([], 1) else if 8000 < (outL l).length ∨ 2000 < tokL l then ([], 2) else (outL l, 0)
theorem outL_snoc (l : List Cm) (x : Cm) : outL (l ++ [x]) = outL l ++ (lnC x ++ [10]) := by unfold outL; rw [List.flatMap_append]; simp
theorem tokL_snoc (l : List Cm) (x : Cm) : tokL (l ++ [x]) = tokL l + (2 + blanks (lnC x)) := by rw [tokL_append]; simp [tokL]

set_option maxRecDepth 100000 in
set_option maxHeartbeats 1000000 in
theorem rprint_val (A : Option Addr) (n c : Nat) (l : List Cm) (w : World) (h : IsCms w A n c l) :
    Calls Tryd.prog 13 #[.slice A n c] w fun e w' => e = .returned (.tuple #[.string ⟨(rprintL l).1.toArray⟩, i64 ((rprintL l).2 : Nat)]) ∧ Below w.heap.size w w' := by
  have hnm : n ≤ 9223372036854775807 := Nat.le_trans h.2.2.1 (Nat.le_trans h.2.2.2.1 (by decide))
  have HI := Lib.hid h
  have HN := Lib.hid h.1
  have HV := Lib.hid (rvalid_val A n c l w h)
  obtain ⟨v, hv⟩ : ∃ v, validB l = v := ⟨_, rfl⟩
  rw [hv] at HV
  clear h
  cases v with
  | false =>
    have HR : Hid (rprintL l = ([], 1)) := Lib.hid (by unfold rprintL; rw [if_pos hv])
    clear hv
    go_enter Tryd.func13, Tryd.ntmps13
    go_wp2_with fail
    refine HV.out.mono ?_
    rintro e w1 ⟨rfl, hb1⟩
    have HB1 := Lib.hid hb1
    clear hb1
    go_wp2_with fail
    go_ret2
    rw [HR.out]
    exact ⟨rfl, HB1.out⟩
  | true =>
    have hv2 := hv
    unfold validB at hv2
    simp only [Bool.and_eq_true, decide_eq_true_eq] at hv2
    have HA := Lib.hid (List.all_eq_true.1 hv2.2)
    have hn3 : n ≤ 300 := by rw [← HN.out]; exact hv2.1
    have HR : Hid (rprintL l = if 8000 < (outL l).length ∨ 2000 < tokL l then ([], 2) else (outL l, 0)) := Lib.hid (by unfold rprintL; rw [if_neg (by rw [hv]; decide)])
    clear hv hv2 hnm
    go_enter Tryd.func13, Tryd.ntmps13
    go_wp2_with fail
    refine HV.out.mono ?_
    rintro e w1 ⟨rfl, hb1⟩
    have HB1 := Lib.hid hb1
    clear hb1
    go_wp2_with fail
    go_loopw [4, 5, 6, 7] (fun o t i z wr => ∃ (k m : Nat) (S : ByteArray) (zz : Value), k ≤ n ∧ m ≤ 2000 * k ∧ S.size ≤ 2000 * k ∧ o = .string S ∧ t = i64 (m : Nat) ∧ i = i64 (k : Nat) ∧ z = zz ∧ Hid (S.data.toList = outL (l.take k)) ∧ Hid (tokL (l.take k) = m) ∧ Below w.heap.size w wr) (fun _ _ i _ _ => n - (intOf i).toNat)
    case atStart => exact ⟨0, 0, ⟨#[]⟩, _, Nat.zero_le _, Nat.le_refl _, Nat.le_refl _, rfl, rfl, rfl, rfl, Lib.hid rfl, Lib.hid rfl, HB1.out⟩
    case round =>
      obtain ⟨k, m, S, zz, hk, hm, hS, rfl, rfl, rfl, rfl, HSl, HM, hB⟩ := hrel
      have HB := Lib.hid hB
      clear hB
      by_cases hlt : k < n
      · have hlt' : (k : Int) < (n : Int) := by omega
        have hkl : k < l.length := by rw [HN.out]; exact hlt
        obtain ⟨b, off, rfl, hb, hc⟩ := rd_el (dec := decC) (s := 4) (fun _ => rfl) (HI.out.up HB.out).2.1 HN.out hkl
        have hok := HA.out l[k] (List.getElem_mem hkl)
        have HV2 := Lib.hid (line_val l[k] _ ((HI.out.up HB.out).2.2.2.2 _ (List.getElem_mem hkl)) (okC_of hok))
        have hlen := lnC_len hok
        have hst : outL (l.take (k + 1)) = outL (l.take k) ++ (lnC l[k] ++ [10]) := by rw [List.take_succ_eq_append_getElem hkl, outL_snoc]
        have htk : tokL (l.take (k + 1)) = tokL (l.take k) + (2 + blanks (lnC l[k])) := by rw [List.take_succ_eq_append_getElem hkl, tokL_snoc]
        have hlc : lnC l[k] = lineL l[k].kind l[k].name.data.toList l[k].ns := rfl
        rw [← hlc] at HV2
        obtain ⟨X, hX⟩ : ∃ X, lnC l[k] = X := ⟨_, rfl⟩
        rw [hX] at HV2 hlen hst htk
        obtain ⟨⟨xk, xm, xA, xn, xc, xs, xp⟩, hx⟩ : ∃ x, l[k] = x := ⟨_, rfl⟩
        rw [hx] at hc HV2
        have c0 := hc 0 _ rfl
        have c1 := hc 1 _ rfl
        have c2 := hc 2 _ rfl
        have c3 := hc 3 _ rfl
        rw [Nat.add_zero] at c0
        dsimp only at c0 c1 c2 c3 HV2
        obtain ⟨K, hK⟩ : ∃ K : ByteArray, ⟨X.toArray⟩ = K := ⟨_, rfl⟩
        have HKl : Hid (K.data.toList = X) := Lib.hid (by rw [← hK])
        have hKs : K.size ≤ 1041 := by rw [← hK]; exact hlen
        have HT := Lib.hid (fun W => tokens_val K (by omega) W)
        obtain ⟨q, hq⟩ : ∃ q, 2 + blanks K.data.toList = q := ⟨_, rfl⟩
        have hqb : q ≤ 1043 := by rw [← hq, HKl.out]; have := blanks_le X; omega
        rw [hq] at HT
        have HTK : Hid (tokL (l.take (k + 1)) = m + q) := Lib.hid (by rw [htk, HM.out, ← hq, HKl.out])
        have HST : Hid ((S ++ (K ++ (⟨#[10]⟩ : ByteArray))).data.toList = outL (l.take (k + 1))) := Lib.hid (by rw [hst, Joins.data_append, Joins.data_append, HKl.out, HSl.out])
        have hSS : (S ++ (K ++ (⟨#[10]⟩ : ByteArray))).size ≤ 2000 * (k + 1) := by rw [ByteArray.size_append, ByteArray.size_append]; show S.size + (K.size + 1) ≤ _; omega
        rw [hK] at HV2
        have HSS := Lib.hid hSS
        clear hb hc hx hX hK hq hlc hst htk hkl hlen hok hSS
        go_wp2_with fail
        refine HV2.out.mono ?_
        rintro e w2 ⟨rfl, hb2⟩
        have HB2 := Lib.hid (below_trans' HB.out hb2)
        clear hb2
        go_wp2_with fail
        refine (HT.out _).mono ?_
        rintro e w3 ⟨rfl, rfl⟩
        go_wp2_with fail
        case roundEnd =>
          refine ⟨⟨k + 1, m + q, _, _, by omega, by omega, HSS.out, rfl, rfl, rfl, rfl, HST, HTK, HB2.out⟩, ?_⟩
          simp only [intOf]; omega
      · have hlt' : ¬ (k : Int) < (n : Int) := by omega
        obtain rfl : k = n := by omega
        have hs := HSl.out
        have ht := HM.out
        rw [List.take_of_length_le (by rw [HN.out]; exact Nat.le_refl _)] at hs ht
        have hsz : S.size = (outL l).length := by rw [← hs]; exact (Array.length_toList).symm
        have HSE : Hid (S.data.toList = outL l) := Lib.hid hs
        have HR2 : Hid (rprintL l = if 8000 < S.size ∨ 2000 < m then ([], 2) else (S.data.toList, 0)) := Lib.hid (by rw [HR.out, hsz, ht, hs])
        clear hs ht hsz
        by_cases q1 : 8000 < S.size
        · have f1 : (8000 : Int) < (S.size : Int) := by omega
          have HR3 : Hid (rprintL l = ([], 2)) := Lib.hid (by rw [HR2.out, if_pos (.inl q1)])
          go_wp2_with fail
          go_ret2
          rw [HR3.out]
          exact ⟨rfl, HB.out⟩
        · have f1 : ¬ (8000 : Int) < (S.size : Int) := by omega
          by_cases q2 : 2000 < m
          · have f2 : (2000 : Int) < (m : Int) := by omega
            have HR3 : Hid (rprintL l = ([], 2)) := Lib.hid (by rw [HR2.out, if_pos (.inr q2)])
            go_wp2_with fail
            go_ret2
            rw [HR3.out]
            exact ⟨rfl, HB.out⟩
          · have f2 : ¬ (2000 : Int) < (m : Int) := by omega
            have HR3 : Hid (rprintL l = (S.data.toList, 0)) := Lib.hid (by rw [HR2.out, if_neg (by omega)])
            go_wp2_with fail
            go_ret2
            rw [HR3.out]
            exact ⟨by rw [str_eta]; rfl, HB.out⟩
end Go.Proofs.YtmdogklgbifacaaDoor.Pr
