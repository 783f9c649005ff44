/- The walk of the statement that two scripts have one canonical text if they are the same commands. -/
import Derived.Test.YtbgekgakamincaaDoorTpHead
import Derived.Test.YtbgekgakamincaaDoorLxAlike
namespace Go.Proofs.YtbgekgakamincaaDoor.Tp
open Go.RowKit Go.Proofs.YtbgekgakamincaaDoor.Lx Go.Proofs.YtbgekgakamincaaDoor.Pr Go.Proofs.YtbgekgakamincaaDoor.Ps
set_option linter.unusedVariables false

theorem like_er {x y : Tok} (h : likeT x y = true) : er x = er y := by
  unfold likeT at h
  simp only [Bool.and_eq_true, decide_eq_true_eq] at h
  obtain ⟨h1, h2, h3⟩ := h
  unfold er
  rw [h1, h2, h3]
theorem alike_er : ∀ (xs ys : List Tok), alikeB xs ys = true → xs.map er = ys.map er
  | [], [], _ => rfl
  | [], _ :: _, h => by cases h
  | _ :: _, [], h => by cases h
  | x :: xs, y :: ys, h => by
    simp only [alikeB, Bool.and_eq_true] at h
    rw [List.map_cons, List.map_cons, like_er h.1, alike_er xs ys h.2]
/-- Canonical texts are equal if the commands are. -/
theorem can_same {a b : List UInt8} {S T : ByteArray} (ha : CanOk a S) (hb : CanOk b T) {xs ys : List Cm} (hx : xs.map keyQ = (PARSE a).1.map keyR) (hy : ys.map keyQ = (PARSE b).1.map keyR) : (S.toList == T.toList) = decide (xs.map keyC = ys.map keyC) := by
  obtain ⟨_, _, xa, ka, va, ta, a8, a2⟩ := ha
  obtain ⟨_, _, xb, kb, vb, tb, b8, b2⟩ := hb
  have e1 : xs.map keyC = xa.map keyC := by rw [keyC_of_R hx, keyC_of_R ka]
  have e2 : ys.map keyC = xb.map keyC := by rw [keyC_of_R hy, keyC_of_R kb]
  rw [Lib.toList_data, Lib.toList_data, ta, tb, e1, e2]
  by_cases h : outL xa = outL xb
  · rw [h, beq_self_eq_true, decide_eq_true ((same_text va vb a8 a2 b8 b2).1 h)]
  · rw [beq_eq_false_iff_ne.2 h, decide_eq_false (fun q => h ((same_text va vb a8 a2 b8 b2).2 q))]
theorem can_alike {a b : List UInt8} {S T : ByteArray} (ha : CanOk a S) (hb : CanOk b T) {xs ys : List Cm} (hx : xs.map keyQ = (PARSE a).1.map keyR) (hy : ys.map keyQ = (PARSE b).1.map keyR) (h : alikeB (LEX a).toks (LEX b).toks = true) : xs.map keyC = ys.map keyC := by
  rw [keyC_of_R hx, keyC_of_R hy]
  exact (parse_er (good_reads ha.2.1).1 (good_reads hb.2.1).1 (alike_er _ _ h)).1
set_option maxRecDepth 100000 in
set_option maxHeartbeats 4000000 in
theorem topSameScripts_walk (a b : ByteArray) (w : World) (ha : a.size ≤ maxLen) (za : a.size ≤ 140737488351232) (hb : b.size ≤ maxLen) (zb : b.size ≤ 140737488351232) (hv : VarP w) :
    Calls Tryd.prog 3 #[.string a, .string b] w fun e w' => e = .returned (.bool true) ∧ Below w.heap.size w w' := by
  have HH := Lib.hid (thead_val w hv)
  have HV := Lib.hid hv
  have HCA := Lib.hid (fun W (q : Below w.heap.size w W) => canon_val a ha W (HV.out.up q))
  have HCB := Lib.hid (fun W (q : Below w.heap.size w W) => canon_val b hb W (HV.out.up q))
  have HPA := Lib.hid (fun W (q : Below w.heap.size w W) => parse_val a ha W (HV.out.up q).err)
  have HPB := Lib.hid (fun W (q : Below w.heap.size w W) => parse_val b hb W (HV.out.up q).err)
  have HLA := Lib.hid (fun W (q : Below w.heap.size w W) => lex_val a ha W (HV.out.up q).err)
  have HLB := Lib.hid (fun W (q : Below w.heap.size w W) => lex_val b hb W (HV.out.up q).err)
  obtain ⟨la, hla⟩ : ∃ l, a.data.toList = l := ⟨_, rfl⟩
  obtain ⟨lb, hlb⟩ : ∃ l, b.data.toList = l := ⟨_, rfl⟩
  rw [hla] at HCA HPA HLA
  rw [hlb] at HCB HPB HLB
  clear hv ha hb za zb hla hlb
  go_enter Tryd.func3, Tryd.ntmps3
  go_wp2_with fail
  refine HH.out.mono ?_
  rintro e1 w1 ⟨rfl, hb1⟩
  have HB1 := Lib.hid hb1
  clear hb1 HH
  go_wp2_with fail
  refine (HCA.out _ HB1.out).mono ?_
  rintro e2 w2 ⟨S, ok1, rfl, hok1, hb2⟩
  have HB2 := Lib.hid (below_trans' HB1.out hb2)
  have HO1 := Lib.hid hok1
  clear hb2 hok1
  go_wp2_with fail
  refine (HCB.out _ HB2.out).mono ?_
  rintro e3 w3 ⟨T, ok2, rfl, hok2, hb3⟩
  have HB3 := Lib.hid (below_trans' HB2.out hb3)
  have HO2 := Lib.hid hok2
  clear hb3 hok2
  cases ok1 with
  | false =>
    go_wp2_with fail
    go_ret
    exact ⟨rfl, HB3.out⟩
  | true =>
    cases ok2 with
    | false =>
      go_wp2_with fail
      go_ret
      exact ⟨rfl, HB3.out⟩
    | true =>
      have HK1 := Lib.hid (HO1.out rfl)
      have HK2 := Lib.hid (HO2.out rfl)
      clear HO1 HO2
      go_wp2_with fail
      refine (HPA.out _ HB3.out).mono ?_
      rintro e4 w4 ⟨A4, n4, c4, xs, D4, q4, d4, ds, rfl, hx, hd, hb4, hk4, hds⟩
      have HB4 := Lib.hid (below_trans' HB3.out hb4)
      have HX := Lib.hid hx
      have HKX := Lib.hid hk4
      have hn4 : n4 ≤ 100000 := by have h1 := key_len hk4; rw [hx.1] at h1; have := parse_300' la; omega
      clear hx hd hb4 hk4 hds
      go_wp2_with fail
      refine (HPB.out _ HB4.out).mono ?_
      rintro e5 w5 ⟨A5, n5, c5, ys, D5, q5, d5, es, rfl, hy, he, hb5, hk5, hes⟩
      have HB5 := Lib.hid (below_trans' HB4.out hb5)
      have HX5 := Lib.hid (HX.out.up hb5)
      have HY := Lib.hid hy
      have HKY := Lib.hid hk5
      have hn5 : n5 ≤ 100000 := by have h1 := key_len hk5; rw [hy.1] at h1; have := parse_300' lb; omega
      clear hy he hb5 hk5 hes
      go_wp2_with fail
      refine (HLA.out _ HB5.out).mono ?_
      rintro e6 w6 ⟨A6, n6, c6, rfl, hT6, hb6⟩
      have HB6 := Lib.hid (below_trans' HB5.out hb6)
      have HX6 := Lib.hid (HX5.out.up hb6)
      have HY6 := Lib.hid (HY.out.up hb6)
      have HT6 := Lib.hid hT6
      clear hT6 hb6
      go_wp2_with fail
      refine (HLB.out _ HB6.out).mono ?_
      rintro e7 w7 ⟨A7, n7, c7, rfl, hT7, hb7⟩
      have HB7 := Lib.hid (below_trans' HB6.out hb7)
      have HX7 := Lib.hid (HX6.out.up hb7)
      have HY7 := Lib.hid (HY6.out.up hb7)
      have HT67 := Lib.hid (HT6.out.up hb7)
      have HT7 := Lib.hid hT7
      have HS7 := Lib.hid (strip_val A4 n4 c4 xs w7 HX7.out hn4)
      clear hT7 hb7
      go_wp2_with fail
      refine HS7.out.mono ?_
      rintro e8 w8 ⟨A8, c8, rfl, hi8, hb8⟩
      have HB8 := Lib.hid (below_trans' HB7.out hb8)
      have HI8 := Lib.hid hi8
      have HT68 := Lib.hid (HT67.out.up hb8)
      have HT78 := Lib.hid (HT7.out.up hb8)
      have HS8 := Lib.hid (strip_val A5 n5 c5 ys w8 (HY7.out.up hb8) hn5)
      clear hi8 hb8
      go_wp2_with fail
      refine HS8.out.mono ?_
      rintro e9 w9 ⟨A9, c9, rfl, hi9, hb9⟩
      have HB9 := Lib.hid (below_trans' HB8.out hb9)
      have HT69 := Lib.hid (HT68.out.up hb9)
      have HT79 := Lib.hid (HT78.out.up hb9)
      have HM9 := Lib.hid (same_val _ _ _ _ _ _ _ _ w9 (HI8.out.up hb9) hi9)
      rw [same_bare] at HM9
      have gS := can_same HK1.out HK2.out HKX.out HKY.out
      have HAL := Lib.hid (can_alike HK1.out HK2.out HKX.out HKY.out)
      obtain ⟨v, hvk⟩ : ∃ v, decide (xs.map keyC = ys.map keyC) = v := ⟨_, rfl⟩
      rw [hvk] at HM9 gS
      have HVK := Lib.hid hvk
      clear hi9 hb9 hvk
      go_wp2_with fail
      refine HM9.out.mono ?_
      rintro e10 w10 ⟨rfl, hb10⟩
      have HB10 := Lib.hid (below_trans' HB9.out hb10)
      have HLK := Lib.hid (alike_val _ _ _ _ _ _ _ _ w10 (HT69.out.up hb10) (HT79.out.up hb10))
      obtain ⟨u, hu⟩ : ∃ u, alikeB (LEX la).toks (LEX lb).toks = u := ⟨_, rfl⟩
      rw [hu] at HLK
      have hvv : (v == v) = true := by cases v <;> rfl
      have HUV : Hid (u = true → v = true) := Lib.hid (fun h => by rw [← HVK.out]; exact decide_eq_true (HAL.out (hu.trans h)))
      clear hb10 hu
      cases v with
      | true =>
        go_wp2_with fail
        refine HLK.out.mono ?_
        rintro e11 w11 ⟨rfl, hb11⟩
        have HB11 := Lib.hid (below_trans' HB10.out hb11)
        clear hb11
        cases u with
        | true =>
          go_wp2_with fail
          go_ret
          exact ⟨rfl, HB11.out⟩
        | false =>
          go_wp2_with fail
          go_ret
          exact ⟨rfl, HB11.out⟩
      | false =>
        cases u with
        | true => exact absurd (HUV.out rfl) (by decide)
        | false =>
          go_wp2_with fail
          refine HLK.out.mono ?_
          rintro e11 w11 ⟨rfl, hb11⟩
          have HB11 := Lib.hid (below_trans' HB10.out hb11)
          clear hb11
          go_wp2_with fail
          go_ret
          exact ⟨rfl, HB11.out⟩
end Go.Proofs.YtbgekgakamincaaDoor.Tp
