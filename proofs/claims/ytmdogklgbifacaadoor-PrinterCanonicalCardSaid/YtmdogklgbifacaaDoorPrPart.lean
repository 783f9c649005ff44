/- The law PrinterParts. -/
import Derived.Test.YtmdogklgbifacaaDoorPrJoin
namespace Go.Proofs.YtmdogklgbifacaaDoor.Pr
open Go.RowKit Go.Proofs.YtmdogklgbifacaaDoor.Lx
set_option linter.unusedVariables false

theorem all_take {l : List Cm} (h : ∀ x ∈ l, cmB x = true) (i k : Nat) : ∀ x ∈ (l.take k).drop i, cmB x = true := fun x hx => h x (List.mem_of_mem_take (List.mem_of_mem_drop hx))
theorem part_split (l : List Cm) (i k : Nat) (hik : i ≤ k) : l = l.take i ++ ((l.take k).drop i ++ l.drop k) := by
  conv => lhs; rw [← List.take_append_drop k l]
  rw [← List.append_assoc]
  congr 1
  conv => lhs; rw [← List.take_append_drop i (l.take k)]
  rw [List.take_take, Nat.min_eq_left hik]
theorem part_law {l : List Cm} (hv : validB l = true) (i k : Nat) (hik : i ≤ k) :
    ((rprintL l).2 = 2 ∨ ((rprintL l).2 = 0 ∧ (rprintL ((l.take k).drop i)).2 = 0)) := by
  obtain ⟨hl, ha⟩ := valid_all hv
  have hpv : validB ((l.take k).drop i) = true := by
    unfold validB
    rw [List.all_eq_true.2 (all_take ha i k), decide_eq_true]
    · rfl
    · rw [List.length_drop, List.length_take]; omega
  rcases rprint_cases l with ⟨x1, x2⟩ | ⟨x1, x2, x3⟩ | ⟨x1, x2, x3, x4⟩
  · rw [hv] at x1; cases x1
  · exact .inl (by rw [x3])
  · refine .inr ⟨by rw [x4], ?_⟩
    have e := part_split l i k hik
    have h1 : (outL l).length = (outL (l.take i)).length + ((outL ((l.take k).drop i)).length + (outL (l.drop k)).length) := by
      conv => lhs; rw [e]
      rw [outL_append, outL_append, List.length_append, List.length_append]
    have h2 : tokL l = tokL (l.take i) + (tokL ((l.take k).drop i) + tokL (l.drop k)) := by
      conv => lhs; rw [e]
      rw [tokL_append, tokL_append]
    rcases rprint_cases ((l.take k).drop i) with ⟨y1, y2⟩ | ⟨y1, y2, y3⟩ | ⟨y1, y2, y3, y4⟩
    · rw [hpv] at y1; cases y1
    · omega
    · rw [y4]
theorem tok_one {x : Cm} (h : cmB x = true) : 3 ≤ tokL [x] ∧ tokL [x] ≤ 12 := by
  have e : tokL [x] = (lineI x.kind x.name.data.toList x.ns).length := by rw [line_tokens h]; rfl
  have ho := okC_of h
  rw [e]
  obtain ⟨k, nm, A, n, c, ns, p⟩ := x
  have hl := ho.len
  have hk := ho.kind
  dsimp only at hl hk ⊢
  rcases hk with rfl | rfl | rfl | rfl | rfl | rfl | rfl | rfl | rfl | rfl | rfl
  all_goals simp [lineI, wordsP, wds, itemsOf]
theorem one_law {x : Cm} (h : cmB x = true) : rprintL [x] = (outL [x], 0) ∧ ∃ ts, LEX (outL [x]) = ⟨ts, 0, 0⟩ ∧ 3 ≤ ts.length ∧ ts.length ≤ 12 := by
  have hall : ∀ y ∈ [x], cmB y = true := fun y hy => by rw [List.mem_singleton.1 hy]; exact h
  have hv : validB [x] = true := by unfold validB; rw [List.all_eq_true.2 hall]; rfl
  obtain ⟨t1, t2⟩ := tok_one h
  have hlen : (outL [x]).length ≤ 8000 := by have := outL_len [x] hall; simp only [List.length_cons, List.length_nil] at this; omega
  have hL := (lex_out hall).1 hlen (by omega)
  have ht : (tksAt 0 (itemsL [x])).length = tokL [x] := by rw [tksAt_len, items_tok _ hall]
  refine ⟨?_, _, hL, by rw [ht]; exact t1, by rw [ht]; exact t2⟩
  rcases rprint_cases [x] with ⟨y1, y2⟩ | ⟨y1, y2, y3⟩ | ⟨y1, y2, y3, y4⟩
  · rw [hv] at y1; cases y1
  · omega
  · exact y4
theorem size_cmd (w : World) : (sizeOf (Tryd.prog.elem 22)).run Tryd.prog w = .ok 4 w := by kernel_rfl
theorem elem_cmd : Tryd.prog.underlying 22 = some (.slice (Tryd.prog.elem 22)) := by kernel_rfl
def cutC (A : Option Addr) (c k : Nat) : Option Addr := if c = k then A else A.map (·.add (k * 4))
theorem cms_sl (A : Option Addr) (n c i k : Nat) (hik : i ≤ k) (hk : k ≤ c) (w : World) : (Instr.slice 22 (.slice A n c) (some (.int .i64 (i : Int))) (some (.int .i64 (k : Int))) none).run Tryd.prog w = .ok (.slice (cutC A c i) (k - i) (c - i)) w := by
  rw [run_slice_lh w 22 A n c elem_cmd .i64 .i64 _ _ (by omega) (by omega) (by omega), size_cmd]
  show Result.ok (sliced A (Int.toNat (i : Int)) (Int.toNat (k : Int)) c 4) w = _
  unfold sliced
  rw [Int.toNat_natCast, Int.toNat_natCast]
  rfl
theorem flat_takeC : ∀ (l : List Cm) (n : Nat), (l.flatMap decC).take (n * 4) = (l.take n).flatMap decC
  | [], n => by simp
  | a :: l, 0 => by simp
  | a :: l, n + 1 => by
    have hf : (decC a).length = 4 := rfl
    rw [List.flatMap_cons, List.take_succ_cons, List.flatMap_cons, Nat.add_mul, Nat.one_mul, List.take_append, hf]
    rw [List.take_of_length_le (by rw [hf]; omega), show n * 4 + 4 - 4 = n * 4 by omega, flat_takeC l n]
theorem flat_dropC : ∀ (l : List Cm) (n : Nat), (l.flatMap decC).drop (n * 4) = (l.drop n).flatMap decC
  | [], n => by simp
  | a :: l, 0 => by simp
  | a :: l, n + 1 => by
    have hf : (decC a).length = 4 := rfl
    rw [List.flatMap_cons, List.drop_succ_cons, Nat.add_mul, Nat.one_mul, List.drop_append, List.drop_of_length_le (by rw [hf]; omega), List.nil_append, hf, show n * 4 + 4 - 4 = n * 4 by omega, flat_dropC l n]
theorem cms_take {w : World} {A : Option Addr} {n c : Nat} {l : List Cm} (h : IsCms w A n c l) {k : Nat} (hk : k ≤ n) : IsCms w A k c (l.take k) := by
  obtain ⟨h1, h2, h3, h4, h5⟩ := h
  exact ⟨by rw [List.length_take]; omega, by rw [← flat_takeC]; exact h2.take hk, by omega, h4, fun x hx => h5 x (List.mem_of_mem_take hx)⟩
theorem cms_drop {w : World} {A : Option Addr} {n c : Nat} {l : List Cm} (h : IsCms w A n c l) {k : Nat} (hk : k ≤ n) : IsCms w (cutC A c k) (n - k) (c - k) (l.drop k) := by
  obtain ⟨h1, h2, h3, h4, h5⟩ := h
  exact ⟨by rw [List.length_drop]; omega, by rw [← flat_dropC]; exact h2.cut hk h3, by omega, by omega, fun x hx => h5 x (List.mem_of_mem_drop hx)⟩
set_option maxRecDepth 100000 in
set_option maxHeartbeats 2000000 in
theorem printerParts_walk (A : Option Addr) (n c : Nat) (l : List Cm) (x1 x2 : Int) (w : World) (h : IsCms w A n c l) (g1 : (Lit.int .u16 x1).wf = true) (g2 : (Lit.int .u16 x2).wf = true) (hv : VarP w) :
    Calls Tryd.prog 5 #[.slice A n c, .int .u16 x1, .int .u16 x2] w fun e w' => e = .returned (.bool true) ∧ Below w.heap.size w w' := by
  obtain ⟨p0, p1⟩ := bounds_u16 g1
  obtain ⟨q0, q1⟩ := bounds_u16 g2
  clear g1 g2
  have HH := Lib.hid (head_val w hv)
  have HV := Lib.hid hv
  have HI := Lib.hid h
  have HF := Lib.hid (fun W (hb : Below w.heap.size w W) => few_val A n c l W (h.up hb))
  have HVA := Lib.hid (fun W (hb : Below w.heap.size w W) => rvalid_val A n c l W (h.up hb))
  obtain ⟨fv, hfv⟩ : ∃ v, fewB l = v := ⟨_, rfl⟩
  obtain ⟨vv, hvv⟩ : ∃ v, validB l = v := ⟨_, rfl⟩
  rw [hfv] at HF
  rw [hvv] at HVA
  have hn := h.1
  have hnc := h.2.2.1
  have hcm := h.2.2.2.1
  unfold maxLen at hcm
  clear h hv
  cases fv with
  | false =>
    clear hfv hvv hn
    go_enter Tryd.func5, Tryd.ntmps5
    go_wp2_with fail
    refine HH.out.mono ?_
    rintro e1 w1 ⟨rfl, hb1⟩
    have HB1 := Lib.hid hb1
    clear hb1
    go_wp2_with fail
    refine (HF.out _ HB1.out).mono ?_
    rintro e2 w2 ⟨rfl, rfl⟩
    go_wp2_with fail
    go_ret
    exact ⟨rfl, HB1.out⟩
  | true =>
    cases vv with
    | false =>
      clear hfv hvv hn
      go_enter Tryd.func5, Tryd.ntmps5
      go_wp2_with fail
      refine HH.out.mono ?_
      rintro e1 w1 ⟨rfl, hb1⟩
      have HB1 := Lib.hid hb1
      clear hb1
      go_wp2_with fail
      refine (HF.out _ HB1.out).mono ?_
      rintro e2 w2 ⟨rfl, rfl⟩
      go_wp2_with fail
      refine (HVA.out _ HB1.out).mono ?_
      rintro e2 w2 ⟨rfl, hb2⟩
      have HB2 := Lib.hid (below_trans' HB1.out hb2)
      clear hb2
      go_wp2_with fail
      go_ret
      exact ⟨rfl, HB2.out⟩
    | true =>
      by_cases h0 : n = 0
      · subst h0
        clear hfv hvv hn hnc hcm
        go_enter Tryd.func5, Tryd.ntmps5
        go_wp2_with fail
        refine HH.out.mono ?_
        rintro e1 w1 ⟨rfl, hb1⟩
        have HB1 := Lib.hid hb1
        clear hb1
        go_wp2_with fail
        refine (HF.out _ HB1.out).mono ?_
        rintro e2 w2 ⟨rfl, rfl⟩
        go_wp2_with fail
        refine (HVA.out _ HB1.out).mono ?_
        rintro e2 w2 ⟨rfl, hb2⟩
        have HB2 := Lib.hid (below_trans' HB1.out hb2)
        clear hb2
        go_wp2_with fail
        go_ret
        exact ⟨rfl, HB2.out⟩
      · have hn3 : n ≤ 310 := by rw [← hn]; exact few_len hfv
        have h00 : ((n : Int) == 0) = false := by rw [beq_eq_false_iff_ne]; omega
        obtain ⟨i, hi⟩ : ∃ i : Nat, i = x1.toNat % n := ⟨_, rfl⟩
        have hin : i < n := by rw [hi]; exact Nat.mod_lt _ (by omega)
        have e1 : x1.tmod (n : Int) = (i : Int) := by rw [hi, Int.tmod_eq_emod_of_nonneg p0, Int.natCast_emod, Int.toNat_of_nonneg p0]
        obtain ⟨j, hj⟩ : ∃ j : Nat, j = x2.toNat % (n - i + 1) := ⟨_, rfl⟩
        have hjn : j < n - i + 1 := by rw [hj]; exact Nat.mod_lt _ (by omega)
        have e2 : x2.tmod ((n : Int) - (i : Int) + 1) = (j : Int) := by
          rw [show (n : Int) - (i : Int) + 1 = ((n - i + 1 : Nat) : Int) by omega, hj, Int.tmod_eq_emod_of_nonneg q0, Int.natCast_emod, Int.toNat_of_nonneg q0]
        have hn0 : ¬ (n : Int) = 0 := by omega
        have hm0 : ¬ (n : Int) - (i : Int) + 1 = 0 := by omega
        have s1 := cms_sl A n c i (i + j) (by omega) (by omega)
        have s2 := cms_sl A n c i (i + 1) (by omega) (by omega)
        rw [show ((i + j : Nat) : Int) = (i : Int) + (j : Int) by omega, show i + j - i = j by omega] at s1
        rw [show ((i + 1 : Nat) : Int) = (i : Int) + 1 by omega, show i + 1 - i = 1 by omega] at s2
        obtain ⟨x, hx⟩ : ∃ x, l[i]'(by omega) = x := ⟨_, rfl⟩
        have hxm : x ∈ l := by rw [← hx]; exact List.getElem_mem _
        have hcx := (valid_all hvv).2 x hxm
        have hone : (l.take (i + 1)).drop i = [x] := by
          rw [List.take_succ_eq_append_getElem (by omega), List.drop_append, List.drop_of_length_le (by rw [List.length_take]; omega), List.nil_append, List.length_take, Nat.min_eq_left (by omega), Nat.sub_self, hx]; rfl
        have HP1 := Lib.hid (fun W (hb : Below w.heap.size w W) => print_val A n c l W (HI.out.up hb) (HV.out.up hb))
        have HP2 := Lib.hid (fun W (hb : Below w.heap.size w W) => print_val _ _ _ _ W (cms_drop (cms_take (HI.out.up hb) (show i + j ≤ n by omega)) (show i ≤ i + j by omega)) (HV.out.up hb))
        have HP3 := Lib.hid (fun W (hb : Below w.heap.size w W) => print_val _ _ _ _ W (cms_drop (cms_take (HI.out.up hb) (show i + 1 ≤ n by omega)) (show i ≤ i + 1 by omega)) (HV.out.up hb))
        rw [hone] at HP3
        rw [print_law] at HP1 HP2 HP3
        rw [show i + j - i = j by omega] at HP2
        rw [show i + 1 - i = 1 by omega] at HP3
        have hpl := part_law hvv i (i + j) (by omega)
        obtain ⟨r1, ts, r2, r3, r4⟩ := one_law hcx
        rw [r1] at HP3
        obtain ⟨⟨ta, ea⟩, hra⟩ : ∃ q, rprintL l = q := ⟨_, rfl⟩
        obtain ⟨⟨tb, eb⟩, hrb⟩ : ∃ q, rprintL ((l.take (i + j)).drop i) = q := ⟨_, rfl⟩
        rw [hra] at HP1 hpl
        rw [hrb] at HP2 hpl
        dsimp only at HP1 HP2 HP3 hpl
        obtain ⟨T, hT⟩ : ∃ T : ByteArray, ⟨(outL [x]).toArray⟩ = T := ⟨_, rfl⟩
        have hTs : T.size ≤ maxLen := by
          rw [← hT]
          have := outL_len [x] (fun y hy => by rw [List.mem_singleton.1 hy]; exact hcx)
          show (outL [x]).length ≤ _
          simp only [List.length_cons, List.length_nil] at this
          unfold maxLen
          omega
        have HTl : T.data.toList = outL [x] := by rw [← hT]
        have HL := Lib.hid (rlex_val T hTs)
        rw [HTl, r2] at HL
        rw [hT] at HP3
        clear hra hrb r1 r2 hT hTs HTl hone hcx hxm hx hi hj hfv hvv
        go_enter Tryd.func5, Tryd.ntmps5
        go_wp2_with fail
        refine HH.out.mono ?_
        rintro e1 w1 ⟨rfl, hb1⟩
        have HB1 := Lib.hid hb1
        clear hb1
        go_wp2_with fail
        refine (HF.out _ HB1.out).mono ?_
        rintro e2 w2 ⟨rfl, rfl⟩
        go_wp2_with fail
        refine (HVA.out _ HB1.out).mono ?_
        rintro e2 w2 ⟨rfl, hb2⟩
        have HB2 := Lib.hid (below_trans' HB1.out hb2)
        clear hb2
        go_wp2_with fail
        refine (HP1.out _ HB2.out).mono ?_
        rintro e3 w3 ⟨rfl, hb3⟩
        have HB3 := Lib.hid (below_trans' HB2.out hb3)
        clear hb3
        go_wp2_with fail
        refine (HP2.out _ HB3.out).mono ?_
        rintro e4 w4 ⟨rfl, hb4⟩
        have HB4 := Lib.hid (below_trans' HB3.out hb4)
        clear hb4
        go_wp2_with fail
        refine (HP3.out _ HB4.out).mono ?_
        rintro e5 w5 ⟨rfl, hb5⟩
        have HB5 := Lib.hid (below_trans' HB4.out hb5)
        clear hb5
        go_wp2_with fail
        refine (HL.out _).mono ?_
        rintro e6 w6 ⟨A6, n6, c6, rfl, hT6, hb6⟩
        have HB6 := Lib.hid (below_trans' HB5.out hb6)
        have hn6 : ts.length = n6 := hT6.2.1
        subst hn6
        have f3 : (3 : Int) ≤ (ts.length : Int) := by omega
        have f4 : (ts.length : Int) ≤ 12 := by omega
        clear hb6 hT6
        rcases hpl with rfl | ⟨rfl, rfl⟩
        all_goals
          go_wp2_with fail
          go_ret
          exact ⟨rfl, HB6.out⟩
end Go.Proofs.YtmdogklgbifacaaDoor.Pr
