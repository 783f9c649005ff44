/- The law PrinterJoins. -/
import Derived.Test.YtmdogklgbifacaaDoorPrC
import Derived.Test.YtmdogklgbifacaaDoorPrA
namespace Go.Proofs.YtmdogklgbifacaaDoor.Pr
open Go.RowKit Go.Proofs.YtmdogklgbifacaaDoor.Lx
set_option linter.unusedVariables false

theorem outL_append (a b : List Cm) : outL (a ++ b) = outL a ++ outL b := by unfold outL; rw [List.flatMap_append]
theorem few_len {l : List Cm} (h : fewB l = true) : l.length ≤ 310 := by
  unfold fewB at h
  simp only [Bool.and_eq_true, decide_eq_true_eq] at h
  exact h.1
theorem rprint_cases (l : List Cm) : (validB l = false ∧ rprintL l = ([], 1)) ∨ (validB l = true ∧ (8000 < (outL l).length ∨ 2000 < tokL l) ∧ rprintL l = ([], 2)) ∨ (validB l = true ∧ (outL l).length ≤ 8000 ∧ tokL l ≤ 2000 ∧ rprintL l = (outL l, 0)) := by
  unfold rprintL
  cases hv : validB l with
  | false => exact .inl ⟨rfl, if_pos rfl⟩
  | true =>
    by_cases hx : 8000 < (outL l).length ∨ 2000 < tokL l
    · exact .inr (.inl ⟨rfl, hx, by rw [if_neg (by decide), if_pos hx]⟩)
    · exact .inr (.inr ⟨rfl, by omega, by omega, by rw [if_neg (by decide), if_neg hx]⟩)
theorem valid_append (a b : List Cm) : validB (a ++ b) = (decide (a.length + b.length ≤ 300) && (a.all cmB && b.all cmB)) := by
  unfold validB; rw [List.length_append, List.all_append]
theorem join_law (a b : List Cm) : (((rprintL a).2 ≠ 0 ∨ (rprintL b).2 ≠ 0) → (rprintL (a ++ b)).2 ≠ 0) ∧
    ((rprintL a).2 = 0 → (rprintL b).2 = 0 → ((rprintL (a ++ b)).2 ≠ 0 → ((rprintL (a ++ b)).2 = 1 ∧ 300 < a.length + b.length) ∨ (rprintL (a ++ b)).2 = 2) ∧ ((rprintL (a ++ b)).2 = 0 → (rprintL (a ++ b)).1 = (rprintL a).1 ++ (rprintL b).1)) := by
  have hl : (outL (a ++ b)).length = (outL a).length + (outL b).length := by rw [outL_append, List.length_append]
  have ht := tokL_append a b
  have hv := valid_append a b
  have va : validB a = (decide (a.length ≤ 300) && a.all cmB) := rfl
  have vb : validB b = (decide (b.length ≤ 300) && b.all cmB) := rfl
  rcases rprint_cases (a ++ b) with ⟨u1, u2⟩ | ⟨u1, u2, u3⟩ | ⟨u1, u2, u3, u4⟩
  · rw [u2]
    refine ⟨fun _ => by decide, fun ha hb => ⟨fun _ => .inl ⟨rfl, ?_⟩, fun h => absurd h (by decide)⟩⟩
    rcases rprint_cases a with ⟨a1, a2⟩ | ⟨a1, a2, a3⟩ | ⟨a1, a2, a3, a4⟩
    · rw [a2] at ha; exact absurd ha (by decide)
    · rw [a3] at ha; exact absurd ha (by decide)
    · rcases rprint_cases b with ⟨b1, b2⟩ | ⟨b1, b2, b3⟩ | ⟨b1, b2, b3, b4⟩
      · rw [b2] at hb; exact absurd hb (by decide)
      · rw [b3] at hb; exact absurd hb (by decide)
      · rw [a1] at va; rw [b1] at vb; rw [u1] at hv
        have h1 := (Bool.and_eq_true _ _ ▸ va.symm)
        have h2 := (Bool.and_eq_true _ _ ▸ vb.symm)
        rw [h1.2, h2.2, Bool.and_true, Bool.and_true] at hv
        have := of_decide_eq_false hv.symm
        omega
  · rw [u3]
    exact ⟨fun _ => by decide, fun _ _ => ⟨fun _ => .inr rfl, fun h => absurd h (by decide)⟩⟩
  · rw [u1] at hv
    have h0 := (Bool.and_eq_true _ _ ▸ hv.symm)
    have h00 := of_decide_eq_true h0.1
    have h01 := (Bool.and_eq_true _ _ ▸ h0.2)
    have a1 : validB a = true := by rw [va, h01.1, decide_eq_true (by omega)]; rfl
    have b1 : validB b = true := by rw [vb, h01.2, decide_eq_true (by omega)]; rfl
    have ea : rprintL a = (outL a, 0) := by
      rcases rprint_cases a with ⟨x1, x2⟩ | ⟨x1, x2, x3⟩ | ⟨x1, x2, x3, x4⟩
      · rw [a1] at x1; cases x1
      · omega
      · exact x4
    have eb : rprintL b = (outL b, 0) := by
      rcases rprint_cases b with ⟨x1, x2⟩ | ⟨x1, x2, x3⟩ | ⟨x1, x2, x3, x4⟩
      · rw [b1] at x1; cases x1
      · omega
      · exact x4
    rw [ea, eb, u4]
    exact ⟨fun h => by rcases h with h | h <;> exact absurd rfl h, fun _ _ => ⟨fun h => absurd rfl h, fun _ => outL_append a b⟩⟩
theorem info_cmd : (Tryd.prog.info? 46).map (fun i => (i.zero, i.size, i.bytes)) = some (some (.agg #[.int .i64 0, .string ⟨#[]⟩, .slice none 0 0, .int .i64 0]), 4, 56) := by kernel_rfl
theorem cms_own {w : World} {base n c : Nat} {A : Option Addr} {l : List Cm} (h : w.ownsRow base 46 4 (.slice A n c) n (l.flatMap decC)) (hl : l.length = n) (hg : ∀ x ∈ l, Cm.In w x) : IsCms w A n c l := by
  refine ⟨hl, Rd.of_own h, ?_, ?_, hg⟩
  · rcases h.2 with ⟨h1, rfl⟩ | ⟨g, cap, cur, h1, _, _, h2, _⟩
    · omega
    · injection h1 with _ _ h1; omega
  · rcases h.2 with ⟨h1, rfl⟩ | ⟨g, cap, cur, h1, _, _, _, h2, _⟩
    · injection h1 with _ _ h1; unfold maxLen; omega
    · injection h1 with _ _ h1; omega
theorem own_zero (w : World) (t : TypeId) (size : Nat) : (w.alloc (.cells #[] t)).ownsRow w.heap.size t size (.slice (some ⟨w.heap.size, 0, none⟩) 0 0) 0 [] :=
  ⟨by simp, .inr ⟨w.heap.size, 0, #[], rfl, Nat.le_refl _, heap_alloc_new w _, Nat.le_refl _, by decide, by simp, by simp⟩⟩
set_option maxRecDepth 100000 in
set_option maxHeartbeats 2000000 in
theorem printerJoins_walk (A : Option Addr) (n c : Nat) (a : List Cm) (B : Option Addr) (m d : Nat) (b : List Cm) (w : World) (ha : IsCms w A n c a) (hb : IsCms w B m d b) (hv : VarP w) :
    Calls Tryd.prog 4 #[.slice A n c, .slice B m d] w fun e w' => e = .returned (.bool true) ∧ Below w.heap.size w w' := by
  have HH := Lib.hid (head_val w hv)
  have HV := Lib.hid hv
  have HIa := Lib.hid ha
  have HIb := Lib.hid hb
  have HFA := Lib.hid (fun W (h : Below w.heap.size w W) => few_val A n c a W (ha.up h))
  have HFB := Lib.hid (fun W (h : Below w.heap.size w W) => few_val B m d b W (hb.up h))
  obtain ⟨fa, hfa⟩ : ∃ v, fewB a = v := ⟨_, rfl⟩
  obtain ⟨fb, hfb⟩ : ∃ v, fewB b = v := ⟨_, rfl⟩
  rw [hfa] at HFA
  rw [hfb] at HFB
  have hna := ha.1
  have hnb := hb.1
  clear ha hb hv
  cases fa with
  | false =>
    clear hfa hfb hna hnb
    go_enter Tryd.func4, Tryd.ntmps4
    go_wp2_with fail
    refine HH.out.mono ?_
    rintro e1 w1 ⟨rfl, hb1⟩
    have HB1 := Lib.hid hb1
    clear hb1
    go_wp2_with fail
    refine (HFA.out _ HB1.out).mono ?_
    rintro e2 w2 ⟨rfl, rfl⟩
    go_wp2_with fail
    go_ret
    exact ⟨rfl, HB1.out⟩
  | true =>
    cases fb with
    | false =>
      clear hfa hfb hna hnb
      go_enter Tryd.func4, Tryd.ntmps4
      go_wp2_with fail
      refine HH.out.mono ?_
      rintro e1 w1 ⟨rfl, hb1⟩
      have HB1 := Lib.hid hb1
      clear hb1
      go_wp2_with fail
      refine (HFA.out _ HB1.out).mono ?_
      rintro e2 w2 ⟨rfl, rfl⟩
      go_wp2_with fail
      refine (HFB.out _ HB1.out).mono ?_
      rintro e3 w3 ⟨rfl, rfl⟩
      go_wp2_with fail
      go_ret
      exact ⟨rfl, HB1.out⟩
    | true =>
      have hn3 : n ≤ 310 := by rw [← hna]; exact few_len hfa
      have hm3 : m ≤ 310 := by rw [← hnb]; exact few_len hfb
      have HPA := Lib.hid (fun W (h : Below w.heap.size w W) => print_val A n c a W (HIa.out.up h) (HV.out.up h))
      have HPB := Lib.hid (fun W (h : Below w.heap.size w W) => print_val B m d b W (HIb.out.up h) (HV.out.up h))
      have HPU := Lib.hid (fun W (h : Below w.heap.size w W) A' c' (hi : IsCms W A' (n + m) c' (a ++ b)) => print_val A' (n + m) c' (a ++ b) W hi (HV.out.up h))
      rw [print_law] at HPA HPB HPU
      obtain ⟨j1, j2⟩ := join_law a b
      have hlen : (rprintL a).1.length ≤ 8000 := by rcases rprint_cases a with ⟨_, h⟩ | ⟨_, _, h⟩ | ⟨_, h1, _, h⟩ <;> rw [h] <;> first | exact Nat.zero_le _ | exact h1
      have hlen2 : (rprintL b).1.length ≤ 8000 := by rcases rprint_cases b with ⟨_, h⟩ | ⟨_, _, h⟩ | ⟨_, h1, _, h⟩ <;> rw [h] <;> first | exact Nat.zero_le _ | exact h1
      obtain ⟨⟨ta, ea⟩, hra⟩ : ∃ q, rprintL a = q := ⟨_, rfl⟩
      obtain ⟨⟨tb, eb⟩, hrb⟩ : ∃ q, rprintL b = q := ⟨_, rfl⟩
      obtain ⟨⟨tu, eu⟩, hru⟩ : ∃ q, rprintL (a ++ b) = q := ⟨_, rfl⟩
      rw [hra] at HPA j1 j2 hlen
      rw [hrb] at HPB j1 j2 hlen2
      rw [hru] at HPU j1 j2
      dsimp only at HPA HPB HPU j1 j2 hlen hlen2
      obtain ⟨SA, hSA⟩ : ∃ T : ByteArray, ⟨ta.toArray⟩ = T := ⟨_, rfl⟩
      obtain ⟨SB, hSB⟩ : ∃ T : ByteArray, ⟨tb.toArray⟩ = T := ⟨_, rfl⟩
      obtain ⟨SU, hSU⟩ : ∃ T : ByteArray, ⟨tu.toArray⟩ = T := ⟨_, rfl⟩
      rw [hSA] at HPA
      rw [hSB] at HPB
      rw [hSU] at HPU
      have hsa : SA.size ≤ 8000 := by rw [← hSA]; exact hlen
      have hsb : SB.size ≤ 8000 := by rw [← hSB]; exact hlen2
      have HJ1 := Lib.hid j1
      have HJ2 := Lib.hid j2
      have HSU : Hid (tu = ta ++ tb → SU = SA ++ SB) := Lib.hid (by
        intro e
        rw [← hSU, ← hSA, ← hSB, e]
        refine ByteArray.ext (Array.ext' ?_)
        rw [Joins.data_append])
      have HNA := Lib.hid hna
      have HNB := Lib.hid hnb
      clear hra hrb hru hSA hSB hSU j1 j2 hlen hlen2 hfa hfb hna hnb
      obtain ⟨i0, hi, hz0, hz1, hz2⟩ := info_parts info_cmd
      go_enter Tryd.func4, Tryd.ntmps4
      go_wp2_with fail
      refine HH.out.mono ?_
      rintro e1 w1 ⟨rfl, hb1⟩
      have HB1 := Lib.hid hb1
      clear hb1
      go_wp2_with fail
      refine (HFA.out _ HB1.out).mono ?_
      rintro e2 w2 ⟨rfl, rfl⟩
      go_wp2_with fail
      refine (HFB.out _ HB1.out).mono ?_
      rintro e3 w3 ⟨rfl, rfl⟩
      go_wp2_with fail
      refine (HPA.out _ HB1.out).mono ?_
      rintro e3 w3 ⟨rfl, hb3⟩
      have HB3 := Lib.hid (below_trans' HB1.out hb3)
      clear hb3
      go_wp2_with fail
      refine (HPB.out _ HB3.out).mono ?_
      rintro e4 w4 ⟨rfl, hb4⟩
      have HB4 := Lib.hid (below_trans' HB3.out hb4)
      clear hb4
      have HO := Lib.hid (own_zero w4 46 4)
      have HBa := Lib.hid ((Below.refl w4.heap.size w4).alloc (Nat.le_refl _) (.cells #[] 46))
      have HOb : Hid (w4.heap.size ≤ (w4.alloc (.cells #[] 46)).heap.size) := Lib.hid HBa.out.size
      have HRa := Lib.hid ((HIa.out.up HB4.out).2.1.below HBa.out)
      have HRb := Lib.hid (HIb.out.up HB4.out).2.1
      have HOa := Lib.hid (one_flat one_decC a)
      have HObb := Lib.hid (one_flat one_decC b)
      go_wp2_with first | (at_builtin; refine wpList_append_rd _ rfl (.tmp 33) (.tmp 34) _ rfl w4.heap.size 46 i0 _ 4 56 Tryd.underlying22 hi hz0 hz1 hz2 rfl (by decide) _ 0 _ rfl HO.out _ A n c _ rfl HRa.out HOa.out (by simp only [maxLen]; omega) (by omega) HOb.out ?_; intro Aw5 cw5 w5 hown hfm hg; have HO5 : Hid (w5.ownsRow w4.heap.size 46 4 (.slice Aw5 n cw5) n (a.flatMap decC)) := Lib.hid (by rw [Nat.zero_add, List.nil_append] at hown; exact hown); have HB5 := Lib.hid (own_below HO.out hg HBa.out (Nat.le_refl _) HBa.out.size); have HO5b : Hid (w4.heap.size ≤ w5.heap.size) := Lib.hid HB5.out.size; have HRb5 := Lib.hid (HRb.out.below HB5.out); clear hown hfm hg) | (at_builtin; refine wpList_append_rd _ rfl (.tmp 35) (.tmp 36) _ rfl w4.heap.size 46 i0 _ 4 56 Tryd.underlying22 hi hz0 hz1 hz2 rfl (by decide) _ n _ rfl HO5.out _ B m d _ rfl HRb5.out HObb.out (by simp only [maxLen]; omega) (by omega) HO5b.out ?_; intro Aw6 cw6 w6 hown hfm hg; have HO6 := Lib.hid hown; have HB6 := Lib.hid (own_below HO5.out hg HB5.out (Nat.le_refl _) HB5.out.size); clear hown hfm hg)
      have HB7 := Lib.hid (below_trans' HB4.out HB6.out)
      have hcms : IsCms w6 Aw6 (n + m) cw6 (a ++ b) := by
        refine cms_own (base := w4.heap.size) (by rw [List.flatMap_append]; exact HO6.out) (by rw [List.length_append, HNA.out, HNB.out]) (fun x hx => ?_)
        rcases List.mem_append.1 hx with hx | hx
        · exact (HIa.out.up HB7.out).2.2.2.2 x hx
        · exact (HIb.out.up HB7.out).2.2.2.2 x hx
      refine (HPU.out w6 HB7.out Aw6 cw6 hcms).mono ?_
      rintro e5 w7 ⟨rfl, hb7⟩
      have HB8 := Lib.hid (below_trans' HB7.out hb7)
      clear hb7 hcms
      by_cases hea : ea = 0
      · by_cases heb : eb = 0
        · subst hea heb
          by_cases heu : eu = 0
          · subst heu
            have HE := Lib.hid (HSU.out ((HJ2.out rfl rfl).2 rfl))
            have hxx : (SU.toList == (SA ++ SB).toList) = true := by rw [HE.out]; simp
            have hsz : SA.size + SB.size ≤ 16000 := by omega
            go_wp2_with fail
            go_ret
            exact ⟨by rw [HE.out]; simp, HB8.out⟩
          · have f1 : ((eu : Int) != 0) = true := by rw [bne_iff_ne]; omega
            rcases (HJ2.out rfl rfl).1 heu with ⟨h1, h2⟩ | h1
            · subst h1
              rw [HNA.out, HNB.out] at h2
              have f2 : (300 : Int) < (n : Int) + (m : Int) := by omega
              clear f1 heu
              go_wp2_with fail
              go_ret
              exact ⟨rfl, HB8.out⟩
            · subst h1
              clear f1 heu
              by_cases f2 : (300 : Int) < (n : Int) + (m : Int)
              all_goals
                go_wp2_with fail
                go_ret
                exact ⟨rfl, HB8.out⟩
        · subst hea
          have f1 : ((eb : Int) != 0) = true := by rw [bne_iff_ne]; omega
          have f2 : ((eu : Int) != 0) = true := by rw [bne_iff_ne]; have := HJ1.out (.inr heb); omega
          go_wp2_with fail
          go_ret
          exact ⟨rfl, HB8.out⟩
      · have f1 : ((ea : Int) != 0) = true := by rw [bne_iff_ne]; omega
        have f2 : ((eu : Int) != 0) = true := by rw [bne_iff_ne]; have := HJ1.out (.inl hea); omega
        go_wp2_with fail
        go_ret
        exact ⟨rfl, HB8.out⟩
end Go.Proofs.YtmdogklgbifacaaDoor.Pr
