/- The walk of the law of chapter 17 on who is caught. -/
import Derived.Test.YteeloebhjmmpdaaMdLaws
namespace Go.Proofs.Yteeloebhjmmpdaa.Md
open Go.RowKit Go.Proofs.Yteeloebhjmmpdaa.Pl
set_option linter.unusedVariables false

/-- Those below m that i hears, by the law's own word. -/
def Hd (ra : List Ac) (ps : List Pt) (r : Int) (i m : Nat) : List Nat := (List.range m).filter (hkd ra ps r i)
theorem Hd_succ (ra : List Ac) (ps : List Pt) (r : Int) (i m : Nat) : Hd ra ps r i (m + 1) = Hd ra ps r i m ++ if hkd ra ps r i m then [m] else [] := by
  unfold Hd
  rw [List.range_succ, List.filter_append]
  by_cases h : hkd ra ps r i m <;> simp [h]
theorem Hd_eq {ra : List Ac} {i : Nat} (h : (ra.getD i z0).act = 1) (ps : List Pt) (r : Int) (m : Nat) : Hd ra ps r i m = Hm ra ps r i m := by
  unfold Hd Hm
  exact List.filter_congr fun k _ => hrd_of h _ _ _
theorem Hd_nil {ra : List Ac} {i : Nat} (h : (ra.getD i z0).act ≠ 1) (ps : List Pt) (r : Int) (m : Nat) : Hd ra ps r i m = [] := by
  unfold Hd
  exact List.filter_eq_nil_iff.2 fun k _ => by unfold hkd; rw [hrd_no h]; simp
theorem Hd_le (ra : List Ac) (ps : List Pt) (r : Int) (i m : Nat) : (Hd ra ps r i m).length ≤ m := by
  unfold Hd
  exact Nat.le_trans (List.length_filter_le _ _) (by simp)
def lastI (l : List Nat) : Int := match l.getLast? with | some k => (k : Int) | none => -1
theorem lastI_snoc (l : List Nat) (k : Nat) : lastI (l ++ [k]) = k := by simp [lastI]

set_option maxRecDepth 100000 in
set_option maxHeartbeats 4000000 in
theorem mediumCaught_walk (A : Option Addr) (n c : Nat) (ra : List Ac) (P : Option Addr) (m d : Nat) (ps : List Pt) (r : Int) (J : Option Addr) (k e : Nat) (js : List Jm) (asn : Int) (w : World)
    (g0 : IsActs w A n c ra) (g1 : IsPlaces w P m d ps) (g2 : (Lit.int .i64 r).wf = true) (g3 : IsJams w J k e js) (g4 : (Lit.int .i64 asn).wf = true) :
    Calls Try.prog 11 #[.slice A n c, .slice P m d, i64 r, .slice J k e, i64 asn] w fun e w' => e = .returned (.bool true) ∧ Below w.heap.size w w' := by
  have hn := small_of g0
  have hm := small_of g1
  have hk := small_of g3
  obtain ⟨hl, hR, _, _, _⟩ := g0
  obtain ⟨hl1, hP, _, _, _⟩ := g1
  obtain ⟨hl3, hJ, _, _, _⟩ := g3
  clear g2 g4
  have HL := Lib.hid hl; clear hl
  have HM := Lib.hid hl1; clear hl1
  have HJ := Lib.hid hl3; clear hl3
  cases hf : fewB n m k
  · have HF := Lib.hid hf; clear hf
    go_enter Try.func11, Try.ntmps11
    go_wp2_with fail
    refine (head_val _).mono ?_
    rintro e w1 ⟨rfl, hb1⟩
    go_wp2_with fail
    refine (few_val A P J n c m d k _ _ HF.out hn hm hk _).mono ?_
    rintro e w' ⟨rfl, rfl⟩
    go_wp2_with fail
    go_ret
    exact ⟨rfl, hb1⟩
  · have HF := Lib.hid hf; clear hf
    cases hok : okm ra ps r asn
    · have HO := Lib.hid hok; clear hok
      go_enter Try.func11, Try.ntmps11
      go_wp2_with fail
      refine (head_val _).mono ?_
      rintro e w1 ⟨rfl, hb1⟩
      go_wp2_with fail
      refine (few_val A P J n c m d k _ _ HF.out hn hm hk _).mono ?_
      rintro e w' ⟨rfl, rfl⟩
      go_wp2_with fail
      refine (mdCatch_bad A n c P m d w.heap.size J k _ ra ps r asn HO.out _ (hR.below hb1) (hP.below hb1) hb1.size HL.out HM.out hn hm).mono ?_
      rintro e w2 ⟨rfl, hb2⟩
      go_wp2_with fail
      go_ret
      exact ⟨rfl, below_trans' hb1 hb2⟩
    · obtain ⟨rfl, hn2⟩ : n = m ∧ n ≤ 200 := by
        have := hok
        rw [okm_frame, HL.out, HM.out] at this
        simp only [Bool.and_eq_true] at this
        exact ⟨(frame_true this.1).1, (frame_true this.1).2.1⟩
      have HO := Lib.hid hok; clear hok
      go_enter Try.func11, Try.ntmps11
      go_wp2_with fail
      refine (head_val _).mono ?_
      rintro e w1 ⟨rfl, hb1⟩
      go_wp2_with fail
      refine (few_val A P J n c n d k _ _ HF.out hn hm hk _).mono ?_
      rintro e w' ⟨rfl, rfl⟩
      go_wp2_with fail
      refine (mdCatch_good A n c P d w.heap.size J k _ ra ps r js asn HO.out _ (hR.below hb1) (hP.below hb1) (hJ.below hb1) hb1.size HL.out HM.out HJ.out hk).mono ?_
      rintro e w2 ⟨G, rfl, hG, hb2⟩
      have HG := Lib.hid hG; clear hG
      have hB2 := below_trans' hb1 hb2
      clear hb1 hb2
      go_wp2_with fail
      go_loopw [59] (fun i wr => ∃ j : Nat, j ≤ n ∧ i = .int .i64 j ∧ Below w2.heap.size w2 wr) (fun i _ => n - (intOf i).toNat)
      case atStart => exact ⟨0, Nat.zero_le _, rfl, Below.refl _ _⟩
      case round =>
        obtain ⟨i, hin, rfl, hb3⟩ := hrel
        obtain ⟨wo, hwo⟩ : ∃ wo, wo = wr := ⟨_, rfl⟩
        subst hwo
        by_cases hlt : i < n
        · have hB3 := below_trans' hB2 hb3
          have hil : i < ra.length := by have := HL.out; omega
          have hip : i < ps.length := by have := HM.out; omega
          obtain ⟨b, off, rfl, hb, hc2⟩ := rd_el (dec := decA) (fun _ => rfl) (hR.below hB3) HL.out hil
          obtain ⟨q, qo, rfl, hq, hc4⟩ := rd_el (dec := decP) (fun _ => rfl) (hP.below hB3) HM.out hip
          obtain ⟨z, hz⟩ : ∃ z, cat ra ps r js asn i = z := ⟨_, rfl⟩
          have hcell : wo.cell? ⟨G, i, none⟩ = some (i64 z) := by
            obtain ⟨b', off', u, e, _, hu, hc⟩ := (HG.out.up hb3).at_ hlt
            simp only [Option.some.injEq, Addr.mk.injEq, and_true] at e
            obtain ⟨rfl, rfl⟩ := e
            rw [List.getElem?_map, catl_get hil, hz] at hu
            rw [Nat.zero_add] at hc
            rw [hc]
            simpa using hu.symm
          have HZ := Lib.hid hz; clear hz
          have HC2 := Lib.hid hc2; clear hc2
          have HC4 := Lib.hid hc4; clear hc4
          go_wp2_with fail
          clear hcell
          go_loopw [16, 17, 18, 66] (fun many la kk cnt wr => ∃ j : Nat, j ≤ n ∧ many = .int .i64 (Hd ra ps r i j).length ∧ la = .int .i64 (lastI (Hd ra ps r i j)) ∧ cnt = .int .i64 j ∧ Below wo.heap.size wo wr) (fun _ _ _ cnt _ => n - (intOf cnt).toNat)
          case atStart => exact ⟨0, Nat.zero_le _, rfl, rfl, rfl, Below.refl _ _⟩
          case round =>
            obtain ⟨j, hjn, rfl, rfl, rfl, hb4⟩ := hrel
            have hB4 := below_trans' hB3 hb4
            by_cases hlt2 : j < n
            · obtain ⟨v, hv⟩ : ∃ v, hkd ra ps r i j = v := ⟨_, rfl⟩
              have LH := Lib.hid (fun c' d' => lawHeard_val (some ⟨b, off, none⟩) n c' (some ⟨q, qo, none⟩) d' w.heap.size ra ps r j i v hv hlt2 hlt wr (hR.below hB4) (hP.below hB4) hB4.size HL.out HM.out (by omega))
              have hsucc := Hd_succ ra ps r i j
              rw [hv] at hsucc
              have hle := Hd_le ra ps r i j
              clear hv
              cases v
              · have HS : Hid (Hd ra ps r i (j + 1) = Hd ra ps r i j) := by show _ = _; rw [hsucc]; simp
                clear hsucc
                go_wp2_with fail
                refine (LH.out _ _).mono ?_
                rintro e w5 ⟨rfl, hb5⟩
                go_wp2_with fail
                go_roundw
                case rel => exact ⟨j + 1, by omega, by rw [HS.out], by rw [HS.out], by go_num, below_trans' hb4 hb5⟩
                case measure => simp [intOf]; omega
              · have HS : Hid (Hd ra ps r i (j + 1) = Hd ra ps r i j ++ [j]) := by show _ = _; rw [hsucc]; simp
                clear hsucc
                generalize Hd ra ps r i j = L at HS hle ⊢
                generalize lastI L = la
                generalize hLn : L.length = ln at *
                have HLn := Lib.hid hLn; clear hLn
                go_wp2_with fail
                refine (LH.out _ _).mono ?_
                rintro e w5 ⟨rfl, hb5⟩
                go_wp2_with fail
                go_roundw
                case rel => exact ⟨j + 1, by omega, by rw [HS.out, List.length_append, HLn.out]; go_num, by rw [HS.out, lastI_snoc], by go_num, below_trans' hb4 hb5⟩
                case measure => simp [intOf]; omega
            · obtain rfl : j = n := by omega
              have hc2 := HC2.out
              have hc4 := HC4.out
              have hz := HZ.out
              unfold cat at hz
              rw [getD_of hil, getD_of hip, HL.out] at hz
              have hHd1 : ra[i].act = 1 → Hd ra ps r i j = Hm ra ps r i j := fun h => Hd_eq (by rw [getD_of hil]; exact h) _ _ _
              have hHd0 : ra[i].act ≠ 1 → Hd ra ps r i j = [] := fun h => Hd_nil (by rw [getD_of hil]; exact h) _ _ _
              obtain ⟨⟨lx, lc, ls, ll, lh⟩, el⟩ : ∃ a, ra[i] = a := ⟨_, rfl⟩
              obtain ⟨⟨ox, oy⟩, eo⟩ : ∃ a, ps[i] = a := ⟨_, rfl⟩
              rw [el] at hc2 hz hHd1 hHd0
              rw [eo] at hc4 hz
              dsimp only at hz hHd1 hHd0
              have hup : ∀ a b, Below wr.heap.size wr a → Below a.heap.size a b → Below wr.heap.size wr b := fun a b h k => below_trans' h k
              have f0 : ∀ s : WOf (Below wr.heap.size wr), s.w.cell? ⟨b, off + i * 5, none⟩ = some (i64 lx) := fun s => cup (cup (hc2 0 _ rfl) hb4) s.ok
              have f1 : ∀ s : WOf (Below wr.heap.size wr), s.w.cell? ⟨b, off + i * 5 + 1, none⟩ = some (i64 lc) := fun s => cup (cup (hc2 1 _ rfl) hb4) s.ok
              have f2 : ∀ s : WOf (Below wr.heap.size wr), s.w.cell? ⟨q, qo + i * 2, none⟩ = some (i64 ox) := fun s => cup (cup (hc4 0 _ rfl) hb4) s.ok
              have f3 : ∀ s : WOf (Below wr.heap.size wr), s.w.cell? ⟨q, qo + i * 2 + 1, none⟩ = some (i64 oy) := fun s => cup (cup (hc4 1 _ rfl) hb4) s.ok
              have h0 : ((([] : List Nat).length : Nat) : Int) = 0 := rfl
              have hl0 : lastI [] = -1 := rfl
              by_cases h1 : lx = 1
              · subst h1
                rw [if_pos rfl] at hz
                rw [hHd1 rfl]
                cases hjm : jammed js (ox, oy) lc asn
                · rw [hjm] at hz
                  have HZ2 : Hid (pick ra i (Hm ra ps r i j) = z) := Lib.hid (by simpa using hz)
                  have JV := Lib.hid (fun (s : WOf (Below wr.heap.size wr)) (c' : Nat) => jammed_val J k c' w.heap.size js ox oy lc asn false hjm s.w (hJ.below (below_trans' hB4 s.ok)) (below_trans' hB4 s.ok).size HJ.out hk)
                  have hmem : ∀ x, x ∈ Hm ra ps r i j → x < j := fun x hx => (mem_Hm.1 hx).1
                  clear hz hHd1 hHd0 hjm
                  generalize Hm ra ps r i j = L at HZ2 hmem ⊢
                  match L, HZ2, hmem with
                  | [], HZ2, _ =>
                    obtain rfl : z = -1 := by rw [← HZ2.out]; rfl
                    rw [h0, hl0]
                    clear h0 hl0
                    go_wp2_with fail
                    refine wp_region_ext (Below wr.heap.size wr) (Below.refl _ _) hup (by kernel_rfl) (by kernel_rfl) (fun hne => ?_)
                    try simp only [List.append_eq, List.cons_append, List.nil_append]
                    repeat (go_big_quiet_step (with_reducible exact calls_ext hup (JV.out _ _)))
                    refine wpQuiet_nil ?_
                    clear hne
                    intro wx hx'
                    obtain ⟨⟨_, hx⟩, hx''⟩ := hx'
                    subst hx''
                    have hup2 : ∀ a b, Below wx.heap.size wx a → Below a.heap.size a b → Below wx.heap.size wx b := fun a b h k => below_trans' h k
                    go_wp2_with fail
                    refine wp_region_ext (Below wx.heap.size wx) (Below.refl _ _) hup2 (by kernel_rfl) (by kernel_rfl) (fun hne => ?_)
                    try simp only [List.append_eq, List.cons_append, List.nil_append]
                    repeat (go_big_quiet_step (fail))
                    refine wpQuiet_nil ?_
                    clear hne
                    intro wy hx'
                    obtain ⟨⟨_, hy⟩, hx''⟩ := hx'
                    subst hx''
                    go_wp2_with fail
                    go_roundw
                    case rel => exact ⟨i + 1, by omega, by go_num, below_trans' (below_trans' (below_trans' hb3 hb4) hx) hy⟩
                    case measure => simp [intOf]; omega
                  | [x], HZ2, hmem =>
                    have hxn : x < j := hmem x (by simp)
                    have hxl : x < ra.length := by have := HL.out; omega
                    have hz2 : (if opn (ra.getD x z0) (ra.getD i z0) then (x : Int) else -1) = z := by rw [← HZ2.out]; rfl
                    rw [getD_of hxl, getD_of hil] at hz2
                    obtain ⟨b', off', e, _, hc1⟩ := rd_el (dec := decA) (fun _ => rfl) (hR.below hB4) HL.out hxl
                    simp only [Option.some.injEq, Addr.mk.injEq, and_true] at e
                    obtain ⟨rfl, rfl⟩ := e
                    obtain ⟨⟨sa, sc, ss, sl, sh⟩, es⟩ : ∃ a, ra[x] = a := ⟨_, rfl⟩
                    rw [es] at hc1 hz2
                    rw [el] at hz2
                    have e1 : ((([x] : List Nat).length : Nat) : Int) = 1 := rfl
                    have e2 : lastI [x] = (x : Nat) := rfl
                    have hd2 : wr.cell? ⟨b, off + x * 5 + 2, none⟩ = some (i64 ss) := hc1 2 _ rfl
                    have hd3 : wr.cell? ⟨b, off + i * 5 + 3, none⟩ = some (i64 ll) := cup (hc2 3 _ rfl) hb4
                    have hd4 : wr.cell? ⟨b, off + i * 5 + 3 + 1, none⟩ = some (i64 lh) := cup (hc2 4 _ rfl) hb4
                    have D2 := Lib.hid hd2; clear hd2
                    have D3 := Lib.hid hd3; clear hd3
                    have D4 := Lib.hid hd4; clear hd4
                    rw [e1, e2]
                    have hx0 : (0 : Int) ≤ (x : Int) := Int.natCast_nonneg x
                    clear h0 hl0 e1 e2 hc1 es HZ2 hmem
                    have hcase : (z = -1 ∧ decide (ll ≤ ss) = false) ∨ (z = -1 ∧ ll ≤ ss ∧ decide (ss ≤ lh) = false) ∨ (z = (x : Nat) ∧ ll ≤ ss ∧ ss ≤ lh) := by
                      unfold opn at hz2
                      dsimp only at hz2
                      by_cases t1 : ll ≤ ss
                      · by_cases t2 : ss ≤ lh
                        · exact .inr (.inr ⟨by rw [← hz2]; simp [t1, t2], t1, t2⟩)
                        · exact .inr (.inl ⟨by rw [← hz2]; simp [t2], t1, by simpa using t2⟩)
                      · exact .inl ⟨by rw [← hz2]; simp [t1], by simpa using t1⟩
                    clear hz2 el eo
                    rcases hcase with ⟨rfl, t1⟩ | ⟨rfl, t1, t2⟩ | ⟨rfl, t1, t2⟩
                    all_goals
                      go_wp2_with fail
                      refine wp_region_ext (Below wr.heap.size wr) (Below.refl _ _) hup (by kernel_rfl) (by kernel_rfl) (fun hne => ?_)
                      try simp only [List.append_eq, List.cons_append, List.nil_append]
                      repeat (go_big_quiet_step (with_reducible exact calls_ext hup (JV.out _ _)))
                      refine wpQuiet_nil ?_
                      clear hne
                      intro wx hx'
                      obtain ⟨⟨_, hx⟩, hx''⟩ := hx'
                      subst hx''
                      have hup2 : ∀ a b, Below wx.heap.size wx a → Below a.heap.size a b → Below wx.heap.size wx b := fun a b h k => below_trans' h k
                      have f5 : ∀ s : WOf (Below wx.heap.size wx), s.w.cell? ⟨b, off + x * 5 + 2, none⟩ = some (i64 ss) := fun s => cup (cup D2.out hx) s.ok
                      have f6 : ∀ s : WOf (Below wx.heap.size wx), s.w.cell? ⟨b, off + i * 5 + 3, none⟩ = some (i64 ll) := fun s => cup (cup D3.out hx) s.ok
                      have f7 : ∀ s : WOf (Below wx.heap.size wx), s.w.cell? ⟨b, off + i * 5 + 3 + 1, none⟩ = some (i64 lh) := fun s => cup (cup D4.out hx) s.ok
                      clear f0 f1 f2 f3 JV
                      go_wp2_with fail
                      refine wp_region_ext (Below wx.heap.size wx) (Below.refl _ _) hup2 (by kernel_rfl) (by kernel_rfl) (fun hne => ?_)
                      try simp only [List.append_eq, List.cons_append, List.nil_append]
                      repeat (go_big_quiet_step (fail))
                      refine wpQuiet_nil ?_
                      clear hne
                      intro wy hx'
                      obtain ⟨⟨_, hy⟩, hx''⟩ := hx'
                      subst hx''
                      go_wp2_with fail
                      go_roundw
                      case rel => exact ⟨i + 1, by omega, by go_num, below_trans' (below_trans' (below_trans' hb3 hb4) hx) hy⟩
                      case measure => simp [intOf]; omega
                  | x :: y :: t, HZ2, hmem =>
                    obtain rfl : z = -2 := by rw [← HZ2.out]; rfl
                    have hlen : 2 ≤ (x :: y :: t).length := by simp
                    generalize (x :: y :: t).length = ln at hlen ⊢
                    generalize lastI (x :: y :: t) = la
                    clear h0 hl0 HZ2 hmem
                    go_wp2_with fail
                    refine wp_region_ext (Below wr.heap.size wr) (Below.refl _ _) hup (by kernel_rfl) (by kernel_rfl) (fun hne => ?_)
                    try simp only [List.append_eq, List.cons_append, List.nil_append]
                    repeat (go_big_quiet_step (with_reducible exact calls_ext hup (JV.out _ _)))
                    refine wpQuiet_nil ?_
                    clear hne
                    intro wx hx'
                    obtain ⟨⟨_, hx⟩, hx''⟩ := hx'
                    subst hx''
                    go_wp2_with fail
                    go_roundw
                    case rel => exact ⟨i + 1, by omega, by go_num, below_trans' (below_trans' hb3 hb4) hx⟩
                    case measure => simp [intOf]; omega
                · rw [hjm] at hz
                  obtain rfl : z = -2 := by simpa using hz.symm
                  have JV := Lib.hid (fun (s : WOf (Below wr.heap.size wr)) (c' : Nat) => jammed_val J k c' w.heap.size js ox oy lc asn true hjm s.w (hJ.below (below_trans' hB4 s.ok)) (below_trans' hB4 s.ok).size HJ.out hk)
                  generalize ((Hm ra ps r i j).length : Int) = ln
                  generalize lastI (Hm ra ps r i j) = la
                  clear hz hHd1 hHd0 hjm h0 hl0
                  go_wp2_with fail
                  refine wp_region_ext (Below wr.heap.size wr) (Below.refl _ _) hup (by kernel_rfl) (by kernel_rfl) (fun hne => ?_)
                  try simp only [List.append_eq, List.cons_append, List.nil_append]
                  repeat (go_big_quiet_step (with_reducible exact calls_ext hup (JV.out _ _)))
                  refine wpQuiet_nil ?_
                  clear hne
                  intro wx hx'
                  obtain ⟨⟨_, hx⟩, hx''⟩ := hx'
                  subst hx''
                  go_wp2_with fail
                  go_roundw
                  case rel => exact ⟨i + 1, by omega, by go_num, below_trans' (below_trans' hb3 hb4) hx⟩
                  case measure => simp [intOf]; omega
              · obtain rfl : z = -1 := by rw [← hz, if_neg h1]
                have k1 : (lx == 1) = false := by rw [beq_eq_false_iff_ne]; exact h1
                rw [hHd0 h1, h0, hl0]
                clear h0 hl0 hz hHd0 hHd1 h1
                go_wp2_with fail
                refine wp_region_ext (Below wr.heap.size wr) (Below.refl _ _) hup (by kernel_rfl) (by kernel_rfl) (fun hne => ?_)
                try simp only [List.append_eq, List.cons_append, List.nil_append]
                repeat (go_big_quiet_step (fail))
                refine wpQuiet_nil ?_
                clear hne
                intro wx hx'
                obtain ⟨⟨_, hx⟩, hx''⟩ := hx'
                subst hx''
                have hup2 : ∀ a b, Below wx.heap.size wx a → Below a.heap.size a b → Below wx.heap.size wx b := fun a b h k => below_trans' h k
                go_wp2_with fail
                refine wp_region_ext (Below wx.heap.size wx) (Below.refl _ _) hup2 (by kernel_rfl) (by kernel_rfl) (fun hne => ?_)
                try simp only [List.append_eq, List.cons_append, List.nil_append]
                repeat (go_big_quiet_step (fail))
                refine wpQuiet_nil ?_
                clear hne
                intro wy hx'
                obtain ⟨⟨_, hy⟩, hx''⟩ := hx'
                subst hx''
                go_wp2_with fail
                go_roundw
                case rel => exact ⟨i + 1, by omega, by go_num, below_trans' (below_trans' (below_trans' hb3 hb4) hx) hy⟩
                case measure => simp [intOf]; omega
        · go_wp2_with fail
          go_ret
          exact ⟨rfl, below_trans' hB2 hb3⟩
end Go.Proofs.Yteeloebhjmmpdaa.Md
