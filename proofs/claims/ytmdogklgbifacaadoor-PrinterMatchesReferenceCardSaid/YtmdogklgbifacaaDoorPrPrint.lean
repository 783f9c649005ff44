/- printer.Print. -/
import Derived.Test.YtmdogklgbifacaaDoorPrWr
import Derived.Test.YtmdogklgbifacaaDoorLxOk
namespace Go.Proofs.YtmdogklgbifacaaDoor.Pr
open Go.RowKit Go.Proofs.YtmdogklgbifacaaDoor.Lx
set_option linter.unusedVariables false

/-- What the program prints. -/
def printL (l : List Cm) : List UInt8 × Nat :=
  if validB l = false then ([], 1) else if (LEX (outL l)).err ≠ 0 then ([], 2) else (outL l, 0)
theorem bld_fresh {w0 w : World} (h : w0.heap.size ≤ w.heap.size) : Bld w0.heap.size w.heap.size (Lib.byteCells []) (w.alloc (.cells #[.pointer none, .slice none 0 0] TT)) :=
  .inl ⟨h, .slice none 0 0, heap_alloc_new w _, ⟨rfl, .inl ⟨rfl, rfl⟩⟩, by simp [Value.ownBlock]⟩
theorem outL_len : ∀ (l : List Cm), (∀ x ∈ l, cmB x = true) → (outL l).length ≤ l.length * 1042
  | [], _ => Nat.le_refl _
  | x :: l, h => by
    have h1 := outL_len l (fun y hy => h y (List.mem_cons_of_mem _ hy))
    have h2 := lnC_len (h x (List.mem_cons_self ..))
    have e : outL (x :: l) = (lnC x ++ [10]) ++ outL l := by unfold outL; rw [List.flatMap_cons]
    rw [e, List.length_append, List.length_append]
    simp only [List.length_cons, List.length_nil]
    omega
set_option maxRecDepth 100000 in
set_option maxHeartbeats 4000000 in
theorem print_val (A : Option Addr) (n c : Nat) (l : List Cm) (w : World) (h : IsCms w A n c l) (hv : VarP w) :
    Calls Tryd.prog 12 #[.slice A n c] w fun e w' => e = .returned (.tuple #[.string ⟨(printL l).1.toArray⟩, i64 ((printL l).2 : Nat)]) ∧ Below w.heap.size w w' := by
  have hnm : n ≤ 9223372036854775807 := Nat.le_trans h.2.2.1 (Nat.le_trans h.2.2.2.1 (by decide))
  have HI := Lib.hid h
  have HN := Lib.hid h.1
  have HVP := Lib.hid hv
  have HV := Lib.hid (valid_val A n c l w h)
  obtain ⟨v, hv⟩ : ∃ v, validB l = v := ⟨_, rfl⟩
  rw [hv] at HV
  clear h
  cases v with
  | false =>
    have HR : Hid (printL l = ([], 1)) := Lib.hid (by unfold printL; rw [if_pos hv])
    clear hv
    go_enter Tryd.func12, Tryd.ntmps12
    go_wp2_with fail
    refine HV.out.mono ?_
    rintro e w1 ⟨rfl, hb1⟩
    have HB1 := Lib.hid hb1
    clear hb1
    go_wp2_with fail
    go_ret2
    rw [HR.out]
    exact ⟨rfl, HB1.out⟩
  | true =>
    have hv2 := hv
    unfold validB at hv2
    simp only [Bool.and_eq_true, decide_eq_true_eq] at hv2
    have HA := Lib.hid (List.all_eq_true.1 hv2.2)
    have hn3 : n ≤ 300 := by rw [← HN.out]; exact hv2.1
    have HR : Hid (printL l = if (LEX (outL l)).err ≠ 0 then ([], 2) else (outL l, 0)) := Lib.hid (by unfold printL; rw [if_neg (by rw [hv]; decide)])
    clear hv hv2 hnm
    go_enter Tryd.func12, Tryd.ntmps12
    go_wp2_with fail
    refine HV.out.mono ?_
    rintro e w1 ⟨rfl, hb1⟩
    have HB1 := Lib.hid hb1
    have hs1 := hb1.size
    clear hb1
    go_wp2_with fail
    have hbl : Below w.heap.size w (w1.alloc (.cells #[.pointer none, .slice none 0 0] TT)) := HB1.out.alloc hs1 _
    have hbd := bld_fresh (w0 := w) (w := w1) hs1
    have hcell : (w1.alloc (.cells #[.pointer none, .slice none 0 0] TT)).heap[w1.heap.size]? = some (.cells #[.pointer none, .slice none 0 0] TT (0, 0)) := heap_alloc_new w1 _
    obtain ⟨W0, hW0⟩ : ∃ W0, w1.alloc (.cells #[.pointer none, .slice none 0 0] TT) = W0 := ⟨_, rfl⟩
    rw [hW0] at hbl hbd hcell ⊢
    have HBL := Lib.hid hbl
    have HBD := Lib.hid hbd
    have HCE := Lib.hid hcell
    clear hW0 hbl hbd hcell hs1
    go_loopw [15] (fun i wr => ∃ (k : Nat), k ≤ n ∧ i = i64 (k : Nat) ∧ Hid (Bld w.heap.size w1.heap.size (Lib.byteCells (outL (l.take k))) wr) ∧ Hid (Below w.heap.size w wr) ∧ Hid (k = 0 → wr.heap[w1.heap.size]? = some (.cells #[.pointer none, .slice none 0 0] TT (0, 0)))) (fun i _ => n - (intOf i).toNat)
    case atStart => exact ⟨0, Nat.zero_le _, rfl, HBD, HBL, Lib.hid fun _ => HCE.out⟩
    case round =>
      obtain ⟨k, hk, rfl, HD, HB, HZ⟩ := hrel
      by_cases hlt : k < n
      · have hlt' : (k : Int) < (n : Int) := by omega
        have hkl : k < l.length := by rw [HN.out]; exact hlt
        obtain ⟨b, off, rfl, hb, hc⟩ := rd_el (dec := decC) (s := 4) (fun _ => rfl) (HI.out.up HB.out).2.1 HN.out hkl
        have hok := HA.out l[k] (List.getElem_mem hkl)
        have HCI := Lib.hid (HI.out.2.2.2.2 _ (List.getElem_mem hkl))
        have HOK := Lib.hid (okC_of hok)
        have hlen : (outL (l.take k)).length ≤ 1000000 := by
          have h1 := outL_len (l.take k) (fun x hx => HA.out x (List.mem_of_mem_take hx))
          rw [List.length_take] at h1
          omega
        have HLE := Lib.hid hlen
        have HST : Hid (outL (l.take (k + 1)) = outL (l.take k) ++ (lnC l[k] ++ [10])) := Lib.hid (by rw [List.take_succ_eq_append_getElem hkl, outL_snoc])
        obtain ⟨⟨xk, xm, xA, xn, xc, xs, xp⟩, hx⟩ : ∃ x, l[k] = x := ⟨_, rfl⟩
        rw [hx] at hc HCI HOK HST
        have c0 := hc 0 _ rfl
        have c1 := hc 1 _ rfl
        have c2 := hc 2 _ rfl
        have c3 := hc 3 _ rfl
        rw [Nat.add_zero] at c0
        dsimp only at c0 c1 c2 c3 HOK
        have hbw : Below w.heap.size w (wr.alloc (.cells #[.int .i64 xk, .string xm, .slice xA xn xc, .int .i64 xp] 46)) := HB.out.alloc HB.out.size _
        have HCX := Lib.hid (wr_val w w1.heap.size (outL (l.take k)) ⟨xk, xm, xA, xn, xc, xs, xp⟩ _ hbw HCI.out HOK.out HVP.out (HD.out.alloc (.cells #[.int .i64 xk, .string xm, .slice xA xn xc, .int .i64 xp] 46)) HLE.out)
        dsimp only at HCX
        clear hb hc hx hkl hok hlen hbw
        go_wp2_with fail
        refine HCX.out.mono ?_
        rintro e w2 ⟨rfl, hd2, hb2, -⟩
        have HD2 := Lib.hid hd2
        have HB2 := Lib.hid hb2
        clear hd2 hb2
        go_wp2_with fail
        case roundEnd =>
          refine ⟨⟨k + 1, by omega, rfl, Lib.hid (by rw [HST.out]; exact HD2.out), HB2, Lib.hid fun h => absurd h (by omega)⟩, ?_⟩
          simp only [intOf]; omega
      · have hlt' : ¬ (k : Int) < (n : Int) := by omega
        obtain rfl : k = n := by omega
        have hd := HD.out
        rw [List.take_of_length_le (by rw [HN.out]; exact Nat.le_refl _)] at hd
        have HD2 := Lib.hid hd
        have hlen : (outL l).length ≤ 1000000 := by
          have h1 := outL_len l HA.out
          rw [HN.out] at h1
          omega
        obtain ⟨T, hT⟩ : ∃ T : ByteArray, ⟨(outL l).toArray⟩ = T := ⟨_, rfl⟩
        have HTl : Hid (T.data.toList = outL l) := Lib.hid (by rw [← hT])
        have hTs : T.size ≤ maxLen := by rw [← hT]; show (outL l).length ≤ _; unfold maxLen; omega
        have HLX := Lib.hid (lex_val T hTs)
        rw [HTl.out] at HLX
        have HSTR : Hid (∀ W, Bld w.heap.size w1.heap.size (Lib.byteCells (outL l)) W → (l = [] → W.heap[w1.heap.size]? = some (.cells #[.pointer none, .slice none 0 0] TT (0, 0))) →
            Calls Tryd.prog 23 #[.pointer (some ⟨w1.heap.size, 0, none⟩)] W fun e w' => e = .returned (.string T) ∧ Bld w.heap.size w1.heap.size (Lib.byteCells (outL l)) w' ∧ (l = [] → w'.heap[w1.heap.size]? = some (.cells #[.pointer none, .slice none 0 0] TT (0, 0))) ∧ Below w.heap.size W w') := Lib.hid (by
          intro W h1 h2
          by_cases hl : l = []
          · have hA : BldAt w.heap.size w1.heap.size (.pointer none) [] W := by
              have hB0 : w.heap.size ≤ w1.heap.size := h1.elim (fun x => x.1) (fun x => x.1)
              exact ⟨hB0, .slice none 0 0, h2 hl, ⟨rfl, .inl ⟨rfl, rfl⟩⟩, by simp [Value.ownBlock]⟩
            refine (bld_String_nil w.heap.size w1.heap.size _ W (h2 hl) hA).mono ?_
            rintro e w' ⟨rfl, h3, h4, h5, -⟩
            refine ⟨by rw [← hT, hl]; rfl, ?_, fun _ => h3, h5⟩
            rw [hl]
            exact .inl h4
          · refine (bld_String w.heap.size w1.heap.size (outL l) W h1 ?_).mono ?_
            · intro e
              cases l with
              | nil => exact hl rfl
              | cons x r => unfold outL at e; rw [List.flatMap_cons] at e; simp at e
            · rintro e w' ⟨rfl, h3, h4, -⟩
              exact ⟨by rw [hT], h3, fun h => absurd h hl, h4⟩)
        have HZ2 : Hid (l = [] → wr.heap[w1.heap.size]? = some (.cells #[.pointer none, .slice none 0 0] TT (0, 0))) := Lib.hid fun h => HZ.out (by rw [← HN.out, h]; rfl)
        obtain ⟨ts, er, ps, hres⟩ : ∃ ts er ps, LEX (outL l) = ⟨ts, er, ps⟩ := ⟨_, _, _, rfl⟩
        rw [hres] at HLX HR
        dsimp only at HR
        clear hd hlen hT hTs hlt hk hres
        go_wp2_with fail
        refine (HSTR.out _ HD2.out HZ2.out).mono ?_
        rintro e w2 ⟨rfl, hd2, hz2, hb2⟩
        have HD3 := Lib.hid hd2
        have HZ3 := Lib.hid hz2
        have HB2 := Lib.hid (HB.out.trans hb2)
        clear hd2 hz2 hb2
        go_wp2_with fail
        refine (HLX.out _ (HVP.out.err.up HB2.out)).mono ?_
        rintro e w3 ⟨A3, n3, c3, rfl, hT3, hb3⟩
        have HD4 := Lib.hid (bld_up HD3.out hb3)
        have HZ4 : Hid (l = [] → w3.heap[w1.heap.size]? = some (.cells #[.pointer none, .slice none 0 0] TT (0, 0))) := Lib.hid fun h => by
          have h5 := HZ3.out h
          exact (hb3.block _ (Array.getElem?_eq_some_iff.1 h5).1).trans h5
        have HB3 := Lib.hid (HB2.out.trans (hb3.mono HB2.out.size))
        clear hT3 hb3
        by_cases he : er = 0
        · subst he
          have HR2 : Hid (printL l = (outL l, 0)) := Lib.hid (by rw [HR.out, if_neg (by decide)])
          go_wp2_with fail
          refine (HSTR.out _ HD4.out HZ4.out).mono ?_
          rintro e w5 ⟨rfl, -, -, hb5⟩
          have HB5 := Lib.hid (HB3.out.trans hb5)
          clear hb5
          go_wp2_with fail
          go_ret2
          rw [HR2.out, ← HTl.out, str_eta]
          exact ⟨rfl, HB5.out⟩
        · have f1 : ((er : Int) != 0) = true := by rw [bne_iff_ne]; omega
          have HR2 : Hid (printL l = ([], 2)) := Lib.hid (by rw [HR.out, if_pos he])
          go_wp2_with fail
          go_ret2
          rw [HR2.out]
          exact ⟨rfl, HB3.out⟩
end Go.Proofs.YtmdogklgbifacaaDoor.Pr
