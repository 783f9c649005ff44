/- Commands that came in. parser.isWord, parser.isName. parser.shape, parser.isCommand. parser.Valid. The reference's forms. The reference's words and names. Cuts of strings and of tokens. The reference's Parts. The reference's expanded. The reference's Counts. The reference's command and Valid. The reference's Few. Commands in a row of their own. -/
import Derived.Test.YtbgekgakamincaaDoorBas
import Derived.Test.YtbgekgakamincaaDoorProg
import Derived.KernelRfl
import Derived.Test.YtbgekgakamincaaDoorLxC
import Derived.Test.YtbgekgakamincaaDoorLxA

/- Commands that came in. -/
namespace Go.Proofs.YtbgekgakamincaaDoor.Pr
open Go.RowKit Go.ChangeShapes Go.WideShapes Go.Deep
set_option linter.unusedVariables false

abbrev w64 (x : Int) : Prop := (Lit.int .i64 x).wf = true
/-- A command, its numbers with the place where they lie. -/
structure Cm where
  kind : Int
  name : ByteArray
  A : Option Addr
  n : Nat
  c : Nat
  ns : List Int
  pos : Int
def iv (x : Int) : Value := .int .i64 x
def decC (x : Cm) : List Value := [.int .i64 x.kind, .string x.name, .slice x.A x.n x.c, .int .i64 x.pos]
structure Cm.In (w : World) (x : Cm) : Prop where
  kind : w64 x.kind
  name : x.name.size ≤ maxLen
  rd : Rd w w.heap.size 1 x.A x.n (x.ns.map iv)
  len : x.ns.length = x.n
  nc : x.n ≤ x.c
  cm : x.c ≤ maxLen
  wf : ∀ v ∈ x.ns, w64 v
  pos : w64 x.pos
theorem Cm.In.up {w w' : World} {x : Cm} (h : Cm.In w x) (hb : Below w.heap.size w w') : Cm.In w' x := ⟨h.kind, h.name, h.rd.up hb, h.len, h.nc, h.cm, h.wf, h.pos⟩
/-- Commands in memory. -/
def IsCms (w : World) (A : Option Addr) (n c : Nat) (l : List Cm) : Prop := IsList decC 4 (Cm.In w) w A n c l
theorem IsCms.up {w w' : World} {A : Option Addr} {n c : Nat} {l : List Cm} (h : IsCms w A n c l) (hb : Below w.heap.size w w') : IsCms w' A n c l :=
  ⟨h.1, h.2.1.up hb, h.2.2.1, h.2.2.2.1, fun x hx => (h.2.2.2.2 x hx).up hb⟩
theorem cells_int : Tryd.prog.cellsOf 3 = 1 := by kernel_rfl
theorem cells_str : Tryd.prog.cellsOf 9 = 1 := by kernel_rfl
theorem cells_ints : Tryd.prog.cellsOf 38 = 1 := by kernel_rfl
theorem cells_cmd : Tryd.prog.cellsOf 40 = 4 := by kernel_rfl
section
variable {H : Type} {enc : TypeId × Value → H} {w : World} {spare : Nat → Bool} {held : Bool}

theorem el_ints (n0 : Nat) (cs : List Value) (y : DataW H × List MemPlace) (hf : DataW.trod enc Tryd.prog w 0 spare held n0 38 cs = some y) :
    ∃ (A : Option Addr) (n c : Nat) (ns : List Int), cs = [.slice A n c] ∧ Rd w w.heap.size 1 A n (ns.map iv) ∧ ns.length = n ∧ n ≤ c ∧ c ≤ maxLen ∧ ∀ v ∈ ns, w64 v := by
  rcases open_slice Tryd.underlying38 hf with ⟨hcs, _⟩ | ⟨a, len, cap, m, n', D, Pl, hcs, _, hl, hm, hmm, hx, hi⟩
  · exact ⟨none, 0, 0, [], hcs, Rd.nil_, rfl, Nat.le_refl _, by decide, fun v hv => by cases hv⟩
  · have hlm : len ≤ m := by rw [hmm]; split <;> omega
    obtain ⟨l, hll, hr⟩ := choose_list (fun i (x : Int) => w64 x ∧ ∀ j, j < 1 → w.cell? (a.add (i * 1 + j)) = [iv x][j]?) len (fun i hin => by
      obtain ⟨cs', hc, htr⟩ := hi i (by omega)
      obtain ⟨x, rfl, hw⟩ := open_el_int Tryd.underlying3 _ _ _ htr
      obtain ⟨_, hcl, hat⟩ := World.cells?_some hc
      rw [cells_int] at hat
      exact ⟨x, hw, fun j hj => by rw [← Go.Deep.add_add]; exact hat j hj⟩)
    refine ⟨some a, len, cap, l, hcs, ⟨by simp [hll], fun hn => ?_⟩, hll, hl, hm, fun v hv => ?_⟩
    · obtain ⟨x0, hx0⟩ : ∃ x0, l[0]? = some x0 := ⟨_, List.getElem?_eq_getElem (by omega)⟩
      have h0 := (hr 0 x0 hx0).2 0 (by omega)
      have hs := World.cell?_spot h0
      obtain ⟨b, off, spot⟩ := a
      have hspot : spot = none := by simpa [Addr.add] using hs
      subst hspot
      refine ⟨b, off, rfl, by simpa [Addr.add] using cell_lt h0, fun j u hu => ?_⟩
      rw [List.getElem?_map] at hu
      obtain ⟨x, hx2, rfl⟩ := Option.map_eq_some_iff.1 hu
      have := (hr j x hx2).2 0 (by omega)
      by_cases hj0 : j = 0
      · subst hj0; simpa [Addr.add] using this
      · simpa [Addr.add, hj0] using this
    · obtain ⟨i, hix⟩ := List.getElem?_of_mem hv
      exact (hr i v hix).1
set_option maxRecDepth 100000 in
theorem el_cmd (n : Nat) (cs : List Value) (y : DataW H × List MemPlace) (h : DataW.trod enc Tryd.prog w 0 spare held n 40 cs = some y) : ∃ x, cs = decC x ∧ Cm.In w x := by
  obtain ⟨xs, m, _, _, hcl, hxl, hf⟩ := DataW.trod_struct Tryd.underlying40 h
  rw [cells_cmd] at hcl
  have h0 : DataW.trod enc Tryd.prog w 0 spare held m 3 ((cs.drop 0).take (Tryd.prog.cellsOf 3)) = xs[0]? := hf 0 _ rfl
  have h1 : DataW.trod enc Tryd.prog w 0 spare held m 9 ((cs.drop 1).take (Tryd.prog.cellsOf 9)) = xs[1]? := hf 1 _ rfl
  have h2 : DataW.trod enc Tryd.prog w 0 spare held m 38 ((cs.drop 2).take (Tryd.prog.cellsOf 38)) = xs[2]? := hf 2 _ rfl
  have h3 : DataW.trod enc Tryd.prog w 0 spare held m 3 ((cs.drop 3).take (Tryd.prog.cellsOf 3)) = xs[3]? := hf 3 _ rfl
  rw [cells_int] at h0 h3
  rw [cells_str] at h1
  rw [cells_ints] at h2
  match cs, hcl, xs, hxl with
  | [c0, c1, c2, c3], _, [y0, y1, y2, y3], _ =>
    simp only [List.drop_zero, List.drop_succ_cons, List.take_succ_cons, List.take_zero, List.getElem?_cons_zero, List.getElem?_cons_succ] at h0 h1 h2 h3
    obtain ⟨z0, e0, w0⟩ := open_el_int Tryd.underlying3 _ _ _ h0
    obtain ⟨z1, e1, _, w1⟩ := DataW.trod_string Tryd.underlying9 h1
    obtain ⟨A, nn, c, ns, e2, q1, q2, q3, q4, q5⟩ := el_ints _ _ _ h2
    obtain ⟨z3, e3, w3⟩ := open_el_int Tryd.underlying3 _ _ _ h3
    simp only [List.cons.injEq, and_true] at e0 e1 e2 e3
    subst e0 e1 e2 e3
    exact ⟨⟨z0, z1, A, nn, c, ns, z3⟩, rfl, w0, by simpa using w1, q1, q2, q3, q4, q5, w3⟩
set_option maxRecDepth 100000 in
theorem open_cms {r : Reach} {b0 : Nat} {v : Value} {d : DataW H} {p : List MemPlace} (hv : Value.okWide Tryd.prog w r b0 25 v) (h : DataW.Trod enc Tryd.prog w 0 spare held 25 v d p) :
    ∃ A n c l, v = .slice A n c ∧ IsCms w A n c l := open_list decC 4 (Cm.In w) Tryd.underlying25 cells_cmd (by decide) (fun _ => rfl) el_cmd hv h
end
end Go.Proofs.YtbgekgakamincaaDoor.Pr

/- parser.isWord, parser.isName. -/
namespace Go.Proofs.YtbgekgakamincaaDoor.Pr
open Go.RowKit Go.Proofs.YtbgekgakamincaaDoor.Lx
set_option linter.unusedVariables false

def kw : List (List UInt8) := [[109, 101, 115, 104], [100, 97, 116, 97], [114, 97, 110, 103, 101], [114, 111, 111, 116], [97, 116], [110, 111, 100, 101], [102, 97, 115, 116], [115, 108, 111, 119], [98, 97, 116, 116, 101, 114, 121], [109, 111, 118, 101], [102, 97, 105, 108], [115, 116, 97, 114, 116], [114, 101, 97, 100], [106, 97, 109], [114, 97, 100, 105, 117, 115], [99, 104, 97, 110, 110, 101, 108], [102, 111, 114], [114, 101, 112, 108, 97, 121], [112, 114, 111, 103, 114, 97, 109], [115, 105, 122, 101], [114, 117, 110]]
def wordB (s : ByteArray) : Bool := kw.any fun k => s.toList == k
set_option maxRecDepth 100000 in
set_option maxHeartbeats 2000000 in
theorem isWord_val (s : ByteArray) (w : World) :
    Calls Tryd.prog 77 #[.string s] w fun e w' => e = .returned (.bool (wordB s)) ∧ w = w' := by
  go_enter Tryd.func77, Tryd.ntmps77
  go_wp2_with fail
  all_goals first
    | (rename_i h1 h2; exact absurd (h1.symm.trans h2) (by decide))
    | (go_ret; refine ⟨?_, rfl⟩; simp [wordB, kw, *])

theorem cls3_dec (c : UInt8) : decide (Lx.cls c = 3) = decide (97 ≤ c.toNat ∧ c.toNat ≤ 122) := by
  rw [decide_eq_decide]
  unfold Lx.cls
  constructor
  · intro h; split at h <;> first | (cases h; done) | (split at h <;> first | (cases h; done) | (split at h <;> first | (rename_i q; exact q) | (split at h <;> first | (cases h; done) | (split at h <;> cases h))))
  · intro h; rw [if_neg (by omega), if_neg (by omega), if_pos h]
theorem cls4_dec (c : UInt8) : decide (Lx.cls c = 4) = decide (48 ≤ c.toNat ∧ c.toNat ≤ 57) := by
  rw [decide_eq_decide]
  constructor
  · intro h
    unfold Lx.cls at h
    split at h
    · cases h
    · split at h
      · cases h
      · split at h
        · cases h
        · split at h
          · rename_i q; exact q
          · split at h <;> cases h
  · intro h; unfold Lx.cls; rw [if_neg (by omega), if_neg (by omega), if_neg (by omega), if_pos h]
def chB (i : Nat) (c : UInt8) : Bool := decide (Lx.cls c = 3) || (decide (i ≠ 0) && (decide (c.toNat = 95) || decide (Lx.cls c = 4)))
def chsB : Nat → List UInt8 → Bool
  | _, [] => true
  | i, c :: r => chB i c && chsB (i + 1) r
def nameB (s : ByteArray) : Bool := (decide (s.size ≠ 0) && (decide (s.size ≤ 12) && !wordB s)) && chsB 0 s.data.toList
set_option maxRecDepth 100000 in
set_option maxHeartbeats 2000000 in
theorem isName_val (s : ByteArray) (hs : s.size ≤ maxLen) (w : World) :
    Calls Tryd.prog 66 #[.string s] w fun e w' => e = .returned (.bool (nameB s)) ∧ Below w.heap.size w w' := by
  have HV := Lib.hid (isWord_val s)
  by_cases h0 : s.size = 0
  · have HG2 : Hid (nameB s = false) := Lib.hid (by unfold nameB; rw [decide_eq_false (fun h => h h0)]; rfl)
    have e2 : s.toList = [] := by
      rw [Lib.toList_data]
      exact List.eq_nil_of_length_eq_zero (Array.length_toList.trans h0)
    have hne : (s.toList == []) = true := by rw [e2]; rfl
    clear h0 e2
    go_enter Tryd.func66, Tryd.ntmps66
    go_wp2_with fail
    go_ret
    rw [HG2.out]
    exact ⟨rfl, Below.refl _ _⟩
  by_cases h12 : 12 < s.size
  · have HG2 : Hid (nameB s = false) := Lib.hid (by unfold nameB; rw [decide_eq_true h0, decide_eq_false (show ¬ s.size ≤ 12 by omega)]; rfl)
    have hb1 : (12 : Int) < (s.size : Int) := by omega
    have hne : (s.toList == []) = false := by
      rw [beq_eq_false_iff_ne]
      intro e
      have e2 : s = ⟨#[]⟩ := Lx.bytes_of_list (e.trans (by rw [ByteArray.toList, ByteArray.toList.loop]; rfl))
      exact h0 (by rw [e2]; rfl)
    clear h0 h12
    go_enter Tryd.func66, Tryd.ntmps66
    go_wp2_with fail
    go_ret
    rw [HG2.out]
    exact ⟨rfl, Below.refl _ _⟩
  have hb1 : ¬ (12 : Int) < (s.size : Int) := by omega
  have hne : (s.toList == []) = false := by
    rw [beq_eq_false_iff_ne]
    intro e
    have e2 : s = ⟨#[]⟩ := Lx.bytes_of_list (e.trans (by rw [ByteArray.toList, ByteArray.toList.loop]; rfl))
    exact h0 (by rw [e2]; rfl)
  obtain ⟨wv, hwv⟩ : ∃ v, wordB s = v := ⟨_, rfl⟩
  rw [hwv] at HV
  cases wv with
  | true =>
    have HG2 : Hid (nameB s = false) := Lib.hid (by unfold nameB; rw [hwv, Bool.not_true, Bool.and_false, Bool.and_false, Bool.false_and])
    go_enter Tryd.func66, Tryd.ntmps66
    go_wp2_with fail
    refine (HV.out _).mono ?_
    rintro e w1 ⟨rfl, rfl⟩
    go_wp2_with fail
    go_ret
    rw [HG2.out]
    exact ⟨rfl, Below.refl _ _⟩
  | false =>
    go_enter Tryd.func66, Tryd.ntmps66
    go_wp2_with fail
    refine (HV.out _).mono ?_
    rintro e w1 ⟨rfl, rfl⟩
    go_wp2_with fail
    rw [Lib.run_convert_string_bytes w 9 65 5 s Tryd.underlying9 Tryd.underlying65 Tryd.underlying5]
    simp only [Result.andThen]
    rw [Oper.upon_value]
    have hcell : ∀ j, j < s.size → ∀ b, s.data.toList[j]? = some b → (Lib.bytesWorld w 5 s).cell? ⟨w.heap.size, j, none⟩ = some (.int .u8 (b.toNat : Int)) := fun j hj b hb => by
      rw [Lib.bytesWorld_cell w _ s j hj, List.getD, hb]; rfl
    have hbl : Below w.heap.size w (Lib.bytesWorld w 5 s) := Lib.bytesWorld_below _ _ _
    obtain ⟨wB, hwB⟩ : ∃ wB, Lib.bytesWorld w 5 s = wB := ⟨_, rfl⟩
    rw [hwB] at hcell hbl ⊢
    obtain ⟨cap, hcap⟩ : ∃ cap, grownCap w s.size 0 5 = cap := ⟨_, rfl⟩
    rw [hcap]
    have HC := Lib.hid hcell
    have HBL := Lib.hid hbl
    clear hcell hbl hwB hcap
    go_wp2_with fail
    go_loopw [20] (fun i wr => ∃ (k : Nat), k ≤ s.size ∧ i = i64 (k : Nat) ∧ Hid (chsB 0 s.data.toList = chsB k (s.data.toList.drop k)) ∧ wB = wr) (fun i _ => s.size - (intOf i).toNat)
    case atStart => exact ⟨0, Nat.zero_le _, rfl, Lib.hid rfl, rfl⟩
    case round =>
      obtain ⟨k, hk, rfl, HG, rfl⟩ := hrel
      by_cases hlt : k < s.size
      · have hlt' : (k : Int) < (s.size : Int) := by omega
        have hl : s.data.toList.length = s.size := Array.length_toList
        have hg := HG.out
        rw [List.drop_eq_getElem_cons (by rw [hl]; exact hlt)] at hg
        have hc := HC.out k hlt _ (List.getElem?_eq_getElem (by rw [hl]; exact hlt))
        obtain ⟨b, hb⟩ : ∃ b, s.data.toList[k]'(by rw [hl]; exact hlt) = b := ⟨_, rfl⟩
        rw [hb] at hc hg
        simp only [chsB] at hg
        have HG2 := Lib.hid hg
        have HX := Lib.hid hb
        by_cases q1 : b.toNat < 97
        · have f1 : ¬ (97 : Int) ≤ (b.toNat : Int) := by omega
          have hch0 : chB k b = (decide (k ≠ 0) && (decide (b.toNat = 95) || decide (48 ≤ b.toNat ∧ b.toNat ≤ 57))) := by
            unfold chB; rw [cls3_dec, decide_eq_false (fun h => by omega), Bool.false_or, cls4_dec]
          by_cases q2 : k = 0
          · have f2 : ((k : Int) == 0) = true := by rw [beq_iff_eq]; omega
            have hch : chB k b = false := by rw [hch0, decide_eq_false (fun h => h q2), Bool.false_and]
            clear q1 q2 hch0
            rw [hch, Bool.false_and] at hg
            have HG2 : Hid (nameB s = false) := Lib.hid (by unfold nameB; rw [hg]; simp)
            clear hg hb hl hch HX
            go_wp2_with fail
            go_ret
            rw [HG2.out]
            exact ⟨rfl, HBL.out⟩
          · have f2 : ((k : Int) == 0) = false := by rw [beq_eq_false_iff_ne]; omega
            rw [decide_eq_true q2, Bool.true_and] at hch0
            by_cases q3 : b.toNat = 95
            · have f3 : ((b.toNat : Int) != 95) = false := by rw [bne_eq_false_iff_eq]; omega
              have hch : chB k b = true := by rw [hch0, decide_eq_true q3, Bool.true_or]
              clear q1 q2 q3 hch0
              rw [hch, Bool.true_and] at hg
              have HG2 := Lib.hid hg
              clear hg hb hl hch HX
              go_wp2_with fail
              case roundEnd =>
                refine ⟨⟨k + 1, by omega, rfl, Lib.hid HG2.out, trivial⟩, ?_⟩
                simp only [intOf]; omega
            · have f3 : ((b.toNat : Int) != 95) = true := by rw [bne_iff_ne]; omega
              rw [decide_eq_false q3, Bool.false_or] at hch0
              by_cases q4 : b.toNat < 48
              · have f4 : (b.toNat : Int) < 48 := by omega
                have hch : chB k b = false := by rw [hch0, decide_eq_false (fun h => by omega)]
                clear q1 q2 q3 q4 hch0
                rw [hch, Bool.false_and] at hg
                have HG2 : Hid (nameB s = false) := Lib.hid (by unfold nameB; rw [hg]; simp)
                clear hg hb hl hch HX
                go_wp2_with fail
                go_ret
                rw [HG2.out]
                exact ⟨rfl, HBL.out⟩
              · have f4 : ¬ (b.toNat : Int) < 48 := by omega
                by_cases q5 : 57 < b.toNat
                · have f5 : (57 : Int) < (b.toNat : Int) := by omega
                  have hch : chB k b = false := by rw [hch0, decide_eq_false (fun h => by omega)]
                  clear q1 q2 q3 q4 q5 hch0
                  rw [hch, Bool.false_and] at hg
                  have HG2 : Hid (nameB s = false) := Lib.hid (by unfold nameB; rw [hg]; simp)
                  clear hg hb hl hch HX
                  go_wp2_with fail
                  go_ret
                  rw [HG2.out]
                  exact ⟨rfl, HBL.out⟩
                · have f5 : ¬ (57 : Int) < (b.toNat : Int) := by omega
                  have hch : chB k b = true := by rw [hch0, decide_eq_true (by omega)]
                  clear q1 q2 q3 q4 q5 hch0
                  rw [hch, Bool.true_and] at hg
                  have HG2 := Lib.hid hg
                  clear hg hb hl hch HX
                  go_wp2_with fail
                  case roundEnd =>
                    refine ⟨⟨k + 1, by omega, rfl, Lib.hid HG2.out, trivial⟩, ?_⟩
                    simp only [intOf]; omega
        · have f1 : (97 : Int) ≤ (b.toNat : Int) := by omega
          by_cases q2 : b.toNat ≤ 122
          · have f2 : (b.toNat : Int) ≤ 122 := by omega
            have hch : chB k b = true := by unfold chB; rw [cls3_dec, decide_eq_true (by omega), Bool.true_or]
            clear q1 q2
            rw [hch, Bool.true_and] at hg
            have HG2 := Lib.hid hg
            clear hg hb hl hch HX
            go_wp2_with fail
            case roundEnd =>
              refine ⟨⟨k + 1, by omega, rfl, Lib.hid HG2.out, trivial⟩, ?_⟩
              simp only [intOf]; omega
          · have f2 : ¬ (b.toNat : Int) ≤ 122 := by omega
            have hch0 : chB k b = decide (k ≠ 0 ∧ False) := by
              unfold chB; rw [cls3_dec, decide_eq_false (fun h => by omega), Bool.false_or, cls4_dec, decide_eq_false (fun h => by omega : ¬ b.toNat = 95), decide_eq_false (fun h => by omega : ¬ (48 ≤ b.toNat ∧ b.toNat ≤ 57))]
              simp
            have hch : chB k b = false := by rw [hch0]; simp
            have f3 : ((b.toNat : Int) != 95) = true := by rw [bne_iff_ne]; omega
            have f4 : ¬ (b.toNat : Int) < 48 := by omega
            have f5 : (57 : Int) < (b.toNat : Int) := by omega
            clear q1 q2 hch0
            by_cases q3 : k = 0
            · have f6 : ((k : Int) == 0) = true := by rw [beq_iff_eq]; omega
              clear q3
              rw [hch, Bool.false_and] at hg
              have HG2 : Hid (nameB s = false) := Lib.hid (by unfold nameB; rw [hg]; simp)
              clear hg hb hl hch HX
              go_wp2_with fail
              go_ret
              rw [HG2.out]
              exact ⟨rfl, HBL.out⟩
            · have f6 : ((k : Int) == 0) = false := by rw [beq_eq_false_iff_ne]; omega
              clear q3
              rw [hch, Bool.false_and] at hg
              have HG2 : Hid (nameB s = false) := Lib.hid (by unfold nameB; rw [hg]; simp)
              clear hg hb hl hch HX
              go_wp2_with fail
              go_ret
              rw [HG2.out]
              exact ⟨rfl, HBL.out⟩
      · have hlt' : ¬ (k : Int) < (s.size : Int) := by omega
        obtain rfl : k = s.size := by omega
        have hl : s.data.toList.length = s.size := Array.length_toList
        have hg := HG.out
        rw [List.drop_of_length_le (by omega)] at hg
        have HG2 : Hid (nameB s = true) := Lib.hid (by unfold nameB; rw [hg, hwv, decide_eq_true h0, decide_eq_true (by omega)]; rfl)
        clear hg hl
        go_wp2_with fail
        go_ret
        rw [HG2.out]
        exact ⟨rfl, HBL.out⟩
end Go.Proofs.YtbgekgakamincaaDoor.Pr

/- parser.shape, parser.isCommand. -/
namespace Go.Proofs.YtbgekgakamincaaDoor.Pr
open Go.RowKit Go.Proofs.YtbgekgakamincaaDoor.Lx
set_option linter.unusedVariables false

def shapeOf (k : Int) : Bool × Int :=
  if k = 1 then (false, 2) else if k = 2 ∨ k = 7 then (true, 2) else if k = 3 then (true, 4) else if k = 4 then (true, 3)
  else if k = 5 ∨ k = 6 then (true, 1) else if k = 8 then (false, 6) else if k = 9 then (false, 4) else if k = 10 then (false, 3)
  else if k = 11 then (false, 1) else (false, -1)
set_option maxRecDepth 100000 in
set_option maxHeartbeats 2000000 in
theorem shape_val (k : Int) (w : World) :
    Calls Tryd.prog 65 #[.int .i64 k] w fun e w' => e = .returned (.tuple #[.bool (shapeOf k).1, .int .i64 (shapeOf k).2]) ∧ w = w' := by
  by_cases h1 : k = 1 ∨ k = 2 ∨ k = 3 ∨ k = 4 ∨ k = 5 ∨ k = 6 ∨ k = 7 ∨ k = 8 ∨ k = 9 ∨ k = 10 ∨ k = 11
  · rcases h1 with rfl | rfl | rfl | rfl | rfl | rfl | rfl | rfl | rfl | rfl | rfl <;>
    · go_enter Tryd.func65, Tryd.ntmps65
      go_wp2_with fail
      go_ret2
      exact ⟨rfl, rfl⟩
  · have hs : shapeOf k = (false, -1) := by
      unfold shapeOf
      rw [if_neg (by omega), if_neg (by omega), if_neg (by omega), if_neg (by omega), if_neg (by omega), if_neg (by omega), if_neg (by omega), if_neg (by omega), if_neg (by omega)]
    have HS := Lib.hid hs
    have f1 : (k == 1) = false := by rw [beq_eq_false_iff_ne]; omega
    have f2 : (k == 2) = false := by rw [beq_eq_false_iff_ne]; omega
    have f3 : (k == 3) = false := by rw [beq_eq_false_iff_ne]; omega
    have f4 : (k == 4) = false := by rw [beq_eq_false_iff_ne]; omega
    have f5 : (k == 5) = false := by rw [beq_eq_false_iff_ne]; omega
    have f6 : (k == 6) = false := by rw [beq_eq_false_iff_ne]; omega
    have f7 : (k == 7) = false := by rw [beq_eq_false_iff_ne]; omega
    have f8 : (k == 8) = false := by rw [beq_eq_false_iff_ne]; omega
    have f9 : (k == 9) = false := by rw [beq_eq_false_iff_ne]; omega
    have f10 : (k == 10) = false := by rw [beq_eq_false_iff_ne]; omega
    have f11 : (k == 11) = false := by rw [beq_eq_false_iff_ne]; omega
    clear h1 hs
    go_enter Tryd.func65, Tryd.ntmps65
    go_wp2_with fail
    go_ret2
    rw [HS.out]
    exact ⟨rfl, rfl⟩

def numB (k : Int) (i : Nat) (v : Int) : Bool := decide (v ≤ 1000000000) && (decide (0 ≤ v) || (decide (k = 3) && (decide (i = 2) && decide (-1000000000 ≤ v))))
def numsB (k : Int) : Nat → List Int → Bool
  | _, [] => true
  | i, v :: r => numB k i v && numsB k (i + 1) r
/-- Is a command valid? -/
def cmdB (k : Int) (name : ByteArray) (ns : List Int) : Bool :=
  (decide ((ns.length : Int) = (shapeOf k).2) && ((shapeOf k).1 == decide (name.size ≠ 0))) && ((!(shapeOf k).1 || nameB name) && numsB k 0 ns)
set_option maxRecDepth 100000 in
set_option maxHeartbeats 2000000 in
theorem isCommand_val (x : Cm) (w : World) (hx : Cm.In w x) :
    Calls Tryd.prog 43 #[.agg #[.int .i64 x.kind, .string x.name, .slice x.A x.n x.c, .int .i64 x.pos]] w fun e w' => e = .returned (.bool (cmdB x.kind x.name x.ns)) ∧ Below w.heap.size w w' := by
  obtain ⟨k, nm, A, n, c, ns, p⟩ := x
  have HX := Lib.hid hx
  have hn := hx.len
  dsimp only at hn
  have hnm : n ≤ 9223372036854775807 := Nat.le_trans hx.nc (Nat.le_trans hx.cm (by decide))
  have HS := Lib.hid (shape_val k)
  obtain ⟨⟨named, many⟩, hsh⟩ : ∃ q, shapeOf k = q := ⟨_, rfl⟩
  rw [hsh] at HS
  have HN := Lib.hid (isName_val nm hx.name)
  have HB0 : Hid (Below w.heap.size w (w.alloc (.cells #[.int .i64 k, .string nm, .slice A n c, .int .i64 p] 40))) := Lib.hid ((Below.refl _ w).alloc (Nat.le_refl _) _)
  have BX : Hid (Blk (w.alloc (.cells #[.int .i64 k, .string nm, .slice A n c, .int .i64 p] 40)) w.heap.size 40 #[.int .i64 k, .string nm, .slice A n c, .int .i64 p]) := Lib.hid (Blk.new w _ _)
  dsimp only at HS
  by_cases hm : (n : Int) = many
  · have hm' : ((n : Int) != many) = false := by rw [bne_eq_false_iff_eq]; exact hm
    have HLN := Lib.hid hn
    have hcm : cmdB k nm ns = ((named == decide (nm.size ≠ 0)) && ((!named || nameB nm) && numsB k 0 ns)) := by unfold cmdB; rw [hsh, hn, decide_eq_true hm, Bool.true_and]
    by_cases he : nm.size = 0
    · have hne : (nm.toList == []) = true := by
        have e2 : nm.toList = [] := by rw [Lib.toList_data]; exact List.eq_nil_of_length_eq_zero (Array.length_toList.trans he)
        rw [e2]; rfl
      rw [decide_eq_false (fun h => h he)] at hcm
      cases named with
      | true =>
        have HR : Hid (cmdB k nm ns = false) := Lib.hid (by rw [hcm]; rfl)
        clear hx hsh hcm he hn
        go_enter Tryd.func43, Tryd.ntmps43
        go_wp2_with fail
        refine (HS.out _).mono ?_
        rintro e w1 ⟨rfl, hw1⟩
        rw [hw1] at BX HB0
        have c0 : w1.cell? ⟨w.heap.size, 0, none⟩ = some (.int .i64 k) := BX.out.cell 0
        have c1 : w1.cell? ⟨w.heap.size, 1, none⟩ = some (.string nm) := BX.out.cell 1
        have c2 : w1.cell? ⟨w.heap.size, 2, none⟩ = some (.slice A n c) := BX.out.cell 2
        clear hw1
        go_wp2_with fail
        go_ret
        rw [HR.out]
        exact ⟨rfl, HB0.out⟩
      | false =>
        have HR : Hid (cmdB k nm ns = numsB k 0 ns) := Lib.hid (by rw [hcm]; simp)
        clear hx hsh hcm he hn hm
        go_enter Tryd.func43, Tryd.ntmps43
        go_wp2_with fail
        refine (HS.out _).mono ?_
        rintro e w1 ⟨rfl, hw1⟩
        rw [hw1] at BX HB0
        have c0 : w1.cell? ⟨w.heap.size, 0, none⟩ = some (.int .i64 k) := BX.out.cell 0
        have c1 : w1.cell? ⟨w.heap.size, 1, none⟩ = some (.string nm) := BX.out.cell 1
        have c2 : w1.cell? ⟨w.heap.size, 2, none⟩ = some (.slice A n c) := BX.out.cell 2
        clear hw1
        go_wp2_with fail
        go_loopw [37] (fun i wr => ∃ (j : Nat), j ≤ n ∧ i = i64 (j : Nat) ∧ Hid (numsB k 0 ns = numsB k j (ns.drop j)) ∧ w1 = wr) (fun i _ => n - (intOf i).toNat)
        case atStart => exact ⟨0, Nat.zero_le _, rfl, Lib.hid rfl, rfl⟩
        case round =>
          obtain ⟨j, hj, rfl, HG, rfl⟩ := hrel
          by_cases hlt : j < n
          · have hlt' : (j : Int) < (n : Int) := by omega
            have hjn : j < ns.length := by rw [HLN.out]; exact hlt
            obtain ⟨b, off, rfl, hb, hcc⟩ := (HX.out.rd.up HB0.out).2 (by show 0 < n; omega)
            have hg := HG.out
            rw [List.drop_eq_getElem_cons hjn] at hg
            have hc := hcc j (iv ns[j]) (by rw [List.getElem?_map, List.getElem?_eq_getElem hjn]; rfl)
            obtain ⟨v, hv⟩ : ∃ v, ns[j] = v := ⟨_, rfl⟩
            rw [hv] at hc hg
            unfold iv at hc
            simp only [numsB] at hg
            clear hb hcc
            by_cases q1 : 1000000000 < v
            · have hch : numB k j v = false := by unfold numB; rw [decide_eq_false (show ¬ v ≤ 1000000000 by omega)]; rfl
              rw [hch, Bool.false_and] at hg
              have HG2 : Hid (cmdB k nm ns = false) := Lib.hid (HR.out.trans hg)
              clear hg hch hv
              go_wp2_with fail
              go_ret
              rw [HG2.out]
              exact ⟨rfl, HB0.out⟩
            · by_cases q2 : v < 0
              · by_cases q3 : k = 3
                · have f3 : (k != 3) = false := by rw [bne_eq_false_iff_eq]; exact q3
                  by_cases q4 : j = 2
                  · have f4 : ((j : Int) != 2) = false := by rw [bne_eq_false_iff_eq]; omega
                    by_cases q5 : v < -1000000000
                    · have hch : numB k j v = false := by unfold numB; rw [decide_eq_false (show ¬ 0 ≤ v by omega), decide_eq_false (show ¬ (-1000000000 ≤ v) by omega)]; simp
                      clear q3 q4
                      rw [hch, Bool.false_and] at hg
                      have HG2 : Hid (cmdB k nm ns = false) := Lib.hid (HR.out.trans hg)
                      clear hg hch hv
                      go_wp2_with fail
                      go_ret
                      rw [HG2.out]
                      exact ⟨rfl, HB0.out⟩
                    · have hch : numB k j v = true := by unfold numB; rw [decide_eq_true (show v ≤ 1000000000 by omega), decide_eq_true q3, decide_eq_true q4, decide_eq_true (show -1000000000 ≤ v by omega)]; simp
                      clear q3 q4
                      rw [hch, Bool.true_and] at hg
                      have HG2 := Lib.hid hg
                      clear hg hch hv
                      go_wp2_with fail
                      case roundEnd =>
                        refine ⟨⟨j + 1, by omega, rfl, Lib.hid HG2.out, trivial⟩, ?_⟩
                        simp only [intOf]; omega
                  · have f4 : ((j : Int) != 2) = true := by rw [bne_iff_ne]; omega
                    have hch : numB k j v = false := by unfold numB; rw [decide_eq_false (show ¬ 0 ≤ v by omega), decide_eq_false q4]; simp
                    clear q3 q4
                    rw [hch, Bool.false_and] at hg
                    have HG2 : Hid (cmdB k nm ns = false) := Lib.hid (HR.out.trans hg)
                    clear hg hch hv
                    go_wp2_with fail
                    go_ret
                    rw [HG2.out]
                    exact ⟨rfl, HB0.out⟩
                · have f3 : (k != 3) = true := by rw [bne_iff_ne]; exact q3
                  have hch : numB k j v = false := by unfold numB; rw [decide_eq_false (show ¬ 0 ≤ v by omega), decide_eq_false q3]; simp
                  clear q3
                  rw [hch, Bool.false_and] at hg
                  have HG2 : Hid (cmdB k nm ns = false) := Lib.hid (HR.out.trans hg)
                  clear hg hch hv
                  go_wp2_with fail
                  go_ret
                  rw [HG2.out]
                  exact ⟨rfl, HB0.out⟩
              · have hch : numB k j v = true := by unfold numB; rw [decide_eq_true (show v ≤ 1000000000 by omega), decide_eq_true (show 0 ≤ v by omega)]; rfl
                rw [hch, Bool.true_and] at hg
                have HG2 := Lib.hid hg
                clear hg hch hv
                go_wp2_with fail
                case roundEnd =>
                  refine ⟨⟨j + 1, by omega, rfl, Lib.hid HG2.out, trivial⟩, ?_⟩
                  simp only [intOf]; omega
          · have hlt' : ¬ (j : Int) < (n : Int) := by omega
            obtain rfl : j = n := by omega
            have hg := HG.out
            rw [List.drop_of_length_le (by rw [HLN.out]; exact Nat.le_refl _)] at hg
            have HG2 : Hid (cmdB k nm ns = true) := Lib.hid (HR.out.trans hg)
            clear hg
            go_wp2_with fail
            go_ret
            rw [HG2.out]
            exact ⟨rfl, HB0.out⟩
    · have hne : (nm.toList == []) = false := by
        rw [beq_eq_false_iff_ne]
        intro e
        have e2 : nm = ⟨#[]⟩ := Lx.bytes_of_list (e.trans (by rw [ByteArray.toList, ByteArray.toList.loop]; rfl))
        exact he (by rw [e2]; rfl)
      rw [decide_eq_true he] at hcm
      cases named with
      | false =>
        have HR : Hid (cmdB k nm ns = false) := Lib.hid (by rw [hcm]; rfl)
        clear hx hsh hcm he hn
        go_enter Tryd.func43, Tryd.ntmps43
        go_wp2_with fail
        refine (HS.out _).mono ?_
        rintro e w1 ⟨rfl, hw1⟩
        rw [hw1] at BX HB0
        have c0 : w1.cell? ⟨w.heap.size, 0, none⟩ = some (.int .i64 k) := BX.out.cell 0
        have c1 : w1.cell? ⟨w.heap.size, 1, none⟩ = some (.string nm) := BX.out.cell 1
        have c2 : w1.cell? ⟨w.heap.size, 2, none⟩ = some (.slice A n c) := BX.out.cell 2
        clear hw1
        go_wp2_with fail
        go_ret
        rw [HR.out]
        exact ⟨rfl, HB0.out⟩
      | true =>
        obtain ⟨nb, hnb⟩ : ∃ v, nameB nm = v := ⟨_, rfl⟩
        rw [hnb] at hcm HN
        cases nb with
        | false =>
          have HR : Hid (cmdB k nm ns = false) := Lib.hid (by rw [hcm]; rfl)
          clear hx hsh hcm he hn
          go_enter Tryd.func43, Tryd.ntmps43
          go_wp2_with fail
          refine (HS.out _).mono ?_
          rintro e w1 ⟨rfl, hw1⟩
          rw [hw1] at BX HB0
          have c0 : w1.cell? ⟨w.heap.size, 0, none⟩ = some (.int .i64 k) := BX.out.cell 0
          have c1 : w1.cell? ⟨w.heap.size, 1, none⟩ = some (.string nm) := BX.out.cell 1
          have c2 : w1.cell? ⟨w.heap.size, 2, none⟩ = some (.slice A n c) := BX.out.cell 2
          clear hw1
          go_wp2_with fail
          refine (HN.out _).mono ?_
          rintro e w2 ⟨rfl, hb2⟩
          have HB2 := Lib.hid (below_trans' HB0.out hb2)
          clear hb2
          go_wp2_with fail
          go_ret
          rw [HR.out]
          exact ⟨rfl, HB2.out⟩
        | true =>
          have HR : Hid (cmdB k nm ns = numsB k 0 ns) := Lib.hid (by rw [hcm]; simp)
          clear hx hsh hcm he hn hm
          go_enter Tryd.func43, Tryd.ntmps43
          go_wp2_with fail
          refine (HS.out _).mono ?_
          rintro e w1 ⟨rfl, hw1⟩
          rw [hw1] at BX HB0
          have c0 : w1.cell? ⟨w.heap.size, 0, none⟩ = some (.int .i64 k) := BX.out.cell 0
          have c1 : w1.cell? ⟨w.heap.size, 1, none⟩ = some (.string nm) := BX.out.cell 1
          have c2 : w1.cell? ⟨w.heap.size, 2, none⟩ = some (.slice A n c) := BX.out.cell 2
          clear hw1
          go_wp2_with fail
          refine (HN.out _).mono ?_
          rintro e w2 ⟨rfl, hb2⟩
          have BX2 := Lib.hid (BX.out.up' hb2)
          have HB2 := Lib.hid (below_trans' HB0.out hb2)
          clear hb2 c0 c1 c2
          have c0 : w2.cell? ⟨w.heap.size, 0, none⟩ = some (.int .i64 k) := BX2.out.cell 0
          have c1 : w2.cell? ⟨w.heap.size, 1, none⟩ = some (.string nm) := BX2.out.cell 1
          have c2 : w2.cell? ⟨w.heap.size, 2, none⟩ = some (.slice A n c) := BX2.out.cell 2
          go_wp2_with fail
          go_loopw [37] (fun i wr => ∃ (j : Nat), j ≤ n ∧ i = i64 (j : Nat) ∧ Hid (numsB k 0 ns = numsB k j (ns.drop j)) ∧ w2 = wr) (fun i _ => n - (intOf i).toNat)
          case atStart => exact ⟨0, Nat.zero_le _, rfl, Lib.hid rfl, rfl⟩
          case round =>
            obtain ⟨j, hj, rfl, HG, rfl⟩ := hrel
            by_cases hlt : j < n
            · have hlt' : (j : Int) < (n : Int) := by omega
              have hjn : j < ns.length := by rw [HLN.out]; exact hlt
              obtain ⟨b, off, rfl, hb, hcc⟩ := (HX.out.rd.up HB2.out).2 (by show 0 < n; omega)
              have hg := HG.out
              rw [List.drop_eq_getElem_cons hjn] at hg
              have hc := hcc j (iv ns[j]) (by rw [List.getElem?_map, List.getElem?_eq_getElem hjn]; rfl)
              obtain ⟨v, hv⟩ : ∃ v, ns[j] = v := ⟨_, rfl⟩
              rw [hv] at hc hg
              unfold iv at hc
              simp only [numsB] at hg
              clear hb hcc
              by_cases q1 : 1000000000 < v
              · have hch : numB k j v = false := by unfold numB; rw [decide_eq_false (show ¬ v ≤ 1000000000 by omega)]; rfl
                rw [hch, Bool.false_and] at hg
                have HG2 : Hid (cmdB k nm ns = false) := Lib.hid (HR.out.trans hg)
                clear hg hch hv
                go_wp2_with fail
                go_ret
                rw [HG2.out]
                exact ⟨rfl, HB2.out⟩
              · by_cases q2 : v < 0
                · by_cases q3 : k = 3
                  · have f3 : (k != 3) = false := by rw [bne_eq_false_iff_eq]; exact q3
                    by_cases q4 : j = 2
                    · have f4 : ((j : Int) != 2) = false := by rw [bne_eq_false_iff_eq]; omega
                      by_cases q5 : v < -1000000000
                      · have hch : numB k j v = false := by unfold numB; rw [decide_eq_false (show ¬ 0 ≤ v by omega), decide_eq_false (show ¬ (-1000000000 ≤ v) by omega)]; simp
                        clear q3 q4
                        rw [hch, Bool.false_and] at hg
                        have HG2 : Hid (cmdB k nm ns = false) := Lib.hid (HR.out.trans hg)
                        clear hg hch hv
                        go_wp2_with fail
                        go_ret
                        rw [HG2.out]
                        exact ⟨rfl, HB2.out⟩
                      · have hch : numB k j v = true := by unfold numB; rw [decide_eq_true (show v ≤ 1000000000 by omega), decide_eq_true q3, decide_eq_true q4, decide_eq_true (show -1000000000 ≤ v by omega)]; simp
                        clear q3 q4
                        rw [hch, Bool.true_and] at hg
                        have HG2 := Lib.hid hg
                        clear hg hch hv
                        go_wp2_with fail
                        case roundEnd =>
                          refine ⟨⟨j + 1, by omega, rfl, Lib.hid HG2.out, trivial⟩, ?_⟩
                          simp only [intOf]; omega
                    · have f4 : ((j : Int) != 2) = true := by rw [bne_iff_ne]; omega
                      have hch : numB k j v = false := by unfold numB; rw [decide_eq_false (show ¬ 0 ≤ v by omega), decide_eq_false q4]; simp
                      clear q3 q4
                      rw [hch, Bool.false_and] at hg
                      have HG2 : Hid (cmdB k nm ns = false) := Lib.hid (HR.out.trans hg)
                      clear hg hch hv
                      go_wp2_with fail
                      go_ret
                      rw [HG2.out]
                      exact ⟨rfl, HB2.out⟩
                  · have f3 : (k != 3) = true := by rw [bne_iff_ne]; exact q3
                    have hch : numB k j v = false := by unfold numB; rw [decide_eq_false (show ¬ 0 ≤ v by omega), decide_eq_false q3]; simp
                    clear q3
                    rw [hch, Bool.false_and] at hg
                    have HG2 : Hid (cmdB k nm ns = false) := Lib.hid (HR.out.trans hg)
                    clear hg hch hv
                    go_wp2_with fail
                    go_ret
                    rw [HG2.out]
                    exact ⟨rfl, HB2.out⟩
                · have hch : numB k j v = true := by unfold numB; rw [decide_eq_true (show v ≤ 1000000000 by omega), decide_eq_true (show 0 ≤ v by omega)]; rfl
                  rw [hch, Bool.true_and] at hg
                  have HG2 := Lib.hid hg
                  clear hg hch hv
                  go_wp2_with fail
                  case roundEnd =>
                    refine ⟨⟨j + 1, by omega, rfl, Lib.hid HG2.out, trivial⟩, ?_⟩
                    simp only [intOf]; omega
            · have hlt' : ¬ (j : Int) < (n : Int) := by omega
              obtain rfl : j = n := by omega
              have hg := HG.out
              rw [List.drop_of_length_le (by rw [HLN.out]; exact Nat.le_refl _)] at hg
              have HG2 : Hid (cmdB k nm ns = true) := Lib.hid (HR.out.trans hg)
              clear hg
              go_wp2_with fail
              go_ret
              rw [HG2.out]
              exact ⟨rfl, HB2.out⟩
  · have hm' : ((n : Int) != many) = true := by rw [bne_iff_ne]; exact hm
    have HR : Hid (cmdB k nm ns = false) := Lib.hid (by unfold cmdB; rw [hsh, hn, decide_eq_false hm]; rfl)
    clear hx hsh hm
    go_enter Tryd.func43, Tryd.ntmps43
    go_wp2_with fail
    refine (HS.out _).mono ?_
    rintro e w1 ⟨rfl, hw1⟩
    rw [hw1] at BX HB0
    have c0 : w1.cell? ⟨w.heap.size, 0, none⟩ = some (.int .i64 k) := BX.out.cell 0
    have c1 : w1.cell? ⟨w.heap.size, 1, none⟩ = some (.string nm) := BX.out.cell 1
    have c2 : w1.cell? ⟨w.heap.size, 2, none⟩ = some (.slice A n c) := BX.out.cell 2
    clear hw1
    go_wp2_with fail
    go_ret
    rw [HR.out]
    exact ⟨rfl, HB0.out⟩
end Go.Proofs.YtbgekgakamincaaDoor.Pr

/- parser.Valid. -/
namespace Go.Proofs.YtbgekgakamincaaDoor.Pr
open Go.RowKit Go.Proofs.YtbgekgakamincaaDoor.Lx
set_option linter.unusedVariables false

def cmB (x : Cm) : Bool := cmdB x.kind x.name x.ns
set_option maxRecDepth 100000 in
theorem validf_val (x : Cm) (w : World) (hx : Cm.In w x) :
    Calls Tryd.prog 42 #[.agg #[.int .i64 x.kind, .string x.name, .slice x.A x.n x.c, .int .i64 x.pos]] w fun e w' => e = .returned (.bool (!cmB x)) ∧ Below w.heap.size w w' := by
  obtain ⟨k, nm, A, n, c, ns, p⟩ := x
  have hb0 : Below w.heap.size w (w.alloc (.cells #[.int .i64 k, .string nm, .slice A n c, .int .i64 p] 40)) := (Below.refl _ w).alloc (Nat.le_refl _) _
  have HC := Lib.hid (isCommand_val ⟨k, nm, A, n, c, ns, p⟩ _ (hx.up hb0))
  have HB0 := Lib.hid hb0
  clear hx hb0
  go_enter Tryd.func42, Tryd.ntmps42
  go_wp2_with fail
  refine HC.out.mono ?_
  rintro e w1 ⟨rfl, hb1⟩
  have HB1 := Lib.hid (below_trans' HB0.out hb1)
  clear hb1
  go_wp2_with fail
  go_ret
  exact ⟨rfl, HB1.out⟩
theorem one_decC (a : Cm) : ∀ u ∈ decC a, u.oneCell' = true := by
  intro u hu
  unfold decC at hu
  simp only [List.mem_cons, List.not_mem_nil, or_false] at hu
  rcases hu with rfl | rfl | rfl | rfl <;> rfl
set_option maxRecDepth 100000 in
set_option maxHeartbeats 1000000 in
theorem index_val (A : Option Addr) (n c : Nat) (l : List Cm) (w : World) (h : IsCms w A n c l) :
    Calls Tryd.prog 64 #[.slice A n c, .func (.func 42) #[] #[]] w fun e w' => ∃ z : Int, e = .returned (.int .i64 z) ∧ decide (0 ≤ z) = !(l.all cmB) ∧ Below w.heap.size w w' := by
  have hnm : n ≤ 9223372036854775807 := Nat.le_trans h.2.2.1 (Nat.le_trans h.2.2.2.1 (by decide))
  have HI := Lib.hid h
  have HN := Lib.hid h.1
  clear h
  go_enter Tryd.func64, Tryd.ntmps64
  go_wp2_with fail
  go_loopw [8] (fun i wr => ∃ k : Nat, k ≤ n ∧ i = i64 (k : Nat) ∧ Hid (l.all cmB = (l.drop k).all cmB) ∧ Below w.heap.size w wr) (fun i _ => n - (intOf i).toNat)
  case atStart => exact ⟨0, Nat.zero_le _, rfl, Lib.hid rfl, Below.refl _ _⟩
  case round =>
    obtain ⟨k, hk, rfl, HG, hB⟩ := hrel
    have HB := Lib.hid hB
    clear hB
    by_cases hlt : k < n
    · have hlt' : (k : Int) < (n : Int) := by omega
      have hkl : k < l.length := by rw [HN.out]; exact hlt
      obtain ⟨b, off, rfl, hb, hc⟩ := rd_el (dec := decC) (s := 4) (fun _ => rfl) (HI.out.up HB.out).2.1 HN.out hkl
      have hg := HG.out
      rw [List.drop_eq_getElem_cons hkl, List.all_cons] at hg
      have HV := Lib.hid (validf_val l[k] _ ((HI.out.up HB.out).2.2.2.2 _ (List.getElem_mem hkl)))
      obtain ⟨⟨xk, xm, xA, xn, xc, xs, xp⟩, hx⟩ : ∃ x, l[k] = x := ⟨_, rfl⟩
      rw [hx] at hc hg HV
      have c0 := hc 0 _ rfl
      have c1 := hc 1 _ rfl
      have c2 := hc 2 _ rfl
      have c3 := hc 3 _ rfl
      rw [Nat.add_zero] at c0
      dsimp only at c0 c1 c2 c3 HV
      obtain ⟨v, hv⟩ : ∃ v, cmB ⟨xk, xm, xA, xn, xc, xs, xp⟩ = v := ⟨_, rfl⟩
      rw [hv] at hg HV
      have HG2 := Lib.hid hg
      clear hlt hb hc hx hv hg hkl
      cases v with
      | true =>
        go_wp2_with fail
        refine HV.out.mono ?_
        rintro e w1 ⟨rfl, hb1⟩
        have HB1 := Lib.hid (below_trans' HB.out hb1)
        clear hb1
        go_wp2_with fail
        case roundEnd =>
          refine ⟨⟨k + 1, by omega, rfl, Lib.hid (HG2.out.trans (Bool.true_and _)), HB1.out⟩, ?_⟩
          simp only [intOf]; omega
      | false =>
        go_wp2_with fail
        refine HV.out.mono ?_
        rintro e w1 ⟨rfl, hb1⟩
        have HB1 := Lib.hid (below_trans' HB.out hb1)
        clear hb1
        go_wp2_with fail
        go_ret
        refine ⟨_, rfl, ?_, HB1.out⟩
        rw [HG2.out, Bool.false_and]
        simp
    · have hlt' : ¬ (k : Int) < (n : Int) := by omega
      obtain rfl : k = n := by omega
      have hg := HG.out
      rw [List.drop_of_length_le (by rw [HN.out]; exact Nat.le_refl _)] at hg
      have HG2 := Lib.hid hg
      clear hg
      go_wp2_with fail
      go_ret
      refine ⟨_, rfl, ?_, HB.out⟩
      rw [HG2.out]
      rfl
set_option maxRecDepth 100000 in
theorem contains_val (A : Option Addr) (n c : Nat) (l : List Cm) (w : World) (h : IsCms w A n c l) :
    Calls Tryd.prog 41 #[.slice A n c, .func (.func 42) #[] #[]] w fun e w' => e = .returned (.bool (!(l.all cmB))) ∧ Below w.heap.size w w' := by
  have HI := Lib.hid (index_val A n c l w h)
  clear h
  go_enter Tryd.func41, Tryd.ntmps41
  go_wp2_with fail
  refine HI.out.mono ?_
  rintro e w1 ⟨z, rfl, hz, hb1⟩
  have HB1 := Lib.hid hb1
  have HZ := Lib.hid hz
  clear hb1 hz
  go_wp2_with fail
  go_ret
  rw [← HZ.out]
  exact ⟨rfl, HB1.out⟩
/-- Are commands valid? -/
def validB (l : List Cm) : Bool := decide (l.length ≤ 300) && l.all cmB
set_option maxRecDepth 100000 in
theorem valid_val (A : Option Addr) (n c : Nat) (l : List Cm) (w : World) (h : IsCms w A n c l) :
    Calls Tryd.prog 23 #[.slice A n c] w fun e w' => e = .returned (.bool (validB l)) ∧ Below w.heap.size w w' := by
  have HC := Lib.hid (contains_val A n c l w h)
  have hn := h.1
  by_cases h3 : n ≤ 300
  · have hb : (n : Int) ≤ 300 := by omega
    have HR : Hid (validB l = l.all cmB) := Lib.hid (by unfold validB; rw [hn, decide_eq_true h3, Bool.true_and])
    clear h hn h3
    go_enter Tryd.func23, Tryd.ntmps23
    go_wp2_with fail
    refine HC.out.mono ?_
    rintro e w1 ⟨rfl, hb1⟩
    have HB1 := Lib.hid hb1
    clear hb1
    go_wp2_with fail
    go_ret
    rw [HR.out]
    exact ⟨by simp, HB1.out⟩
  · have hb : ¬ (n : Int) ≤ 300 := by omega
    have HR : Hid (validB l = false) := Lib.hid (by unfold validB; rw [hn, decide_eq_false h3, Bool.false_and])
    clear h hn h3
    go_enter Tryd.func23, Tryd.ntmps23
    go_wp2_with fail
    go_ret
    rw [HR.out]
    exact ⟨rfl, Below.refl _ _⟩
end Go.Proofs.YtbgekgakamincaaDoor.Pr

/- The reference's forms. -/
namespace Go.Proofs.YtbgekgakamincaaDoor.Pr
open Go.RowKit Go.Proofs.YtbgekgakamincaaDoor.Lx
set_option linter.unusedVariables false

/-- The form of a kind. -/
def formB (k : Int) : ByteArray :=
  if k = 1 then ⟨#[109, 101, 115, 104, 32, 100, 97, 116, 97, 32, 35, 32, 114, 97, 110, 103, 101, 32, 35]⟩
  else if k = 2 then ⟨#[114, 111, 111, 116, 32, 110, 32, 97, 116, 32, 35, 32, 35]⟩
  else if k = 3 then ⟨#[110, 111, 100, 101, 32, 110, 32, 97, 116, 32, 35, 32, 35, 32, 100, 32, 98, 97, 116, 116, 101, 114, 121, 32, 35]⟩
  else if k = 4 then ⟨#[97, 116, 32, 35, 32, 109, 111, 118, 101, 32, 110, 32, 35, 32, 35]⟩
  else if k = 5 then ⟨#[97, 116, 32, 35, 32, 102, 97, 105, 108, 32, 110]⟩
  else if k = 6 then ⟨#[97, 116, 32, 35, 32, 115, 116, 97, 114, 116, 32, 110]⟩
  else if k = 7 then ⟨#[97, 116, 32, 35, 32, 114, 101, 97, 100, 32, 110, 32, 35]⟩
  else if k = 8 then ⟨#[97, 116, 32, 35, 32, 106, 97, 109, 32, 35, 32, 35, 32, 114, 97, 100, 105, 117, 115, 32, 35, 32, 99, 104, 97, 110, 110, 101, 108, 32, 35, 32, 102, 111, 114, 32, 35]⟩
  else if k = 9 then ⟨#[97, 116, 32, 35, 32, 114, 101, 112, 108, 97, 121, 32, 35, 32, 97, 116, 32, 35, 32, 35]⟩
  else if k = 10 then ⟨#[97, 116, 32, 35, 32, 112, 114, 111, 103, 114, 97, 109, 32, 35, 32, 115, 105, 122, 101, 32, 35]⟩
  else if k = 11 then ⟨#[114, 117, 110, 32, 35]⟩
  else ⟨#[]⟩
set_option maxRecDepth 100000 in
set_option maxHeartbeats 2000000 in
theorem form_val (k : Int) (w : World) :
    Calls Tryd.prog 47 #[.int .i64 k] w fun e w' => e = .returned (.string (formB k)) ∧ w = w' := by
  by_cases h1 : k = 1 ∨ k = 2 ∨ k = 3 ∨ k = 4 ∨ k = 5 ∨ k = 6 ∨ k = 7 ∨ k = 8 ∨ k = 9 ∨ k = 10 ∨ k = 11
  · rcases h1 with rfl | rfl | rfl | rfl | rfl | rfl | rfl | rfl | rfl | rfl | rfl <;>
    · go_enter Tryd.func47, Tryd.ntmps47
      go_wp2_with fail
      go_ret
      exact ⟨rfl, rfl⟩
  · have hs : formB k = ⟨#[]⟩ := by
      unfold formB
      rw [if_neg (by omega), if_neg (by omega), if_neg (by omega), if_neg (by omega), if_neg (by omega), if_neg (by omega), if_neg (by omega), if_neg (by omega), if_neg (by omega), if_neg (by omega), if_neg (by omega)]
    have HS := Lib.hid hs
    have f1 : (k == 1) = false := by rw [beq_eq_false_iff_ne]; omega
    have f2 : (k == 2) = false := by rw [beq_eq_false_iff_ne]; omega
    have f3 : (k == 3) = false := by rw [beq_eq_false_iff_ne]; omega
    have f4 : (k == 4) = false := by rw [beq_eq_false_iff_ne]; omega
    have f5 : (k == 5) = false := by rw [beq_eq_false_iff_ne]; omega
    have f6 : (k == 6) = false := by rw [beq_eq_false_iff_ne]; omega
    have f7 : (k == 7) = false := by rw [beq_eq_false_iff_ne]; omega
    have f8 : (k == 8) = false := by rw [beq_eq_false_iff_ne]; omega
    have f9 : (k == 9) = false := by rw [beq_eq_false_iff_ne]; omega
    have f10 : (k == 10) = false := by rw [beq_eq_false_iff_ne]; omega
    have f11 : (k == 11) = false := by rw [beq_eq_false_iff_ne]; omega
    clear h1 hs
    go_enter Tryd.func47, Tryd.ntmps47
    go_wp2_with fail
    go_ret
    rw [HS.out]
    exact ⟨rfl, rfl⟩
end Go.Proofs.YtbgekgakamincaaDoor.Pr

/- The reference's words and names. -/
namespace Go.Proofs.YtbgekgakamincaaDoor.Pr
open Go.RowKit Go.Proofs.YtbgekgakamincaaDoor.Lx
set_option linter.unusedVariables false

def kwV : Array Value := (kw.map fun k => Value.string ⟨k.toArray⟩).toArray
set_option maxRecDepth 100000 in
theorem words_val (w : World) :
    Calls Tryd.prog 71 #[] w fun e w' => e = .returned (.slice (some ⟨w.heap.size, 0, none⟩) 21 21) ∧ w' = w.alloc (.cells kwV 9) := by
  go_enter Tryd.func71, Tryd.ntmps71
  go_wp2_with fail
  go_ret
  exact ⟨rfl, rfl⟩
set_option maxRecDepth 100000 in
set_option maxHeartbeats 2000000 in
theorem rname_val (s : ByteArray) (hs : s.size ≤ maxLen) (w : World) :
    Calls Tryd.prog 49 #[.string s] w fun e w' => e = .returned (.bool (nameB s)) ∧ Below w.heap.size w w' := by
  have hs' := hs
  unfold maxLen at hs'
  have HW := Lib.hid words_val
  have HL : Hid (s.data.toList.length = s.size) := Lib.hid Array.length_toList
  go_enter Tryd.func49, Tryd.ntmps49
  go_wp2_with fail
  go_loopw [3] (fun i wr => ∃ (k : Nat), k ≤ s.size ∧ i = i64 (k : Nat) ∧ Hid (chsB 0 s.data.toList = chsB k (s.data.toList.drop k)) ∧ w = wr) (fun i _ => s.size - (intOf i).toNat)
  case atStart => exact ⟨0, Nat.zero_le _, rfl, Lib.hid rfl, rfl⟩
  case round =>
    obtain ⟨k, hk, rfl, HG, rfl⟩ := hrel
    by_cases hlt : k < s.size
    · have hlt' : (k : Int) < (s.size : Int) := by omega
      have hg := HG.out
      rw [List.drop_eq_getElem_cons (by rw [HL.out]; exact hlt)] at hg
      obtain ⟨b, hb⟩ : ∃ b, s[k] = b := ⟨_, rfl⟩
      have hbb : s.data.toList[k]'(by rw [HL.out]; exact hlt) = b := hb
      rw [hbb] at hg
      simp only [chsB] at hg
      clear hbb
      by_cases q1 : b.toNat < 97
      · have f1 : (b.toNat : Int) < 97 := by omega
        have hch0 : chB k b = (decide (k ≠ 0) && (decide (b.toNat = 95) || decide (48 ≤ b.toNat ∧ b.toNat ≤ 57))) := by
          unfold chB; rw [cls3_dec, decide_eq_false (fun h => by omega), Bool.false_or, cls4_dec]
        by_cases q2 : k = 0
        · have f2 : ((k : Int) == 0) = true := by rw [beq_iff_eq]; omega
          have hch : chB k b = false := by rw [hch0, decide_eq_false (fun h => h q2), Bool.false_and]
          clear q1 q2 hch0
          rw [hch, Bool.false_and] at hg
          have HG2 : Hid (nameB s = false) := Lib.hid (by unfold nameB; rw [hg]; simp)
          clear hg hch
          go_wp2_with fail
          go_ret
          rw [HG2.out]
          exact ⟨rfl, Below.refl _ _⟩
        · have f2 : ((k : Int) == 0) = false := by rw [beq_eq_false_iff_ne]; omega
          rw [decide_eq_true q2, Bool.true_and] at hch0
          by_cases q3 : b.toNat = 95
          · have f3 : ((b.toNat : Int) != 95) = false := by rw [bne_eq_false_iff_eq]; omega
            have f4 : ¬ (b.toNat : Int) < 48 := by omega
            have f5 : (57 : Int) < (b.toNat : Int) := by omega
            have hch : chB k b = true := by rw [hch0, decide_eq_true q3, Bool.true_or]
            clear q1 q2 q3 hch0
            rw [hch, Bool.true_and] at hg
            have HG2 := Lib.hid hg
            clear hg hch
            go_wp2_with fail
            case roundEnd =>
              refine ⟨⟨k + 1, by omega, rfl, Lib.hid HG2.out, trivial⟩, ?_⟩
              simp only [intOf]; omega
          · have f3 : ((b.toNat : Int) != 95) = true := by rw [bne_iff_ne]; omega
            rw [decide_eq_false q3, Bool.false_or] at hch0
            by_cases q4 : b.toNat < 48
            · have f4 : (b.toNat : Int) < 48 := by omega
              have hch : chB k b = false := by rw [hch0, decide_eq_false (fun h => by omega)]
              clear q1 q2 q3 q4 hch0
              rw [hch, Bool.false_and] at hg
              have HG2 : Hid (nameB s = false) := Lib.hid (by unfold nameB; rw [hg]; simp)
              clear hg hch
              go_wp2_with fail
              go_ret
              rw [HG2.out]
              exact ⟨rfl, Below.refl _ _⟩
            · have f4 : ¬ (b.toNat : Int) < 48 := by omega
              by_cases q5 : 57 < b.toNat
              · have f5 : (57 : Int) < (b.toNat : Int) := by omega
                have hch : chB k b = false := by rw [hch0, decide_eq_false (fun h => by omega)]
                clear q1 q2 q3 q4 q5 hch0
                rw [hch, Bool.false_and] at hg
                have HG2 : Hid (nameB s = false) := Lib.hid (by unfold nameB; rw [hg]; simp)
                clear hg hch
                go_wp2_with fail
                go_ret
                rw [HG2.out]
                exact ⟨rfl, Below.refl _ _⟩
              · have f5 : ¬ (57 : Int) < (b.toNat : Int) := by omega
                have hch : chB k b = true := by rw [hch0, decide_eq_true (by omega)]
                clear q1 q2 q3 q4 q5 hch0
                rw [hch, Bool.true_and] at hg
                have HG2 := Lib.hid hg
                clear hg hch
                go_wp2_with fail
                case roundEnd =>
                  refine ⟨⟨k + 1, by omega, rfl, Lib.hid HG2.out, trivial⟩, ?_⟩
                  simp only [intOf]; omega
      · have f1 : ¬ (b.toNat : Int) < 97 := by omega
        by_cases q2 : b.toNat ≤ 122
        · have f2 : ¬ (122 : Int) < (b.toNat : Int) := by omega
          have hch : chB k b = true := by unfold chB; rw [cls3_dec, decide_eq_true (by omega), Bool.true_or]
          clear q1 q2
          rw [hch, Bool.true_and] at hg
          have HG2 := Lib.hid hg
          clear hg hch
          go_wp2_with fail
          case roundEnd =>
            refine ⟨⟨k + 1, by omega, rfl, Lib.hid HG2.out, trivial⟩, ?_⟩
            simp only [intOf]; omega
        · have f2 : (122 : Int) < (b.toNat : Int) := by omega
          have hch0 : chB k b = decide (k ≠ 0 ∧ False) := by
            unfold chB; rw [cls3_dec, decide_eq_false (fun h => by omega), Bool.false_or, cls4_dec, decide_eq_false (fun h => by omega : ¬ b.toNat = 95), decide_eq_false (fun h => by omega : ¬ (48 ≤ b.toNat ∧ b.toNat ≤ 57))]
            simp
          have hch : chB k b = false := by rw [hch0]; simp
          have f3 : ((b.toNat : Int) != 95) = true := by rw [bne_iff_ne]; omega
          have f4 : ¬ (b.toNat : Int) < 48 := by omega
          have f5 : (57 : Int) < (b.toNat : Int) := by omega
          clear q1 q2 hch0
          by_cases q3 : k = 0
          · have f6 : ((k : Int) == 0) = true := by rw [beq_iff_eq]; omega
            clear q3
            rw [hch, Bool.false_and] at hg
            have HG2 : Hid (nameB s = false) := Lib.hid (by unfold nameB; rw [hg]; simp)
            clear hg hch
            go_wp2_with fail
            go_ret
            rw [HG2.out]
            exact ⟨rfl, Below.refl _ _⟩
          · have f6 : ((k : Int) == 0) = false := by rw [beq_eq_false_iff_ne]; omega
            clear q3
            rw [hch, Bool.false_and] at hg
            have HG2 : Hid (nameB s = false) := Lib.hid (by unfold nameB; rw [hg]; simp)
            clear hg hch
            go_wp2_with fail
            go_ret
            rw [HG2.out]
            exact ⟨rfl, Below.refl _ _⟩
    · have hlt' : ¬ (k : Int) < (s.size : Int) := by omega
      obtain rfl : k = s.size := by omega
      have hg := HG.out
      rw [List.drop_of_length_le (by rw [HL.out]; exact Nat.le_refl _)] at hg
      have HR : Hid (nameB s = (decide (s.size ≠ 0) && (decide (s.size ≤ 12) && !wordB s))) := Lib.hid (by unfold nameB; rw [hg]; simp [chsB])
      clear hg
      go_wp2_with fail
      refine (HW.out _).mono ?_
      rintro e w1 ⟨rfl, hw1⟩
      have HB1 : Hid (Below w.heap.size w w1) := Lib.hid (by rw [hw1]; exact (Below.refl _ w).alloc (Nat.le_refl _) _)
      have BX : Hid (Blk w1 w.heap.size 9 kwV) := Lib.hid (by rw [hw1]; exact Blk.new w _ _)
      clear hw1
      go_wp2_with fail
      go_loopw [6] (fun i wr => ∃ (j : Nat), j ≤ 21 ∧ i = i64 (j : Nat) ∧ Hid (wordB s = (kw.drop j).any fun k => s.toList == k) ∧ w1 = wr) (fun i _ => 21 - (intOf i).toNat)
      case atStart => exact ⟨0, by omega, rfl, Lib.hid rfl, rfl⟩
      case round =>
        obtain ⟨j, hj, rfl, HG, rfl⟩ := hrel
        by_cases hjl : j < 21
        · have hjl' : (j : Int) < 21 := by omega
          have hjk : j < kw.length := hjl
          have hg := HG.out
          rw [List.drop_eq_getElem_cons hjk, List.any_cons] at hg
          obtain ⟨kj, hkj⟩ : ∃ kj, kw[j] = kj := ⟨_, rfl⟩
          rw [hkj] at hg
          have hc : w1.cell? ⟨w.heap.size, j, none⟩ = some (.string ⟨kj.toArray⟩) := by
            rw [BX.out.cell j, ← hkj]
            unfold kwV
            rw [List.getElem?_toArray, List.getElem?_map, List.getElem?_eq_getElem hjk]
            rfl
          have hkb : (⟨kj.toArray⟩ : ByteArray).toList = kj := by rw [Lib.toList_data]
          obtain ⟨K, hK⟩ : ∃ K : ByteArray, ⟨kj.toArray⟩ = K := ⟨_, rfl⟩
          rw [hK] at hc hkb
          obtain ⟨v, hv⟩ : ∃ v, (s.toList == kj) = v := ⟨_, rfl⟩
          rw [hv] at hg
          have hv' : (K.toList == s.toList) = v := by rw [hkb, ← hv]; exact BEq.comm
          clear hK hkb hkj hjk hv hjl
          cases v with
          | true =>
            have HG2 : Hid (nameB s = false) := Lib.hid (by rw [HR.out, hg]; simp)
            clear hg
            go_wp2_with fail
            go_ret
            rw [HG2.out]
            exact ⟨rfl, HB1.out⟩
          | false =>
            have HG2 := Lib.hid hg
            clear hg
            go_wp2_with fail
            case roundEnd =>
              refine ⟨⟨j + 1, by omega, rfl, Lib.hid (HG2.out.trans (Bool.false_or _)), trivial⟩, ?_⟩
              simp only [intOf]; omega
        · have hjl' : ¬ (j : Int) < 21 := by omega
          obtain rfl : j = 21 := by omega
          have hg := HG.out
          have hwf : wordB s = false := by rw [hg]; rfl
          rw [hwf] at HR
          by_cases h0 : s.size = 0
          · have f1 : ¬ (1 : Int) ≤ (s.size : Int) := by omega
            have HG2 : Hid (nameB s = false) := Lib.hid (by rw [HR.out, decide_eq_false (fun h => h h0)]; rfl)
            clear hg hwf h0
            go_wp2_with fail
            go_ret
            rw [HG2.out]
            exact ⟨rfl, HB1.out⟩
          · have f1 : (1 : Int) ≤ (s.size : Int) := by omega
            by_cases h12 : s.size ≤ 12
            · have f2 : (s.size : Int) ≤ 12 := by omega
              have HG2 : Hid (nameB s = true) := Lib.hid (by rw [HR.out, decide_eq_true h0, decide_eq_true h12]; rfl)
              clear hg hwf h0 h12
              go_wp2_with fail
              go_ret
              rw [HG2.out]
              exact ⟨rfl, HB1.out⟩
            · have f2 : ¬ (s.size : Int) ≤ 12 := by omega
              have HG2 : Hid (nameB s = false) := Lib.hid (by rw [HR.out, decide_eq_true h0, decide_eq_false h12]; rfl)
              clear hg hwf h0 h12
              go_wp2_with fail
              go_ret
              rw [HG2.out]
              exact ⟨rfl, HB1.out⟩
end Go.Proofs.YtbgekgakamincaaDoor.Pr

/- Cuts of strings and of tokens. -/
namespace Go.Proofs.YtbgekgakamincaaDoor.Lx
open Go.RowKit
set_option linter.unusedVariables false

def strT (s : ByteArray) (p : Nat) : ByteArray := ⟨(s.data.toList.take p).toArray⟩
def strD (s : ByteArray) (p : Nat) : ByteArray := ⟨(s.data.toList.drop p).toArray⟩
theorem strT_list (s : ByteArray) (p : Nat) : (strT s p).data.toList = s.data.toList.take p := rfl
theorem strD_list (s : ByteArray) (p : Nat) : (strD s p).data.toList = s.data.toList.drop p := rfl
theorem strT_size {s : ByteArray} {p : Nat} (h : p ≤ s.size) : (strT s p).size = p := by
  show (s.data.toList.take p).toArray.size = p
  have hl : s.data.toList.length = s.size := Array.length_toList
  rw [List.size_toArray, List.length_take]; omega
theorem strD_size (s : ByteArray) (p : Nat) : (strD s p).size = s.size - p := by
  show (s.data.toList.drop p).toArray.size = _
  have hl : s.data.toList.length = s.size := Array.length_toList
  rw [List.size_toArray, List.length_drop]; omega
theorem add_list (a b : ByteArray) : (a ++ b).data.toList = a.data.toList ++ b.data.toList := by
  rw [ByteArray.data_append, Array.toList_append]
theorem cut_to (s : ByteArray) (p : Nat) (h : p ≤ s.size) (w : World) :
    (Instr.slice 9 (.string s) none (some (.int .i64 (p : Int))) none).run Tryd.prog w = .ok (.string (strT s p)) w := by
  rw [run_slice_string_h w 9 s Tryd.underlying9 .i64 _ (by omega) (by omega), Int.toNat_natCast]
  have e := extract_eq s 0 p
  rw [Nat.zero_add, List.drop_zero] at e
  rw [e]; rfl
theorem cut_from (s : ByteArray) (p : Nat) (h : p ≤ s.size) (w : World) :
    (Instr.slice 9 (.string s) (some (.int .i64 (p : Int))) none none).run Tryd.prog w = .ok (.string (strD s p)) w := by
  rw [run_slice_string_l w 9 s Tryd.underlying9 .i64 _ (by omega) (by omega), Int.toNat_natCast]
  have e := extract_eq s p (s.size - p)
  have hl : s.data.toList.length = s.size := Array.length_toList
  rw [show p + (s.size - p) = s.size by omega, List.take_of_length_le (by rw [List.length_drop]; omega)] at e
  rw [e]; rfl
def strM (s : ByteArray) (a b : Nat) : ByteArray := ⟨((s.data.toList.take b).drop a).toArray⟩
theorem cut_mid (s : ByteArray) (a b : Nat) (h : a ≤ b) (hb : b ≤ s.size) (w : World) :
    (Instr.slice 9 (.string s) (some (.int .i64 (a : Int))) (some (.int .i64 (b : Int))) none).run Tryd.prog w = .ok (.string (strM s a b)) w := by
  rw [run_slice_string w 9 s .i64 .i64 _ _ Tryd.underlying9 (by omega) (by omega) (by omega), Int.toNat_natCast, Int.toNat_natCast]
  have e := extract_eq s a (b - a)
  rw [show a + (b - a) = b by omega] at e
  rw [e]
  unfold strM
  rw [List.drop_take]

theorem size_tok (w : World) : (sizeOf (Tryd.prog.elem 29)).run Tryd.prog w = .ok 4 w := by kernel_rfl
theorem elem_tok : Tryd.prog.underlying 29 = some (.slice (Tryd.prog.elem 29)) := by kernel_rfl
theorem toks_to (A : Option Addr) (n c k : Nat) (hk : k ≤ c) (w : World) : (Instr.slice 29 (.slice A n c) none (some (.int .i64 (k : Int))) none).run Tryd.prog w = .ok (.slice A k c) w := by
  rw [run_slice_h w 29 A n c elem_tok .i64 _ (by omega) (by omega), size_tok]
  show Result.ok (sliced A 0 (Int.toNat (k : Int)) c 4) w = _
  unfold sliced
  rw [Int.toNat_natCast, Nat.zero_mul, Nat.sub_zero, Nat.sub_zero]
  congr 2
  split
  · rfl
  · cases A <;> rfl
def cutA (A : Option Addr) (c k : Nat) : Option Addr := if c = k then A else A.map (·.add (k * 4))
theorem toks_from (A : Option Addr) (n c k : Nat) (hk : k ≤ n) (w : World) : (Instr.slice 29 (.slice A n c) (some (.int .i64 (k : Int))) none none).run Tryd.prog w = .ok (.slice (cutA A c k) (n - k) (c - k)) w := by
  rw [run_slice_l w 29 A n c elem_tok .i64 _ (by omega) (by omega), size_tok]
  show Result.ok (sliced A (Int.toNat (k : Int)) n c 4) w = _
  unfold sliced
  rw [Int.toNat_natCast]
  rfl
theorem flat_takeT : ∀ (l : List Tok) (n : Nat), (l.flatMap decT).take (n * 4) = (l.take n).flatMap decT
  | [], n => by simp
  | a :: l, 0 => by simp
  | a :: l, n + 1 => by
    have hf : (decT a).length = 4 := rfl
    rw [List.flatMap_cons, List.take_succ_cons, List.flatMap_cons, Nat.add_mul, Nat.one_mul, List.take_append, hf]
    rw [List.take_of_length_le (by rw [hf]; omega), show n * 4 + 4 - 4 = n * 4 by omega, flat_takeT l n]
theorem flat_dropT : ∀ (l : List Tok) (n : Nat), (l.flatMap decT).drop (n * 4) = (l.drop n).flatMap decT
  | [], n => by simp
  | a :: l, 0 => by simp
  | a :: l, n + 1 => by
    have hf : (decT a).length = 4 := rfl
    rw [List.flatMap_cons, List.drop_succ_cons, Nat.add_mul, Nat.one_mul, List.drop_append, List.drop_of_length_le (by rw [hf]; omega), List.nil_append, hf, show n * 4 + 4 - 4 = n * 4 by omega, flat_dropT l n]
theorem Toks.take {w : World} {A : Option Addr} {n c : Nat} {ts : List Tok} (h : Toks w A n c ts) {k : Nat} (hk : k ≤ n) : Toks w A k c (ts.take k) := by
  obtain ⟨h1, h2, h3, h4⟩ := h
  exact ⟨by rw [← flat_takeT]; exact h1.take hk, by rw [List.length_take]; omega, by omega, h4⟩
theorem Toks.drop {w : World} {A : Option Addr} {n c : Nat} {ts : List Tok} (h : Toks w A n c ts) {k : Nat} (hk : k ≤ n) : Toks w (cutA A c k) (n - k) (c - k) (ts.drop k) := by
  obtain ⟨h1, h2, h3, h4⟩ := h
  refine ⟨⟨by rw [← flat_dropT, List.length_drop, h1.1, Nat.sub_mul], fun hn => ?_⟩, by rw [List.length_drop]; omega, by omega, by omega⟩
  obtain ⟨b, off, e, hb, hc⟩ := h1.2 (by omega)
  have hck : c ≠ k := by omega
  refine ⟨b, off + k * 4, ?_, hb, fun j u hu => ?_⟩
  · unfold cutA; rw [if_neg hck, e]; simp [Addr.add]
  · rw [Nat.add_assoc]
    refine hc _ u ?_
    rw [← flat_dropT, List.getElem?_drop] at hu
    exact hu
end Go.Proofs.YtbgekgakamincaaDoor.Lx

/- The reference's Parts. -/
namespace Go.Proofs.YtbgekgakamincaaDoor.Pr
open Go.RowKit Go.Proofs.YtbgekgakamincaaDoor.Lx
set_option linter.unusedVariables false

def partsL (acc : List UInt8) : List UInt8 → List (List UInt8)
  | [] => [acc]
  | c :: r => if c.toNat = 32 then acc :: partsL [] r else partsL (acc ++ [c]) r
def strV (l : List UInt8) : Value := .string ⟨l.toArray⟩
/-- Strings in memory that a call has made. -/
def Strs (B : Nat) (w : World) (A : Option Addr) (n c : Nat) (l : List (List UInt8)) : Prop := w.ownsRow B 9 1 (.slice A n c) n (l.map strV) ∧ l.length = n
theorem info_str : (Tryd.prog.info? 9).map (fun i => (i.zero, i.size, i.bytes)) = some (some (.string ⟨#[]⟩), 1, 16) := by kernel_rfl

theorem one_str (l : List (List UInt8)) : ∀ u ∈ l.map strV, u.oneCell' = true := by
  intro u hu
  obtain ⟨x, _, rfl⟩ := List.mem_map.1 hu
  rfl
set_option maxRecDepth 100000 in
set_option maxHeartbeats 2000000 in
theorem parts_val (s : ByteArray) (hs : s.size ≤ 1000) (w : World) :
    Calls Tryd.prog 81 #[.string s] w fun e w' => ∃ A n c, e = .returned (.slice A n c) ∧ Strs w.heap.size w' A n c (partsL [] s.data.toList) ∧ Below w.heap.size w w' := by
  obtain ⟨i0, hi, hz0, hz1, hz2⟩ := info_parts info_str
  have HL : Hid (s.data.toList.length = s.size) := Lib.hid Array.length_toList
  go_enter Tryd.func81, Tryd.ntmps81
  go_wp2_with fail
  go_loopw [3, 4, 5] (fun o f i wr => ∃ (k q n c : Nat) (A : Option Addr) (out : List (List UInt8)), k ≤ s.size + 1 ∧ q ≤ k ∧ n ≤ k ∧ o = .slice A n c ∧ f = i64 (q : Nat) ∧ i = i64 (k : Nat) ∧ Hid (Strs w.heap.size wr A n c out) ∧
    Hid (partsL [] s.data.toList = out ++ (if k ≤ s.size then partsL ((s.data.toList.take k).drop q) (s.data.toList.drop k) else [])) ∧ Below w.heap.size w wr) (fun _ _ i _ => s.size + 1 - (intOf i).toNat)
  case atStart => exact ⟨0, 0, 0, 0, none, [], Nat.zero_le _, Nat.le_refl _, Nat.le_refl _, rfl, rfl, rfl, Lib.hid ⟨World.ownsRow_nil _ _ _ _, rfl⟩, Lib.hid (by rw [if_pos (Nat.zero_le _)]; rfl), Below.refl _ _⟩
  case round =>
    obtain ⟨k, q, n, c, A, out, hk, hq, hn, rfl, rfl, rfl, HS, HG, hB⟩ := hrel
    have HB := Lib.hid hB
    clear hB
    by_cases hlt : k ≤ s.size
    · have hlt' : (k : Int) ≤ (s.size : Int) := by omega
      have hcm := cut_mid s q k hq hlt
      have hpc : strM s q k = ⟨((s.data.toList.take k).drop q).toArray⟩ := rfl
      rw [hpc] at hcm
      have hR := rd_fresh wr 9 #[strV ((s.data.toList.take k).drop q)] 1 1 [strV ((s.data.toList.take k).drop q)] rfl rfl
      have HR := Lib.hid hR
      have HO := Lib.hid (HS.out.1.kept (World.grownBy_alloc wr (.cells #[strV ((s.data.toList.take k).drop q)] 9) none) (Classical.em _))
      have HBa : Hid (Below w.heap.size w (wr.alloc (.cells #[strV ((s.data.toList.take k).drop q)] 9))) := Lib.hid (HB.out.alloc HB.out.size _)
      unfold strV at HR HO HBa
      clear hR hpc
      have hg := HG.out
      rw [if_pos hlt] at hg
      by_cases hend : k = s.size
      · subst hend
        rw [show s.data.toList.drop s.size = [] from List.drop_of_length_le (by rw [HL.out]; exact Nat.le_refl _)] at hg
        have HG2 := Lib.hid hg
        clear hg
        go_wp2_with (at_builtin; refine wpList_append_rd _ rfl (.tmp 22) (.tmp 27) _ rfl w.heap.size 9 i0 _ 1 16 Tryd.underlying108 hi hz0 hz1 hz2 rfl (by decide) _ n _ rfl HO.out _ (some ⟨wr.heap.size, 0, none⟩) 1 1 _ rfl HR.out (one_str [(s.data.toList.take s.size).drop q]) (by simp only [maxLen]; omega) (by omega) HBa.out.size ?_; intro Aa ca w5 hown1 hfm hg1; have HS5 : Hid (Strs w.heap.size w5 Aa (n + 1) ca (out ++ [(s.data.toList.take s.size).drop q])) := Lib.hid ⟨by rw [List.map_append]; exact hown1, by rw [List.length_append, HS.out.2]; rfl⟩; have HB5 := Lib.hid (own_below HO.out hg1 HBa.out (Nat.le_refl _) HBa.out.size); clear hown1 hfm hg1)
        case roundEnd =>
          refine ⟨⟨s.size + 1, s.size + 1, n + 1, ca, Aa, out ++ [(s.data.toList.take s.size).drop q], Nat.le_refl _, Nat.le_refl _, by omega, rfl, rfl, rfl, HS5, Lib.hid ?_, HB5.out⟩, ?_⟩
          · rw [if_neg (by omega), List.append_nil, HG2.out]; rfl
          · simp only [intOf]; omega
      · have hkl : k < s.data.toList.length := by rw [HL.out]; omega
        have he : ((k : Int) == (s.size : Int)) = false := by rw [beq_eq_false_iff_ne]; omega
        have hlt2 : (k : Int) < (s.size : Int) := by omega
        obtain ⟨b, hb⟩ : ∃ b, s[k]'(by omega) = b := ⟨_, rfl⟩
        have hbb : s.data.toList[k] = b := hb
        rw [List.drop_eq_getElem_cons hkl, hbb] at hg
        simp only [partsL] at hg
        by_cases h32 : b.toNat = 32
        · have e32 : ((b.toNat : Int) == 32) = true := by rw [beq_iff_eq]; omega
          rw [if_pos h32] at hg
          have HG2 := Lib.hid hg
          clear hg hbb h32
          go_wp2_with (at_builtin; refine wpList_append_rd _ rfl (.tmp 22) (.tmp 27) _ rfl w.heap.size 9 i0 _ 1 16 Tryd.underlying108 hi hz0 hz1 hz2 rfl (by decide) _ n _ rfl HO.out _ (some ⟨wr.heap.size, 0, none⟩) 1 1 _ rfl HR.out (one_str [(s.data.toList.take k).drop q]) (by simp only [maxLen]; omega) (by omega) HBa.out.size ?_; intro Aa ca w5 hown1 hfm hg1; have HS5 : Hid (Strs w.heap.size w5 Aa (n + 1) ca (out ++ [(s.data.toList.take k).drop q])) := Lib.hid ⟨by rw [List.map_append]; exact hown1, by rw [List.length_append, HS.out.2]; rfl⟩; have HB5 := Lib.hid (own_below HO.out hg1 HBa.out (Nat.le_refl _) HBa.out.size); clear hown1 hfm hg1)
          case roundEnd =>
            refine ⟨⟨k + 1, k + 1, n + 1, ca, Aa, out ++ [(s.data.toList.take k).drop q], by omega, Nat.le_refl _, by omega, rfl, rfl, rfl, HS5, Lib.hid ?_, HB5.out⟩, ?_⟩
            · rw [if_pos (by omega), HG2.out, List.append_assoc, List.drop_of_length_le (l := s.data.toList.take (k + 1)) (by rw [List.length_take]; omega)]; rfl
            · simp only [intOf]; omega
        · have e32 : ((b.toNat : Int) == 32) = false := by rw [beq_eq_false_iff_ne]; omega
          rw [if_neg h32] at hg
          have hnx : (s.data.toList.take (k + 1)).drop q = (s.data.toList.take k).drop q ++ [b] := by
            rw [List.take_succ_eq_append_getElem hkl, hbb, List.drop_append_of_le_length (by rw [List.length_take]; omega)]
          have HG2 := Lib.hid hg
          clear hg hbb h32 HR HO HBa
          go_wp2_with fail
          case roundEnd =>
            refine ⟨⟨k + 1, q, n, c, A, out, by omega, by omega, by omega, rfl, rfl, rfl, HS, Lib.hid ?_, HB.out⟩, ?_⟩
            · rw [if_pos (by omega), hnx]; exact HG2.out
            · simp only [intOf]; omega
    · have hlt' : ¬ (k : Int) ≤ (s.size : Int) := by omega
      have hg := HG.out
      rw [if_neg hlt, List.append_nil] at hg
      have HG2 := Lib.hid hg
      clear hg
      go_wp2_with fail
      go_ret
      refine ⟨A, n, c, rfl, ?_, HB.out⟩
      rw [HG2.out]
      exact HS.out
end Go.Proofs.YtbgekgakamincaaDoor.Pr

/- The reference's expanded. -/
namespace Go.Proofs.YtbgekgakamincaaDoor.Pr
open Go.RowKit Go.Proofs.YtbgekgakamincaaDoor.Lx
set_option linter.unusedVariables false

def expF : List (List UInt8) → List (List UInt8)
  | [] => []
  | x :: r => if x = [100] then x :: [35] :: expF r else x :: expF r
/-- The parts of a kind's form, a drift's two, the semicolon. -/
def expL (k : Int) : List (List UInt8) := expF (partsL [] (formB k).data.toList) ++ [[59]]
theorem form_none {k : Int} (h1 : ¬ (k = 1 ∨ k = 2 ∨ k = 3 ∨ k = 4 ∨ k = 5 ∨ k = 6 ∨ k = 7 ∨ k = 8 ∨ k = 9 ∨ k = 10 ∨ k = 11)) : formB k = ⟨#[]⟩ := by
  unfold formB
  rw [if_neg (by omega), if_neg (by omega), if_neg (by omega), if_neg (by omega), if_neg (by omega), if_neg (by omega), if_neg (by omega), if_neg (by omega), if_neg (by omega), if_neg (by omega), if_neg (by omega)]
theorem form_size (k : Int) : (formB k).size ≤ 100 := by
  by_cases h1 : k = 1 ∨ k = 2 ∨ k = 3 ∨ k = 4 ∨ k = 5 ∨ k = 6 ∨ k = 7 ∨ k = 8 ∨ k = 9 ∨ k = 10 ∨ k = 11
  · rcases h1 with rfl | rfl | rfl | rfl | rfl | rfl | rfl | rfl | rfl | rfl | rfl <;> decide
  · rw [form_none h1]; decide
theorem expF_append : ∀ (a b : List (List UInt8)), expF (a ++ b) = expF a ++ expF b
  | [], b => rfl
  | x :: a, b => by
    rw [List.cons_append]
    simp only [expF]
    split
    · rw [expF_append a b]; rfl
    · rw [expF_append a b]; rfl
theorem partsL_len : ∀ (l acc : List UInt8), (partsL acc l).length ≤ l.length + 1
  | [], acc => Nat.le_refl _
  | c :: r, acc => by
    simp only [partsL]
    split
    · have := partsL_len r []; simp only [List.length_cons]; omega
    · have := partsL_len r (acc ++ [c]); simp only [List.length_cons]; omega

set_option maxRecDepth 100000 in
set_option maxHeartbeats 2000000 in
theorem expanded_val (kd : Int) (w : World) :
    Calls Tryd.prog 70 #[.int .i64 kd] w fun e w' => ∃ A n c, e = .returned (.slice A n c) ∧ Strs w.heap.size w' A n c (expL kd) ∧ Below w.heap.size w w' := by
  obtain ⟨i0, hi, hz0, hz1, hz2⟩ := info_parts info_str
  have HF := Lib.hid (form_val kd)
  have HP := Lib.hid (parts_val (formB kd) (Nat.le_trans (form_size kd) (by decide)))
  obtain ⟨ps, hps⟩ : ∃ ps, partsL [] (formB kd).data.toList = ps := ⟨_, rfl⟩
  have hpl : ps.length ≤ 101 := by
    have h1 := partsL_len (formB kd).data.toList []
    have h2 := form_size kd
    have h3 : (formB kd).data.toList.length = (formB kd).size := Array.length_toList
    rw [← hps]; omega
  have HE : Hid (expL kd = expF ps ++ [[59]]) := Lib.hid (by unfold expL; rw [hps])
  rw [hps] at HP
  clear hps
  go_enter Tryd.func70, Tryd.ntmps70
  go_wp2_with fail
  refine (HF.out _).mono ?_
  rintro e w1 ⟨rfl, rfl⟩
  go_wp2_with fail
  refine (HP.out _).mono ?_
  rintro e w1 ⟨PA, m, pc, rfl, hP, hb1⟩
  have HP1 := Lib.hid hP
  have HB1 := Lib.hid hb1
  clear hP hb1
  go_wp2_with fail
  have HRP := Lib.hid (Rd.of_own HP1.out.1)
  have HPL := Lib.hid HP1.out.2
  have HMP : Hid (m ≤ 101) := Lib.hid (by rw [← HPL.out]; exact hpl)
  have hm101 := HMP.out
  go_loopw [3, 5] (fun o i wr => ∃ (k n c : Nat) (A : Option Addr) (out : List (List UInt8)), k ≤ m ∧ n ≤ 2 * k ∧ o = .slice A n c ∧ i = i64 (k : Nat) ∧ Hid (Strs w1.heap.size wr A n c out) ∧
    Hid (expF ps = out ++ expF (ps.drop k)) ∧ Below w1.heap.size w1 wr) (fun _ i _ => m - (intOf i).toNat)
  case atStart => exact ⟨0, 0, 0, none, [], Nat.zero_le _, Nat.le_refl _, rfl, rfl, Lib.hid ⟨World.ownsRow_nil _ _ _ _, rfl⟩, Lib.hid rfl, Below.refl _ _⟩
  case round =>
    obtain ⟨k, n, c, A, out, hk, hn, rfl, rfl, HS, HG, hB⟩ := hrel
    have HB := Lib.hid hB
    clear hB
    by_cases hlt : k < m
    · have hlt' : (k : Int) < (m : Int) := by omega
      have hkl : k < ps.length := by rw [HPL.out]; exact hlt
      obtain ⟨b, off, u, rfl, hb, hu, hc⟩ := HRP.out.at_ hlt
      rw [List.getElem?_map, List.getElem?_eq_getElem hkl] at hu
      obtain ⟨x, hx⟩ : ∃ x, ps[k] = x := ⟨_, rfl⟩
      have hg := HG.out
      rw [List.drop_eq_getElem_cons hkl, hx] at hg
      rw [hx] at hu
      simp only [Option.map_some, Option.some.injEq] at hu
      subst hu
      have hR := rd_fresh wr 9 #[strV x] 1 1 [strV x] rfl rfl
      have HR := Lib.hid hR
      have HO := Lib.hid (HS.out.1.kept (World.grownBy_alloc wr (.cells #[strV x] 9) none) (Classical.em _))
      have HBa : Hid (Below w1.heap.size w1 (wr.alloc (.cells #[strV x] 9))) := Lib.hid (HB.out.alloc HB.out.size _)
      have HON := Lib.hid HS.out.2
      simp only [expF] at hg
      obtain ⟨K, hK⟩ : ∃ K : ByteArray, ⟨x.toArray⟩ = K := ⟨_, rfl⟩
      have hKx : K.toList = x := by rw [← hK, Lib.toList_data]
      have hc1 : w1.cell? ⟨b, off + k, none⟩ = some (.string K) := by rw [← hK]; exact hc
      have hc0 : wr.cell? ⟨b, off + k, none⟩ = some (.string K) := (HB.out.cell hb).trans hc1
      have HC1 := Lib.hid hc1
      have HV : Hid (Value.string K = strV x) := Lib.hid (by rw [← hK]; rfl)
      have hbl : b < w1.heap.size := hb
      have HV1 : Hid (∀ u ∈ [Value.string K], u.oneCell' = true) := Lib.hid (by rw [HV.out]; exact one_str [x])
      have HBL := Lib.hid hbl
      clear hR hK hkl hx hb hc hc1
      by_cases hd : x = [100]
      · rw [if_pos hd] at hg
        have ht : (K.toList == [100]) = true := by rw [hKx, hd]; rfl
        have HG2 := Lib.hid hg
        clear hg hd hKx hbl
        rw [← HV.out] at HR HO HBa
        go_wp2_with first | (at_builtin; refine wpList_append_rd _ rfl (.tmp 15) (.tmp 20) _ rfl w1.heap.size 9 i0 _ 1 16 Tryd.underlying108 hi hz0 hz1 hz2 rfl (by decide) _ n _ rfl HO.out _ (some ⟨wr.heap.size, 0, none⟩) 1 1 _ rfl HR.out HV1.out (by simp only [maxLen]; omega) (by omega) HBa.out.size ?_; intro Aaw5 caw5 w5 hown hfm hg; have HS5 : Hid (Strs w1.heap.size w5 Aaw5 (n + 1) caw5 (out ++ [x])) := Lib.hid ⟨by rw [List.map_append]; rw [HV.out] at hown; exact hown, by rw [List.length_append, HON.out]; rfl⟩; have HB5 := Lib.hid (own_below HO.out hg HBa.out (Nat.le_refl _) HBa.out.size); have hcw5 : w5.cell? ⟨b, off + k, none⟩ = some (.string K) := (HB5.out.cell HBL.out).trans HC1.out; clear hown hfm hg) | (have HR2 := Lib.hid (rd_fresh w5 9 #[strV [35]] 1 1 [strV [35]] rfl rfl); have HO2 := Lib.hid (HS5.out.1.kept (World.grownBy_alloc w5 (.cells #[strV [35]] 9) none) (Classical.em _)); have HBa2 : Hid (Below w1.heap.size w1 (w5.alloc (.cells #[strV [35]] 9))) := Lib.hid (HB5.out.alloc HB5.out.size _); have HON2 := Lib.hid HS5.out.2; at_builtin; refine wpList_append_rd _ rfl (.tmp 27) (.tmp 28) _ rfl w1.heap.size 9 i0 _ 1 16 Tryd.underlying108 hi hz0 hz1 hz2 rfl (by decide) _ (n + 1) _ rfl HO2.out _ (some ⟨w5.heap.size, 0, none⟩) 1 1 _ rfl HR2.out (one_str [[35]]) (by simp only [maxLen]; omega) (by omega) HBa2.out.size ?_; intro Aaw6 caw6 w6 hown hfm hg; have HS6 : Hid (Strs w1.heap.size w6 Aaw6 ((n + 1) + 1) caw6 ((out ++ [x]) ++ [[35]])) := Lib.hid ⟨by rw [List.map_append]; exact hown, by rw [List.length_append, HON2.out]; rfl⟩; have HB6 := Lib.hid (own_below HO2.out hg HBa2.out (Nat.le_refl _) HBa2.out.size); clear hown hfm hg)
        case roundEnd =>
          refine ⟨⟨k + 1, n + 1 + 1, caw6, Aaw6, out ++ [x] ++ [[35]], by omega, by omega, rfl, rfl, HS6, Lib.hid ?_, HB6.out⟩, ?_⟩
          · rw [HG2.out]; simp
          · simp only [intOf]; omega
      · rw [if_neg hd] at hg
        have ht : (K.toList == [100]) = false := by rw [hKx, beq_eq_false_iff_ne]; exact hd
        have HG2 := Lib.hid hg
        clear hg hd hKx hbl
        rw [← HV.out] at HR HO HBa
        go_wp2_with (at_builtin; refine wpList_append_rd _ rfl (.tmp 15) (.tmp 20) _ rfl w1.heap.size 9 i0 _ 1 16 Tryd.underlying108 hi hz0 hz1 hz2 rfl (by decide) _ n _ rfl HO.out _ (some ⟨wr.heap.size, 0, none⟩) 1 1 _ rfl HR.out HV1.out (by simp only [maxLen]; omega) (by omega) HBa.out.size ?_; intro Aaw5 caw5 w5 hown hfm hg; have HS5 : Hid (Strs w1.heap.size w5 Aaw5 (n + 1) caw5 (out ++ [x])) := Lib.hid ⟨by rw [List.map_append]; rw [HV.out] at hown; exact hown, by rw [List.length_append, HON.out]; rfl⟩; have HB5 := Lib.hid (own_below HO.out hg HBa.out (Nat.le_refl _) HBa.out.size); have hcw5 : w5.cell? ⟨b, off + k, none⟩ = some (.string K) := (HB5.out.cell HBL.out).trans HC1.out; clear hown hfm hg)
        case roundEnd =>
          refine ⟨⟨k + 1, n + 1, caw5, Aaw5, out ++ [x], by omega, by omega, rfl, rfl, HS5, Lib.hid ?_, HB5.out⟩, ?_⟩
          · rw [HG2.out]; simp
          · simp only [intOf]; omega
    · have hlt' : ¬ (k : Int) < (m : Int) := by omega
      obtain rfl : k = m := by omega
      have hg := HG.out
      rw [List.drop_of_length_le (by rw [HPL.out]; exact Nat.le_refl _)] at hg
      have HG2 := Lib.hid hg
      clear hg
      go_wp2_with (have HR3 := Lib.hid (rd_fresh wr 9 #[strV [59]] 1 1 [strV [59]] rfl rfl); have HO3 := Lib.hid (HS.out.1.kept (World.grownBy_alloc wr (.cells #[strV [59]] 9) none) (Classical.em _)); have HBa3 : Hid (Below w1.heap.size w1 (wr.alloc (.cells #[strV [59]] 9))) := Lib.hid (HB.out.alloc HB.out.size _); have HON3 := Lib.hid HS.out.2; at_builtin; refine wpList_append_rd _ rfl (.tmp 30) (.tmp 31) _ rfl w1.heap.size 9 i0 _ 1 16 Tryd.underlying108 hi hz0 hz1 hz2 rfl (by decide) _ n _ rfl HO3.out _ (some ⟨wr.heap.size, 0, none⟩) 1 1 _ rfl HR3.out (one_str [[59]]) (by simp only [maxLen]; omega) (by omega) HBa3.out.size ?_; intro Aaw7 caw7 w7 hown hfm hg; have HS7 : Hid (Strs w1.heap.size w7 Aaw7 (n + 1) caw7 (out ++ [[59]])) := Lib.hid ⟨by rw [List.map_append]; exact hown, by rw [List.length_append, HON3.out]; rfl⟩; have HB7 := Lib.hid (own_below HO3.out hg HBa3.out (Nat.le_refl _) HBa3.out.size); clear hown hfm hg)
      go_ret
      refine ⟨Aaw7, n + 1, caw7, rfl, ?_, below_trans' HB1.out HB7.out⟩
      rw [HE.out, HG2.out]
      have hq := HS7.out
      simp only [expF, List.append_nil]
      exact ⟨own_base hq.1 HB1.out.size, hq.2⟩
end Go.Proofs.YtbgekgakamincaaDoor.Pr

/- The reference's Counts. -/
namespace Go.Proofs.YtbgekgakamincaaDoor.Pr
open Go.RowKit Go.Proofs.YtbgekgakamincaaDoor.Lx
set_option linter.unusedVariables false

def cntN : List (List UInt8) → Nat
  | [] => 0
  | x :: r => (if x = [35] then 1 else 0) + cntN r
def anyN : List (List UInt8) → Bool
  | [] => false
  | x :: r => decide (x = [110]) || anyN r
/-- Has a form a name, how many numbers? -/
def cntB (k : Int) : Bool × Int := (anyN (expL k), (cntN (expL k) : Nat))
theorem cntN_le : ∀ l, cntN l ≤ l.length
  | [] => Nat.le_refl _
  | x :: r => by have := cntN_le r; simp only [cntN, List.length_cons]; split <;> omega
theorem expF_len : ∀ l, (expF l).length ≤ 2 * l.length
  | [] => Nat.le_refl _
  | x :: r => by have := expF_len r; simp only [expF]; split <;> simp only [List.length_cons] <;> omega
theorem expL_len (k : Int) : (expL k).length ≤ 203 := by
  have h1 := partsL_len (formB k).data.toList []
  have h2 := form_size k
  have h3 : (formB k).data.toList.length = (formB k).size := Array.length_toList
  have h4 := expF_len (partsL [] (formB k).data.toList)
  unfold expL
  rw [List.length_append]
  simp only [List.length_cons, List.length_nil]
  omega
theorem cnt_shape {k : Int} (h : k = 1 ∨ k = 2 ∨ k = 3 ∨ k = 4 ∨ k = 5 ∨ k = 6 ∨ k = 7 ∨ k = 8 ∨ k = 9 ∨ k = 10 ∨ k = 11) : cntB k = shapeOf k := by
  rcases h with rfl | rfl | rfl | rfl | rfl | rfl | rfl | rfl | rfl | rfl | rfl <;> decide

set_option maxRecDepth 100000 in
set_option maxHeartbeats 2000000 in
theorem counts_val (kd : Int) (w : World) :
    Calls Tryd.prog 48 #[.int .i64 kd] w fun e w' => e = .returned (.tuple #[.bool (cntB kd).1, .int .i64 (cntB kd).2]) ∧ Below w.heap.size w w' := by
  have HX := Lib.hid (expanded_val kd)
  obtain ⟨ps, hps⟩ : ∃ ps, expL kd = ps := ⟨_, rfl⟩
  have hpl : ps.length ≤ 203 := by rw [← hps]; exact expL_len kd
  have HE : Hid (cntB kd = (anyN ps, ((cntN ps : Nat) : Int))) := Lib.hid (by unfold cntB; rw [hps])
  rw [hps] at HX
  clear hps
  go_enter Tryd.func48, Tryd.ntmps48
  go_wp2_with fail
  refine (HX.out _).mono ?_
  rintro e w1 ⟨PA, m, pc, rfl, hP, hb1⟩
  have HRP := Lib.hid (Rd.of_own hP.1)
  have HPL := Lib.hid hP.2
  have HB1 := Lib.hid hb1
  clear hP hb1
  have HMP : Hid (m ≤ 203) := Lib.hid (by rw [← HPL.out]; exact hpl)
  have hm101 := HMP.out
  go_wp2_with fail
  go_loopw [5, 6, 7] (fun o c i wr => ∃ (k q : Nat) (v : Bool), k ≤ m ∧ q ≤ k ∧ o = .bool v ∧ c = i64 (q : Nat) ∧ i = i64 (k : Nat) ∧ Hid (anyN ps = (v || anyN (ps.drop k))) ∧ Hid (cntN ps = q + cntN (ps.drop k)) ∧ w1 = wr) (fun _ _ i _ => m - (intOf i).toNat)
  case atStart => exact ⟨0, 0, false, Nat.zero_le _, Nat.le_refl _, rfl, rfl, rfl, Lib.hid rfl, Lib.hid (by simp), rfl⟩
  case round =>
    obtain ⟨k, q, v, hk, hq, rfl, rfl, rfl, HG, HC, rfl⟩ := hrel
    by_cases hlt : k < m
    · have hlt' : (k : Int) < (m : Int) := by omega
      have hkl : k < ps.length := by rw [HPL.out]; exact hlt
      obtain ⟨b, off, u, rfl, hb, hu, hc⟩ := HRP.out.at_ hlt
      rw [List.getElem?_map, List.getElem?_eq_getElem hkl] at hu
      obtain ⟨x, hx⟩ : ∃ x, ps[k] = x := ⟨_, rfl⟩
      have hg := HG.out
      have hc2 := HC.out
      rw [List.drop_eq_getElem_cons hkl, hx] at hg hc2
      rw [hx] at hu
      simp only [Option.map_some, Option.some.injEq] at hu
      subst hu
      simp only [anyN, cntN] at hg hc2
      obtain ⟨K, hK⟩ : ∃ K : ByteArray, ⟨x.toArray⟩ = K := ⟨_, rfl⟩
      have hKx : K.toList = x := by rw [← hK, Lib.toList_data]
      have hc0 : w1.cell? ⟨b, off + k, none⟩ = some (.string K) := by rw [← hK]; exact hc
      clear hc hK hkl hx hb
      obtain ⟨t1, ht1⟩ : ∃ t, (K.toList == [110]) = t := ⟨_, rfl⟩
      obtain ⟨t2, ht2⟩ : ∃ t, (K.toList == [35]) = t := ⟨_, rfl⟩
      have hd1 : decide (x = [110]) = t1 := by rw [← ht1, hKx, Bool.eq_iff_iff]; simp
      rw [hd1] at hg
      have HG2 := Lib.hid hg
      have HC3 : Hid (cntN ps = (q + (if t2 = true then 1 else 0)) + cntN (ps.drop (k + 1))) := Lib.hid (by
        rw [hc2, ← ht2, hKx]
        by_cases hx35 : x = [35]
        · rw [if_pos hx35, if_pos (by rw [hx35]; rfl)]; omega
        · rw [if_neg hx35, if_neg (by rw [beq_iff_eq]; exact hx35)]; omega)
      clear hg hc2 hd1 hKx
      cases v <;> cases t1 <;> cases t2
      all_goals
        go_wp2_with fail
        case roundEnd =>
          first
            | exact ⟨⟨k + 1, q + 1, _, by omega, by omega, rfl, rfl, rfl, Lib.hid (HG2.out.trans (by simp)), Lib.hid (by rw [HC3.out, if_pos rfl]), trivial⟩, by simp only [intOf]; omega⟩
            | exact ⟨⟨k + 1, q, _, by omega, by omega, rfl, rfl, rfl, Lib.hid (HG2.out.trans (by simp)), Lib.hid (by rw [HC3.out, if_neg (by decide)]; rfl), trivial⟩, by simp only [intOf]; omega⟩
    · have hlt' : ¬ (k : Int) < (m : Int) := by omega
      obtain rfl : k = m := by omega
      have hg := HG.out
      have hc := HC.out
      rw [List.drop_of_length_le (by rw [HPL.out]; exact Nat.le_refl _)] at hg hc
      have HG2 := Lib.hid hg
      have HC2 := Lib.hid hc
      clear hg hc
      go_wp2_with fail
      go_ret2
      rw [HE.out, HG2.out, HC2.out]
      simp [anyN, cntN, HB1.out]
end Go.Proofs.YtbgekgakamincaaDoor.Pr

/- The reference's command and Valid. -/
namespace Go.Proofs.YtbgekgakamincaaDoor.Pr
open Go.RowKit Go.Proofs.YtbgekgakamincaaDoor.Lx
set_option linter.unusedVariables false

theorem form_some {k : Int} (h : k = 1 ∨ k = 2 ∨ k = 3 ∨ k = 4 ∨ k = 5 ∨ k = 6 ∨ k = 7 ∨ k = 8 ∨ k = 9 ∨ k = 10 ∨ k = 11) : ((formB k).toList == []) = false := by
  rcases h with rfl | rfl | rfl | rfl | rfl | rfl | rfl | rfl | rfl | rfl | rfl <;> (rw [Lib.toList_data]; decide)
theorem shape_none {k : Int} (h1 : ¬ (k = 1 ∨ k = 2 ∨ k = 3 ∨ k = 4 ∨ k = 5 ∨ k = 6 ∨ k = 7 ∨ k = 8 ∨ k = 9 ∨ k = 10 ∨ k = 11)) : shapeOf k = (false, -1) := by
  unfold shapeOf
  rw [if_neg (by omega), if_neg (by omega), if_neg (by omega), if_neg (by omega), if_neg (by omega), if_neg (by omega), if_neg (by omega), if_neg (by omega), if_neg (by omega)]
theorem name_ne {s : ByteArray} (h : nameB s = true) : s.size ≠ 0 := by
  intro h0; unfold nameB at h; rw [decide_eq_false (fun h => h h0)] at h; cases h
theorem str_ne {s : ByteArray} (he : s.size ≠ 0) : (s.toList == []) = false := by
  rw [beq_eq_false_iff_ne]
  intro e
  have e2 : s = ⟨#[]⟩ := Lx.bytes_of_list (e.trans (by rw [ByteArray.toList, ByteArray.toList.loop]; rfl))
  exact he (by rw [e2]; rfl)
theorem str_nil {s : ByteArray} (he : s.size = 0) : (s.toList == []) = true := by
  have e2 : s.toList = [] := by rw [Lib.toList_data]; exact List.eq_nil_of_length_eq_zero (Array.length_toList.trans he)
  rw [e2]; rfl
set_option maxRecDepth 100000 in
set_option maxHeartbeats 4000000 in
theorem rcommand_val (x : Cm) (w : World) (hx : Cm.In w x) :
    Calls Tryd.prog 26 #[.agg #[.int .i64 x.kind, .string x.name, .slice x.A x.n x.c, .int .i64 x.pos]] w fun e w' => e = .returned (.bool (cmB x)) ∧ Below w.heap.size w w' := by
  obtain ⟨k, nm, A, n, c, ns, p⟩ := x
  have HX := Lib.hid hx
  have hn := hx.len
  dsimp only at hn
  have hnm : n ≤ 9223372036854775807 := Nat.le_trans hx.nc (Nat.le_trans hx.cm (by decide))
  have HF := Lib.hid (form_val k)
  have HS := Lib.hid (counts_val k)
  have HN := Lib.hid (rname_val nm hx.name)
  have HB0 : Hid (Below w.heap.size w (w.alloc (.cells #[.int .i64 k, .string nm, .slice A n c, .int .i64 p] 40))) := Lib.hid ((Below.refl _ w).alloc (Nat.le_refl _) _)
  have BX : Hid (Blk (w.alloc (.cells #[.int .i64 k, .string nm, .slice A n c, .int .i64 p] 40)) w.heap.size 40 #[.int .i64 k, .string nm, .slice A n c, .int .i64 p]) := Lib.hid (Blk.new w _ _)
  have HLN := Lib.hid hn
  by_cases h1 : k = 1 ∨ k = 2 ∨ k = 3 ∨ k = 4 ∨ k = 5 ∨ k = 6 ∨ k = 7 ∨ k = 8 ∨ k = 9 ∨ k = 10 ∨ k = 11
  · have hfs := form_some h1
    obtain ⟨F, hF⟩ : ∃ F, formB k = F := ⟨_, rfl⟩
    rw [hF] at hfs HF
    rw [cnt_shape h1] at HS
    obtain ⟨⟨named, many⟩, hsh⟩ : ∃ q, shapeOf k = q := ⟨_, rfl⟩
    rw [hsh] at HS
    dsimp only at HS
    obtain ⟨nb, hnb⟩ : ∃ v, nameB nm = v := ⟨_, rfl⟩
    rw [hnb] at HN
    obtain ⟨em, hem⟩ : ∃ t, ((n : Int) != many) = t := ⟨_, rfl⟩
    have hcm : cmdB k nm ns = (!em && ((named == decide (nm.size ≠ 0)) && ((!named || nb) && numsB k 0 ns))) := by
      unfold cmdB; rw [hsh, hn, hnb, ← hem, show decide ((n : Int) = many) = !((n : Int) != many) by rw [Bool.eq_iff_iff]; simp, Bool.and_assoc]
    cases named with
    | true =>
      cases nb with
      | false =>
        have HR : Hid (cmdB k nm ns = false) := Lib.hid (by rw [hcm]; simp)
        clear hx hsh hcm hn h1 hF hnb
        go_enter Tryd.func26, Tryd.ntmps26
        go_wp2_with fail
        refine (HF.out _).mono ?_
        rintro e w1 ⟨rfl, hw1⟩
        rw [hw1] at BX HB0
        have c0 : w1.cell? ⟨w.heap.size, 0, none⟩ = some (.int .i64 k) := BX.out.cell 0
        have c1 : w1.cell? ⟨w.heap.size, 1, none⟩ = some (.string nm) := BX.out.cell 1
        have c2 : w1.cell? ⟨w.heap.size, 2, none⟩ = some (.slice A n c) := BX.out.cell 2
        clear hw1
        go_wp2_with fail
        refine (HS.out _).mono ?_
        rintro e w2 ⟨rfl, hb2⟩
        have BX2 := Lib.hid (BX.out.up' hb2)
        have HB2 := Lib.hid (below_trans' HB0.out hb2)
        clear hb2 c0 c1 c2
        have c0 : w2.cell? ⟨w.heap.size, 0, none⟩ = some (.int .i64 k) := BX2.out.cell 0
        have c1 : w2.cell? ⟨w.heap.size, 1, none⟩ = some (.string nm) := BX2.out.cell 1
        have c2 : w2.cell? ⟨w.heap.size, 2, none⟩ = some (.slice A n c) := BX2.out.cell 2
        go_wp2_with fail
        refine (HN.out _).mono ?_
        rintro e w3 ⟨rfl, hb3⟩
        have BX3 := Lib.hid (BX2.out.up' hb3)
        have HB3 := Lib.hid (below_trans' HB2.out hb3)
        clear hb3 c0 c1 c2
        have c0 : w3.cell? ⟨w.heap.size, 0, none⟩ = some (.int .i64 k) := BX3.out.cell 0
        have c1 : w3.cell? ⟨w.heap.size, 1, none⟩ = some (.string nm) := BX3.out.cell 1
        have c2 : w3.cell? ⟨w.heap.size, 2, none⟩ = some (.slice A n c) := BX3.out.cell 2
        go_wp2_with fail
        go_ret
        unfold cmB
        rw [HR.out]
        exact ⟨rfl, HB3.out⟩
      | true =>
        have hne := str_ne (name_ne hnb)
        have hne0 := name_ne hnb
        cases em with
        | true =>
          have HR : Hid (cmdB k nm ns = false) := Lib.hid (by rw [hcm]; simp)
          clear hx hsh hcm hn h1 hF hnb
          go_enter Tryd.func26, Tryd.ntmps26
          go_wp2_with fail
          refine (HF.out _).mono ?_
          rintro e w1 ⟨rfl, hw1⟩
          rw [hw1] at BX HB0
          have c0 : w1.cell? ⟨w.heap.size, 0, none⟩ = some (.int .i64 k) := BX.out.cell 0
          have c1 : w1.cell? ⟨w.heap.size, 1, none⟩ = some (.string nm) := BX.out.cell 1
          have c2 : w1.cell? ⟨w.heap.size, 2, none⟩ = some (.slice A n c) := BX.out.cell 2
          clear hw1
          go_wp2_with fail
          refine (HS.out _).mono ?_
          rintro e w2 ⟨rfl, hb2⟩
          have BX2 := Lib.hid (BX.out.up' hb2)
          have HB2 := Lib.hid (below_trans' HB0.out hb2)
          clear hb2 c0 c1 c2
          have c0 : w2.cell? ⟨w.heap.size, 0, none⟩ = some (.int .i64 k) := BX2.out.cell 0
          have c1 : w2.cell? ⟨w.heap.size, 1, none⟩ = some (.string nm) := BX2.out.cell 1
          have c2 : w2.cell? ⟨w.heap.size, 2, none⟩ = some (.slice A n c) := BX2.out.cell 2
          go_wp2_with fail
          refine (HN.out _).mono ?_
          rintro e w3 ⟨rfl, hb3⟩
          have BX3 := Lib.hid (BX2.out.up' hb3)
          have HB3 := Lib.hid (below_trans' HB2.out hb3)
          clear hb3 c0 c1 c2
          have c0 : w3.cell? ⟨w.heap.size, 0, none⟩ = some (.int .i64 k) := BX3.out.cell 0
          have c1 : w3.cell? ⟨w.heap.size, 1, none⟩ = some (.string nm) := BX3.out.cell 1
          have c2 : w3.cell? ⟨w.heap.size, 2, none⟩ = some (.slice A n c) := BX3.out.cell 2
          go_wp2_with fail
          go_ret
          unfold cmB
          rw [HR.out]
          exact ⟨rfl, HB3.out⟩
        | false =>
          obtain rfl : (n : Int) = many := by simpa using hem
          have HR : Hid (cmdB k nm ns = numsB k 0 ns) := Lib.hid (by rw [hcm, decide_eq_true hne0]; simp)
          clear hx hsh hcm hn h1 hF hnb
          go_enter Tryd.func26, Tryd.ntmps26
          go_wp2_with fail
          refine (HF.out _).mono ?_
          rintro e w1 ⟨rfl, hw1⟩
          rw [hw1] at BX HB0
          have c0 : w1.cell? ⟨w.heap.size, 0, none⟩ = some (.int .i64 k) := BX.out.cell 0
          have c1 : w1.cell? ⟨w.heap.size, 1, none⟩ = some (.string nm) := BX.out.cell 1
          have c2 : w1.cell? ⟨w.heap.size, 2, none⟩ = some (.slice A n c) := BX.out.cell 2
          clear hw1
          go_wp2_with fail
          refine (HS.out _).mono ?_
          rintro e w2 ⟨rfl, hb2⟩
          have BX2 := Lib.hid (BX.out.up' hb2)
          have HB2 := Lib.hid (below_trans' HB0.out hb2)
          clear hb2 c0 c1 c2
          have c0 : w2.cell? ⟨w.heap.size, 0, none⟩ = some (.int .i64 k) := BX2.out.cell 0
          have c1 : w2.cell? ⟨w.heap.size, 1, none⟩ = some (.string nm) := BX2.out.cell 1
          have c2 : w2.cell? ⟨w.heap.size, 2, none⟩ = some (.slice A n c) := BX2.out.cell 2
          go_wp2_with fail
          refine (HN.out _).mono ?_
          rintro e w3 ⟨rfl, hb3⟩
          have BX3 := Lib.hid (BX2.out.up' hb3)
          have HB3 := Lib.hid (below_trans' HB2.out hb3)
          clear hb3 c0 c1 c2
          have c0 : w3.cell? ⟨w.heap.size, 0, none⟩ = some (.int .i64 k) := BX3.out.cell 0
          have c1 : w3.cell? ⟨w.heap.size, 1, none⟩ = some (.string nm) := BX3.out.cell 1
          have c2 : w3.cell? ⟨w.heap.size, 2, none⟩ = some (.slice A n c) := BX3.out.cell 2
          go_wp2_with fail
          go_loopw [5, 6] (fun i o wr => ∃ (j : Nat) (z : Value), j ≤ n ∧ i = i64 (j : Nat) ∧ o = z ∧ Hid (numsB k 0 ns = numsB k j (ns.drop j)) ∧ w3 = wr) (fun i _ _ => n - (intOf i).toNat)
          case atStart => exact ⟨0, _, Nat.zero_le _, rfl, rfl, Lib.hid rfl, rfl⟩
          case round =>
            obtain ⟨j, z, hj, rfl, rfl, HG, rfl⟩ := hrel
            by_cases hlt : j < n
            · have hlt' : (j : Int) < (n : Int) := by omega
              have hjn : j < ns.length := by rw [HLN.out]; exact hlt
              obtain ⟨b, off, rfl, hb, hcc⟩ := (HX.out.rd.up HB3.out).2 (by show 0 < n; omega)
              have hg := HG.out
              rw [List.drop_eq_getElem_cons hjn] at hg
              have hc := hcc j (iv ns[j]) (by rw [List.getElem?_map, List.getElem?_eq_getElem hjn]; rfl)
              obtain ⟨v, hv⟩ : ∃ v, ns[j] = v := ⟨_, rfl⟩
              rw [hv] at hc hg
              unfold iv at hc
              simp only [numsB] at hg
              clear hb hcc
              by_cases hq3 : k = 3
              · have f3 : (k == 3) = true := by rw [beq_iff_eq]; exact hq3
                by_cases hq4 : j = 2
                · have f4 : ((j : Int) == 2) = true := by rw [beq_iff_eq]; omega
                  by_cases q1 : v < -1000000000
                  · have hch : numB k j v = false := by unfold numB; rw [decide_eq_false (show ¬ 0 ≤ v by omega), decide_eq_false (show ¬ (-1000000000 ≤ v) by omega)]; simp
                    clear hq3 hq4
                    rw [hch, Bool.false_and] at hg
                    have HG2 : Hid (cmdB k nm ns = false) := Lib.hid (HR.out.trans hg)
                    clear hg hch hv
                    go_wp2_with fail
                    go_ret
                    unfold cmB
                    rw [HG2.out]
                    exact ⟨rfl, HB3.out⟩
                  · by_cases q2 : 1000000000 < v
                    · have hch : numB k j v = false := by unfold numB; rw [decide_eq_false (show ¬ v ≤ 1000000000 by omega)]; rfl
                      clear hq3 hq4
                      rw [hch, Bool.false_and] at hg
                      have HG2 : Hid (cmdB k nm ns = false) := Lib.hid (HR.out.trans hg)
                      clear hg hch hv
                      go_wp2_with fail
                      go_ret
                      unfold cmB
                      rw [HG2.out]
                      exact ⟨rfl, HB3.out⟩
                    · have hch : numB k j v = true := by unfold numB; rw [decide_eq_true (show v ≤ 1000000000 by omega), decide_eq_true hq3, decide_eq_true hq4, decide_eq_true (show -1000000000 ≤ v by omega)]; simp
                      clear hq3 hq4
                      rw [hch, Bool.true_and] at hg
                      have HG2 := Lib.hid hg
                      clear hg hch hv
                      go_wp2_with fail
                      case roundEnd =>
                        refine ⟨⟨j + 1, _, by omega, rfl, rfl, Lib.hid HG2.out, trivial⟩, ?_⟩
                        simp only [intOf]; omega
                · have f4 : ((j : Int) == 2) = false := by rw [beq_eq_false_iff_ne]; omega
                  have hq : k ≠ 3 ∨ j ≠ 2 := .inr hq4
                  clear hq3 hq4
                  by_cases q1 : v < 0
                  · have hch : numB k j v = false := by unfold numB; rw [decide_eq_false (show ¬ 0 ≤ v by omega)]; rcases hq with h | h <;> simp [h]
                    clear hq
                    rw [hch, Bool.false_and] at hg
                    have HG2 : Hid (cmdB k nm ns = false) := Lib.hid (HR.out.trans hg)
                    clear hg hch hv
                    go_wp2_with fail
                    go_ret
                    unfold cmB
                    rw [HG2.out]
                    exact ⟨rfl, HB3.out⟩
                  · by_cases q2 : 1000000000 < v
                    · have hch : numB k j v = false := by unfold numB; rw [decide_eq_false (show ¬ v ≤ 1000000000 by omega)]; rfl
                      clear hq
                      rw [hch, Bool.false_and] at hg
                      have HG2 : Hid (cmdB k nm ns = false) := Lib.hid (HR.out.trans hg)
                      clear hg hch hv
                      go_wp2_with fail
                      go_ret
                      unfold cmB
                      rw [HG2.out]
                      exact ⟨rfl, HB3.out⟩
                    · have hch : numB k j v = true := by unfold numB; rw [decide_eq_true (show v ≤ 1000000000 by omega), decide_eq_true (show 0 ≤ v by omega)]; rfl
                      clear hq
                      rw [hch, Bool.true_and] at hg
                      have HG2 := Lib.hid hg
                      clear hg hch hv
                      go_wp2_with fail
                      case roundEnd =>
                        refine ⟨⟨j + 1, _, by omega, rfl, rfl, Lib.hid HG2.out, trivial⟩, ?_⟩
                        simp only [intOf]; omega
              · have f3 : (k == 3) = false := by rw [beq_eq_false_iff_ne]; exact hq3
                have hq : k ≠ 3 ∨ j ≠ 2 := .inl hq3
                clear hq3
                by_cases q1 : v < 0
                · have hch : numB k j v = false := by unfold numB; rw [decide_eq_false (show ¬ 0 ≤ v by omega)]; rcases hq with h | h <;> simp [h]
                  clear hq
                  rw [hch, Bool.false_and] at hg
                  have HG2 : Hid (cmdB k nm ns = false) := Lib.hid (HR.out.trans hg)
                  clear hg hch hv
                  go_wp2_with fail
                  go_ret
                  unfold cmB
                  rw [HG2.out]
                  exact ⟨rfl, HB3.out⟩
                · by_cases q2 : 1000000000 < v
                  · have hch : numB k j v = false := by unfold numB; rw [decide_eq_false (show ¬ v ≤ 1000000000 by omega)]; rfl
                    clear hq
                    rw [hch, Bool.false_and] at hg
                    have HG2 : Hid (cmdB k nm ns = false) := Lib.hid (HR.out.trans hg)
                    clear hg hch hv
                    go_wp2_with fail
                    go_ret
                    unfold cmB
                    rw [HG2.out]
                    exact ⟨rfl, HB3.out⟩
                  · have hch : numB k j v = true := by unfold numB; rw [decide_eq_true (show v ≤ 1000000000 by omega), decide_eq_true (show 0 ≤ v by omega)]; rfl
                    clear hq
                    rw [hch, Bool.true_and] at hg
                    have HG2 := Lib.hid hg
                    clear hg hch hv
                    go_wp2_with fail
                    case roundEnd =>
                      refine ⟨⟨j + 1, _, by omega, rfl, rfl, Lib.hid HG2.out, trivial⟩, ?_⟩
                      simp only [intOf]; omega
            · have hlt' : ¬ (j : Int) < (n : Int) := by omega
              obtain rfl : j = n := by omega
              have hg := HG.out
              rw [List.drop_of_length_le (by rw [HLN.out]; exact Nat.le_refl _)] at hg
              have HG2 : Hid (cmdB k nm ns = true) := Lib.hid (HR.out.trans hg)
              clear hg
              go_wp2_with fail
              go_ret
              unfold cmB
              rw [HG2.out]
              exact ⟨rfl, HB3.out⟩
    | false =>
      by_cases he : nm.size = 0
      · have hne := str_nil he
        cases em with
        | true =>
          have HR : Hid (cmdB k nm ns = false) := Lib.hid (by rw [hcm]; simp)
          clear hx hsh hcm hn h1 hF hnb
          go_enter Tryd.func26, Tryd.ntmps26
          go_wp2_with fail
          refine (HF.out _).mono ?_
          rintro e w1 ⟨rfl, hw1⟩
          rw [hw1] at BX HB0
          have c0 : w1.cell? ⟨w.heap.size, 0, none⟩ = some (.int .i64 k) := BX.out.cell 0
          have c1 : w1.cell? ⟨w.heap.size, 1, none⟩ = some (.string nm) := BX.out.cell 1
          have c2 : w1.cell? ⟨w.heap.size, 2, none⟩ = some (.slice A n c) := BX.out.cell 2
          clear hw1
          go_wp2_with fail
          refine (HS.out _).mono ?_
          rintro e w2 ⟨rfl, hb2⟩
          have BX2 := Lib.hid (BX.out.up' hb2)
          have HB2 := Lib.hid (below_trans' HB0.out hb2)
          clear hb2 c0 c1 c2
          have c0 : w2.cell? ⟨w.heap.size, 0, none⟩ = some (.int .i64 k) := BX2.out.cell 0
          have c1 : w2.cell? ⟨w.heap.size, 1, none⟩ = some (.string nm) := BX2.out.cell 1
          have c2 : w2.cell? ⟨w.heap.size, 2, none⟩ = some (.slice A n c) := BX2.out.cell 2
          go_wp2_with fail
          go_ret
          unfold cmB
          rw [HR.out]
          exact ⟨rfl, HB2.out⟩
        | false =>
          obtain rfl : (n : Int) = many := by simpa using hem
          have HR : Hid (cmdB k nm ns = numsB k 0 ns) := Lib.hid (by rw [hcm, decide_eq_false (fun h => h he)]; simp)
          clear hx hsh hcm hn h1 hF hnb
          go_enter Tryd.func26, Tryd.ntmps26
          go_wp2_with fail
          refine (HF.out _).mono ?_
          rintro e w1 ⟨rfl, hw1⟩
          rw [hw1] at BX HB0
          have c0 : w1.cell? ⟨w.heap.size, 0, none⟩ = some (.int .i64 k) := BX.out.cell 0
          have c1 : w1.cell? ⟨w.heap.size, 1, none⟩ = some (.string nm) := BX.out.cell 1
          have c2 : w1.cell? ⟨w.heap.size, 2, none⟩ = some (.slice A n c) := BX.out.cell 2
          clear hw1
          go_wp2_with fail
          refine (HS.out _).mono ?_
          rintro e w2 ⟨rfl, hb2⟩
          have BX2 := Lib.hid (BX.out.up' hb2)
          have HB2 := Lib.hid (below_trans' HB0.out hb2)
          clear hb2 c0 c1 c2
          have c0 : w2.cell? ⟨w.heap.size, 0, none⟩ = some (.int .i64 k) := BX2.out.cell 0
          have c1 : w2.cell? ⟨w.heap.size, 1, none⟩ = some (.string nm) := BX2.out.cell 1
          have c2 : w2.cell? ⟨w.heap.size, 2, none⟩ = some (.slice A n c) := BX2.out.cell 2
          go_wp2_with fail
          go_loopw [5, 6] (fun i o wr => ∃ (j : Nat) (z : Value), j ≤ n ∧ i = i64 (j : Nat) ∧ o = z ∧ Hid (numsB k 0 ns = numsB k j (ns.drop j)) ∧ w2 = wr) (fun i _ _ => n - (intOf i).toNat)
          case atStart => exact ⟨0, _, Nat.zero_le _, rfl, rfl, Lib.hid rfl, rfl⟩
          case round =>
            obtain ⟨j, z, hj, rfl, rfl, HG, rfl⟩ := hrel
            by_cases hlt : j < n
            · have hlt' : (j : Int) < (n : Int) := by omega
              have hjn : j < ns.length := by rw [HLN.out]; exact hlt
              obtain ⟨b, off, rfl, hb, hcc⟩ := (HX.out.rd.up HB2.out).2 (by show 0 < n; omega)
              have hg := HG.out
              rw [List.drop_eq_getElem_cons hjn] at hg
              have hc := hcc j (iv ns[j]) (by rw [List.getElem?_map, List.getElem?_eq_getElem hjn]; rfl)
              obtain ⟨v, hv⟩ : ∃ v, ns[j] = v := ⟨_, rfl⟩
              rw [hv] at hc hg
              unfold iv at hc
              simp only [numsB] at hg
              clear hb hcc
              by_cases hq3 : k = 3
              · have f3 : (k == 3) = true := by rw [beq_iff_eq]; exact hq3
                by_cases hq4 : j = 2
                · have f4 : ((j : Int) == 2) = true := by rw [beq_iff_eq]; omega
                  by_cases q1 : v < -1000000000
                  · have hch : numB k j v = false := by unfold numB; rw [decide_eq_false (show ¬ 0 ≤ v by omega), decide_eq_false (show ¬ (-1000000000 ≤ v) by omega)]; simp
                    clear hq3 hq4
                    rw [hch, Bool.false_and] at hg
                    have HG2 : Hid (cmdB k nm ns = false) := Lib.hid (HR.out.trans hg)
                    clear hg hch hv
                    go_wp2_with fail
                    go_ret
                    unfold cmB
                    rw [HG2.out]
                    exact ⟨rfl, HB2.out⟩
                  · by_cases q2 : 1000000000 < v
                    · have hch : numB k j v = false := by unfold numB; rw [decide_eq_false (show ¬ v ≤ 1000000000 by omega)]; rfl
                      clear hq3 hq4
                      rw [hch, Bool.false_and] at hg
                      have HG2 : Hid (cmdB k nm ns = false) := Lib.hid (HR.out.trans hg)
                      clear hg hch hv
                      go_wp2_with fail
                      go_ret
                      unfold cmB
                      rw [HG2.out]
                      exact ⟨rfl, HB2.out⟩
                    · have hch : numB k j v = true := by unfold numB; rw [decide_eq_true (show v ≤ 1000000000 by omega), decide_eq_true hq3, decide_eq_true hq4, decide_eq_true (show -1000000000 ≤ v by omega)]; simp
                      clear hq3 hq4
                      rw [hch, Bool.true_and] at hg
                      have HG2 := Lib.hid hg
                      clear hg hch hv
                      go_wp2_with fail
                      case roundEnd =>
                        refine ⟨⟨j + 1, _, by omega, rfl, rfl, Lib.hid HG2.out, trivial⟩, ?_⟩
                        simp only [intOf]; omega
                · have f4 : ((j : Int) == 2) = false := by rw [beq_eq_false_iff_ne]; omega
                  have hq : k ≠ 3 ∨ j ≠ 2 := .inr hq4
                  clear hq3 hq4
                  by_cases q1 : v < 0
                  · have hch : numB k j v = false := by unfold numB; rw [decide_eq_false (show ¬ 0 ≤ v by omega)]; rcases hq with h | h <;> simp [h]
                    clear hq
                    rw [hch, Bool.false_and] at hg
                    have HG2 : Hid (cmdB k nm ns = false) := Lib.hid (HR.out.trans hg)
                    clear hg hch hv
                    go_wp2_with fail
                    go_ret
                    unfold cmB
                    rw [HG2.out]
                    exact ⟨rfl, HB2.out⟩
                  · by_cases q2 : 1000000000 < v
                    · have hch : numB k j v = false := by unfold numB; rw [decide_eq_false (show ¬ v ≤ 1000000000 by omega)]; rfl
                      clear hq
                      rw [hch, Bool.false_and] at hg
                      have HG2 : Hid (cmdB k nm ns = false) := Lib.hid (HR.out.trans hg)
                      clear hg hch hv
                      go_wp2_with fail
                      go_ret
                      unfold cmB
                      rw [HG2.out]
                      exact ⟨rfl, HB2.out⟩
                    · have hch : numB k j v = true := by unfold numB; rw [decide_eq_true (show v ≤ 1000000000 by omega), decide_eq_true (show 0 ≤ v by omega)]; rfl
                      clear hq
                      rw [hch, Bool.true_and] at hg
                      have HG2 := Lib.hid hg
                      clear hg hch hv
                      go_wp2_with fail
                      case roundEnd =>
                        refine ⟨⟨j + 1, _, by omega, rfl, rfl, Lib.hid HG2.out, trivial⟩, ?_⟩
                        simp only [intOf]; omega
              · have f3 : (k == 3) = false := by rw [beq_eq_false_iff_ne]; exact hq3
                have hq : k ≠ 3 ∨ j ≠ 2 := .inl hq3
                clear hq3
                by_cases q1 : v < 0
                · have hch : numB k j v = false := by unfold numB; rw [decide_eq_false (show ¬ 0 ≤ v by omega)]; rcases hq with h | h <;> simp [h]
                  clear hq
                  rw [hch, Bool.false_and] at hg
                  have HG2 : Hid (cmdB k nm ns = false) := Lib.hid (HR.out.trans hg)
                  clear hg hch hv
                  go_wp2_with fail
                  go_ret
                  unfold cmB
                  rw [HG2.out]
                  exact ⟨rfl, HB2.out⟩
                · by_cases q2 : 1000000000 < v
                  · have hch : numB k j v = false := by unfold numB; rw [decide_eq_false (show ¬ v ≤ 1000000000 by omega)]; rfl
                    clear hq
                    rw [hch, Bool.false_and] at hg
                    have HG2 : Hid (cmdB k nm ns = false) := Lib.hid (HR.out.trans hg)
                    clear hg hch hv
                    go_wp2_with fail
                    go_ret
                    unfold cmB
                    rw [HG2.out]
                    exact ⟨rfl, HB2.out⟩
                  · have hch : numB k j v = true := by unfold numB; rw [decide_eq_true (show v ≤ 1000000000 by omega), decide_eq_true (show 0 ≤ v by omega)]; rfl
                    clear hq
                    rw [hch, Bool.true_and] at hg
                    have HG2 := Lib.hid hg
                    clear hg hch hv
                    go_wp2_with fail
                    case roundEnd =>
                      refine ⟨⟨j + 1, _, by omega, rfl, rfl, Lib.hid HG2.out, trivial⟩, ?_⟩
                      simp only [intOf]; omega
            · have hlt' : ¬ (j : Int) < (n : Int) := by omega
              obtain rfl : j = n := by omega
              have hg := HG.out
              rw [List.drop_of_length_le (by rw [HLN.out]; exact Nat.le_refl _)] at hg
              have HG2 : Hid (cmdB k nm ns = true) := Lib.hid (HR.out.trans hg)
              clear hg
              go_wp2_with fail
              go_ret
              unfold cmB
              rw [HG2.out]
              exact ⟨rfl, HB2.out⟩
      · have hne := str_ne he
        have HR : Hid (cmdB k nm ns = false) := Lib.hid (by rw [hcm, decide_eq_true he]; simp)
        clear hx hsh hcm hn h1 hF hnb
        go_enter Tryd.func26, Tryd.ntmps26
        go_wp2_with fail
        refine (HF.out _).mono ?_
        rintro e w1 ⟨rfl, hw1⟩
        rw [hw1] at BX HB0
        have c0 : w1.cell? ⟨w.heap.size, 0, none⟩ = some (.int .i64 k) := BX.out.cell 0
        have c1 : w1.cell? ⟨w.heap.size, 1, none⟩ = some (.string nm) := BX.out.cell 1
        have c2 : w1.cell? ⟨w.heap.size, 2, none⟩ = some (.slice A n c) := BX.out.cell 2
        clear hw1
        go_wp2_with fail
        refine (HS.out _).mono ?_
        rintro e w2 ⟨rfl, hb2⟩
        have BX2 := Lib.hid (BX.out.up' hb2)
        have HB2 := Lib.hid (below_trans' HB0.out hb2)
        clear hb2 c0 c1 c2
        have c0 : w2.cell? ⟨w.heap.size, 0, none⟩ = some (.int .i64 k) := BX2.out.cell 0
        have c1 : w2.cell? ⟨w.heap.size, 1, none⟩ = some (.string nm) := BX2.out.cell 1
        have c2 : w2.cell? ⟨w.heap.size, 2, none⟩ = some (.slice A n c) := BX2.out.cell 2
        go_wp2_with fail
        go_ret
        unfold cmB
        rw [HR.out]
        exact ⟨rfl, HB2.out⟩
  · have hfs : formB k = ⟨#[]⟩ := form_none h1
    rw [hfs] at HF
    have hee : ((⟨#[]⟩ : ByteArray).toList == []) = true := by rw [Lib.toList_data]; rfl
    have HR : Hid (cmdB k nm ns = false) := Lib.hid (by unfold cmdB; rw [shape_none h1, decide_eq_false (show ¬ ((ns.length : Int) = -1) by omega)]; rfl)
    clear hx hn h1 hfs
    go_enter Tryd.func26, Tryd.ntmps26
    go_wp2_with fail
    refine (HF.out _).mono ?_
    rintro e w1 ⟨rfl, hw1⟩
    rw [hw1] at BX HB0
    have c0 : w1.cell? ⟨w.heap.size, 0, none⟩ = some (.int .i64 k) := BX.out.cell 0
    have c1 : w1.cell? ⟨w.heap.size, 1, none⟩ = some (.string nm) := BX.out.cell 1
    have c2 : w1.cell? ⟨w.heap.size, 2, none⟩ = some (.slice A n c) := BX.out.cell 2
    clear hw1
    go_wp2_with fail
    go_ret
    unfold cmB
    rw [HR.out]
    exact ⟨rfl, HB0.out⟩
set_option maxRecDepth 100000 in
set_option maxHeartbeats 1000000 in
theorem rvalid_val (A : Option Addr) (n c : Nat) (l : List Cm) (w : World) (h : IsCms w A n c l) :
    Calls Tryd.prog 16 #[.slice A n c] w fun e w' => e = .returned (.bool (validB l)) ∧ Below w.heap.size w w' := by
  have hnm : n ≤ 9223372036854775807 := Nat.le_trans h.2.2.1 (Nat.le_trans h.2.2.2.1 (by decide))
  have HI := Lib.hid h
  have HN := Lib.hid h.1
  clear h
  go_enter Tryd.func16, Tryd.ntmps16
  go_wp2_with fail
  go_loopw [3] (fun i wr => ∃ k : Nat, k ≤ n ∧ i = i64 (k : Nat) ∧ Hid (l.all cmB = (l.drop k).all cmB) ∧ Below w.heap.size w wr) (fun i _ => n - (intOf i).toNat)
  case atStart => exact ⟨0, Nat.zero_le _, rfl, Lib.hid rfl, Below.refl _ _⟩
  case round =>
    obtain ⟨k, hk, rfl, HG, hB⟩ := hrel
    have HB := Lib.hid hB
    clear hB
    by_cases hlt : k < n
    · have hlt' : (k : Int) < (n : Int) := by omega
      have hkl : k < l.length := by rw [HN.out]; exact hlt
      obtain ⟨b, off, rfl, hb, hc⟩ := rd_el (dec := decC) (s := 4) (fun _ => rfl) (HI.out.up HB.out).2.1 HN.out hkl
      have hg := HG.out
      rw [List.drop_eq_getElem_cons hkl, List.all_cons] at hg
      have HV := Lib.hid (rcommand_val l[k] _ ((HI.out.up HB.out).2.2.2.2 _ (List.getElem_mem hkl)))
      obtain ⟨⟨xk, xm, xA, xn, xc, xs, xp⟩, hx⟩ : ∃ x, l[k] = x := ⟨_, rfl⟩
      rw [hx] at hc hg HV
      have c0 := hc 0 _ rfl
      have c1 := hc 1 _ rfl
      have c2 := hc 2 _ rfl
      have c3 := hc 3 _ rfl
      rw [Nat.add_zero] at c0
      dsimp only at c0 c1 c2 c3 HV
      obtain ⟨v, hv⟩ : ∃ v, cmB ⟨xk, xm, xA, xn, xc, xs, xp⟩ = v := ⟨_, rfl⟩
      rw [hv] at hg HV
      have HG2 := Lib.hid hg
      clear hlt hb hc hx hv hg hkl
      cases v with
      | true =>
        go_wp2_with fail
        refine HV.out.mono ?_
        rintro e w1 ⟨rfl, hb1⟩
        have HB1 := Lib.hid (below_trans' HB.out hb1)
        clear hb1
        go_wp2_with fail
        case roundEnd =>
          refine ⟨⟨k + 1, by omega, rfl, Lib.hid (HG2.out.trans (Bool.true_and _)), HB1.out⟩, ?_⟩
          simp only [intOf]; omega
      | false =>
        go_wp2_with fail
        refine HV.out.mono ?_
        rintro e w1 ⟨rfl, hb1⟩
        have HB1 := Lib.hid (below_trans' HB.out hb1)
        clear hb1
        go_wp2_with fail
        go_ret
        have hr : validB l = false := by unfold validB; rw [HG2.out]; simp
        rw [hr]
        exact ⟨rfl, HB1.out⟩
    · have hlt' : ¬ (k : Int) < (n : Int) := by omega
      obtain rfl : k = n := by omega
      have hg := HG.out
      rw [List.drop_of_length_le (by rw [HN.out]; exact Nat.le_refl _)] at hg
      have HG2 : Hid (validB l = decide ((k : Int) ≤ 300)) := Lib.hid (by unfold validB; rw [hg, HN.out, Bool.eq_iff_iff]; simp; omega)
      clear hg
      go_wp2_with fail
      go_ret
      rw [HG2.out]
      exact ⟨rfl, HB.out⟩
end Go.Proofs.YtbgekgakamincaaDoor.Pr

/- The reference's Few. -/
namespace Go.Proofs.YtbgekgakamincaaDoor.Pr
open Go.RowKit Go.Proofs.YtbgekgakamincaaDoor.Lx
set_option linter.unusedVariables false

def shortC (x : Cm) : Bool := decide (x.n ≤ 20) && decide (x.name.size ≤ 50)
/-- Few and short commands. -/
def fewB (l : List Cm) : Bool := decide (l.length ≤ 310) && l.all shortC
set_option maxRecDepth 100000 in
set_option maxHeartbeats 1000000 in
theorem few_val (A : Option Addr) (n c : Nat) (l : List Cm) (w : World) (h : IsCms w A n c l) :
    Calls Tryd.prog 13 #[.slice A n c] w fun e w' => e = .returned (.bool (fewB l)) ∧ w = w' := by
  have hnm : n ≤ 9223372036854775807 := Nat.le_trans h.2.2.1 (Nat.le_trans h.2.2.2.1 (by decide))
  have HI := Lib.hid h
  have HN := Lib.hid h.1
  clear h
  go_enter Tryd.func13, Tryd.ntmps13
  go_wp2_with fail
  go_loopw [3] (fun i wr => ∃ k : Nat, k ≤ n ∧ i = i64 (k : Nat) ∧ Hid (l.all shortC = (l.drop k).all shortC) ∧ w = wr) (fun i _ => n - (intOf i).toNat)
  case atStart => exact ⟨0, Nat.zero_le _, rfl, Lib.hid rfl, rfl⟩
  case round =>
    obtain ⟨k, hk, rfl, HG, rfl⟩ := hrel
    by_cases hlt : k < n
    · have hlt' : (k : Int) < (n : Int) := by omega
      have hkl : k < l.length := by rw [HN.out]; exact hlt
      obtain ⟨b, off, rfl, hb, hc⟩ := rd_el (dec := decC) (s := 4) (fun _ => rfl) HI.out.2.1 HN.out hkl
      have hg := HG.out
      rw [List.drop_eq_getElem_cons hkl, List.all_cons] at hg
      obtain ⟨⟨xk, xm, xA, xn, xc, xs, xp⟩, hx⟩ : ∃ x, l[k] = x := ⟨_, rfl⟩
      rw [hx] at hc hg
      have c1 := hc 1 _ rfl
      have c2 := hc 2 _ rfl
      dsimp only at c1 c2
      by_cases q1 : xn ≤ 20
      · have f1 : ¬ (20 : Int) < (xn : Int) := by omega
        by_cases q2 : xm.size ≤ 50
        · have f2 : ¬ (50 : Int) < (xm.size : Int) := by omega
          have HG2 : Hid (l.all shortC = (l.drop (k + 1)).all shortC) := Lib.hid (by rw [hg]; unfold shortC; rw [decide_eq_true q1, decide_eq_true q2]; rfl)
          clear hlt hb hc hx hg hkl q1 q2
          go_wp2_with fail
          case roundEnd =>
            refine ⟨⟨k + 1, by omega, rfl, HG2, trivial⟩, ?_⟩
            simp only [intOf]; omega
        · have f2 : (50 : Int) < (xm.size : Int) := by omega
          have HG2 : Hid (fewB l = false) := Lib.hid (by unfold fewB; rw [hg]; unfold shortC; rw [decide_eq_true q1, decide_eq_false q2]; simp)
          clear hlt hb hc hx hg hkl q1 q2
          go_wp2_with fail
          go_ret
          rw [HG2.out]
          exact ⟨rfl, rfl⟩
      · have f1 : (20 : Int) < (xn : Int) := by omega
        have HG2 : Hid (fewB l = false) := Lib.hid (by unfold fewB; rw [hg]; unfold shortC; rw [decide_eq_false q1]; simp)
        clear hlt hb hc hx hg hkl q1
        go_wp2_with fail
        go_ret
        rw [HG2.out]
        exact ⟨rfl, rfl⟩
    · have hlt' : ¬ (k : Int) < (n : Int) := by omega
      obtain rfl : k = n := by omega
      have hg := HG.out
      rw [List.drop_of_length_le (by rw [HN.out]; exact Nat.le_refl _)] at hg
      have HG2 : Hid (fewB l = decide ((k : Int) ≤ 310)) := Lib.hid (by unfold fewB; rw [hg, HN.out, Bool.eq_iff_iff]; simp; omega)
      clear hg
      go_wp2_with fail
      go_ret
      rw [HG2.out]
      exact ⟨rfl, rfl⟩
end Go.Proofs.YtbgekgakamincaaDoor.Pr

/- Commands in a row of their own. -/
namespace Go.Proofs.YtbgekgakamincaaDoor.Pr
open Go.RowKit Go.Proofs.YtbgekgakamincaaDoor.Lx
set_option linter.unusedVariables false
theorem info_cmd : (Tryd.prog.info? 40).map (fun i => (i.zero, i.size, i.bytes)) = some (some (.agg #[.int .i64 0, .string ⟨#[]⟩, .slice none 0 0, .int .i64 0]), 4, 56) := by kernel_rfl
theorem cms_own {w : World} {base n c : Nat} {A : Option Addr} {l : List Cm} (h : w.ownsRow base 40 4 (.slice A n c) n (l.flatMap decC)) (hl : l.length = n) (hg : ∀ x ∈ l, Cm.In w x) : IsCms w A n c l := by
  refine ⟨hl, Rd.of_own h, ?_, ?_, hg⟩
  · rcases h.2 with ⟨h1, rfl⟩ | ⟨g, cap, cur, h1, _, _, h2, _⟩
    · omega
    · injection h1 with _ _ h1; omega
  · rcases h.2 with ⟨h1, rfl⟩ | ⟨g, cap, cur, h1, _, _, _, h2, _⟩
    · injection h1 with _ _ h1; unfold maxLen; omega
    · injection h1 with _ _ h1; omega
theorem cms_blk {W : World} {g : Nat} {cs : Array Value} {l : List Cm} {n : Nat} (h : Blk W g 40 cs) (hx : cs.toList = l.flatMap decC) (hn : l.length = n) (hm : n ≤ maxLen) (hg : ∀ x ∈ l, Cm.In W x) : IsCms W (some ⟨g, 0, none⟩) n n l :=
  ⟨hn, rd_blk h 4 n _ hx (by rw [← Array.length_toList, hx, flat_len (k := 4) (fun _ => rfl), hn]), Nat.le_refl _, hm, hg⟩
theorem own_zero (w : World) (t : TypeId) (size : Nat) : (w.alloc (.cells #[] t)).ownsRow w.heap.size t size (.slice (some ⟨w.heap.size, 0, none⟩) 0 0) 0 [] :=
  ⟨by simp, .inr ⟨w.heap.size, 0, #[], rfl, Nat.le_refl _, heap_alloc_new w _, Nat.le_refl _, by decide, by simp, by simp⟩⟩
end Go.Proofs.YtbgekgakamincaaDoor.Pr
