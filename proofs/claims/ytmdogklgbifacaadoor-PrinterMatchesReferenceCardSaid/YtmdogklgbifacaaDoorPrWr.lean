/- printer's command: a line is written. -/
import Derived.StillTailTactics
import Derived.Lib.OthersKept
import Derived.Lib.AppendIntMem
import Derived.Test.YtmdogklgbifacaaDoorPrVars
import Derived.Test.YtmdogklgbifacaaDoorPrBld
import Derived.Test.YtmdogklgbifacaaDoorExt
import Derived.Test.YtmdogklgbifacaaDoorQt
namespace Go.Proofs.YtmdogklgbifacaaDoor.Pr
open Go.RowKit Go.Proofs.YtmdogklgbifacaaDoor.Lx
set_option linter.unusedVariables false

theorem bldAt_up {B b : Nat} {p : Value} {bs : List Value} {W W' : World} (h : BldAt B b p bs W) (hb : Below W.heap.size W W') : BldAt B b p bs W' := by
  have hlt := h.lt
  obtain ⟨hB, v, hv, hown, hne⟩ := h
  exact ⟨hB, v, (hb.block b hlt).trans hv, hown.kept (row := none) ⟨hb.os, hb.tape, hb.output, hb.size, fun k hk _ => hb.block k hk⟩ (Classical.em _), hne⟩
theorem bld_up {B b : Nat} {bs : List Value} {W W' : World} (h : Bld B b bs W) (hb : Below W.heap.size W W') : Bld B b bs W' := h.elim (fun x => .inl (bldAt_up x hb)) (fun x => .inr (bldAt_up x hb))
theorem oth_up {b : Nat} {W W' : World} (hb : Below W.heap.size W W') : Oth b W W' := fun k o hk _ _ => (hb.block k (Array.getElem?_eq_some_iff.1 hk).1).trans hk
theorem blk_oth {b g : Nat} {t : TypeId} {cs : Array Value} {w w' : World} (h : Blk w g t cs) (ho : Oth b w w') (hg : g ≠ b) (ht : t ≠ 5) : Blk w' g t cs :=
  ho g _ h (fun e => hg (Option.some.inj e)) (fun c fz e => by injection e with _ e2; exact ht e2)
theorem lt_bld {B b : Nat} {bs : List Value} {W : World} (h : Bld B b bs W) : b < W.heap.size := h.elim (fun x => x.lt) (fun x => x.lt)
/-- How many numbers a form wants. -/
def numF : List UInt8 → Nat
  | [] => 0
  | c :: r => (if c = 35 ∨ c = 37 then 1 else 0) + numF r
theorem numF_form {k : Int} (h : kind11 k) : ((numF (formP k.toNat) : Nat) : Int) = (shapeOf k).2 := by
  rcases h with rfl | rfl | rfl | rfl | rfl | rfl | rfl | rfl | rfl | rfl | rfl <;> decide
theorem formP_ascii (k : Nat) : ∀ c ∈ formP k, c.toNat < 128 := by
  have h : (formP k).all (fun c => decide (c.toNat < 128)) = true := by
    unfold formP
    have hi : ∀ {p : Prop} [Decidable p] {a b : List UInt8}, a.all (fun c => decide (c.toNat < 128)) = true → b.all (fun c => decide (c.toNat < 128)) = true → (if p then a else b).all (fun c => decide (c.toNat < 128)) = true := by
      intro p _ a b ha hb; split <;> assumption
    repeat (refine hi (by decide) ?_)
    decide
  intro c hc
  have := List.all_eq_true.1 h c hc
  simpa using this
theorem size_int (w : World) : (sizeOf (Tryd.prog.elem 44)).run Tryd.prog w = .ok 1 w := by kernel_rfl
theorem elem_int : Tryd.prog.underlying 44 = some (.slice (Tryd.prog.elem 44)) := by kernel_rfl
def restA (A : Option Addr) (c : Nat) : Option Addr := if c = 1 then A else A.map (·.add (1 * 1))
theorem slice_one (A : Option Addr) (n c : Nat) (h1 : 1 ≤ n) (w : World) : (Instr.slice 44 (.slice A n c) (some (.int .i64 1)) none none).run Tryd.prog w = .ok (.slice (restA A c) (n - 1) (c - 1)) w := by
  rw [run_slice_l w 44 A n c elem_int .i64 _ (by omega) (by omega), size_int]
  rfl
theorem runeB (c : UInt8) (h : c.toNat < 128) : Lib.runeCells (c.toNat : Int) = Lib.byteCells [c] := by
  unfold Lib.runeCells
  rw [Lib.encodeRuneZ_one (by omega) (by omega)]
  rfl
theorem strB (s : ByteArray) : Lib.strCells s = Lib.byteCells s.data.toList := rfl
theorem byteCells_app (a b : List UInt8) : Lib.byteCells a ++ Lib.byteCells b = Lib.byteCells (a ++ b) := by unfold Lib.byteCells; rw [List.map_append]
/-- Numbers that are still to be written. -/
structure RestIs (w0 : World) (A : Option Addr) (n c : Nat) (r : List Int) : Prop where
  rd : Rd w0 w0.heap.size 1 A n (r.map iv)
  len : r.length = n
  nc : n ≤ c
  cm : c ≤ maxLen
  rng : ∀ v ∈ r, -1000000000 ≤ v ∧ v ≤ 1000000000
theorem RestIs.tail {w0 : World} {A : Option Addr} {n c : Nat} {v : Int} {r : List Int} (h : RestIs w0 A n c (v :: r)) : RestIs w0 (restA A c) (n - 1) (c - 1) r := by
  have hl := h.len
  have h1 : 1 ≤ n := by rw [← hl]; simp
  have := h.rd.cut (k := 1) h1 h.nc
  refine ⟨this, by simp at hl; omega, by have := h.nc; omega, by have := h.cm; omega, fun x hx => h.rng x (List.mem_cons_of_mem _ hx)⟩
theorem RestIs.cell {w0 : World} {A : Option Addr} {n c : Nat} {v : Int} {r : List Int} (h : RestIs w0 A n c (v :: r)) : ∃ b off, A = some ⟨b, off, none⟩ ∧ b < w0.heap.size ∧ w0.cell? ⟨b, off, none⟩ = some (.int .i64 v) := by
  obtain ⟨b, off, e, hb, hc⟩ := h.rd.2 (by rw [← h.len]; simp)
  exact ⟨b, off, e, hb, hc 0 _ rfl⟩

/-- Where a command's writing stands. -/
structure St (w0 w : World) (b : Nat) (FB : ByteArray) (cs : Array Value) (i : Nat) (txt : List UInt8) (W : World) : Prop where
  it : W.heap[w.heap.size + 1]? = some (.stringIter FB i)
  bld : Bld w0.heap.size b (Lib.byteCells txt) W
  bel : Below w0.heap.size w0 W
  oth : Oth b w W
  box : Blk W w.heap.size 46 cs
  lt : b < w.heap.size
  hw : w0.heap.size ≤ w.heap.size
theorem St.next {w0 w : World} {b : Nat} {FB : ByteArray} {cs : Array Value} {i : Nat} {txt : List UInt8} {W : World} (h : St w0 w b FB cs i txt W) (j : Nat) : St w0 w b FB cs j txt (W.iterAt (w.heap.size + 1) FB j) := by
  refine ⟨Lib.iterAt_heap W _ FB i j h.it, h.bld.iterAt h.it j, Lib.below_iterAt h.bel (by have := h.hw; omega) FB j, fun k o hk hb ho => ?_, ?_, h.lt, h.hw⟩
  · have hlt : k < w.heap.size := (Array.getElem?_eq_some_iff.1 hk).1
    rw [Lib.iterAt_other W (w.heap.size + 1) k FB j (by omega)]
    exact h.oth k o hk hb ho
  · exact (Lib.iterAt_other W (w.heap.size + 1) w.heap.size FB j (by omega)).trans h.box
theorem St.write {w0 w : World} {b : Nat} {FB : ByteArray} {cs : Array Value} {i : Nat} {txt s : List UInt8} {p : Value} {W W' : World} (h : St w0 w b FB cs i txt W) (hp : p = .pointer (some ⟨b, 0, none⟩))
    (h1 : BldAt w0.heap.size b p (Lib.byteCells txt ++ Lib.byteCells s) W') (h2 : Below w0.heap.size W W') (h3 : Oth b W W') : St w0 w b FB cs i (txt ++ s) W' := by
  rw [byteCells_app] at h1
  subst hp
  exact ⟨h3.iter h.it (by have := h.lt; omega), .inr h1, h.bel.trans h2, h.oth.trans h3, blk_oth h.box h3 (by have := h.lt; omega) (by decide), h.lt, h.hw⟩
theorem St.up {w0 w : World} {b : Nat} {FB : ByteArray} {cs : Array Value} {i : Nat} {txt : List UInt8} {W W' : World} (h : St w0 w b FB cs i txt W) (hb : Below W.heap.size W W') : St w0 w b FB cs i txt W' :=
  ⟨(hb.block _ (Array.getElem?_eq_some_iff.1 h.it).1).trans h.it, bld_up h.bld hb, h.bel.trans (hb.mono h.bel.size), h.oth.trans (oth_up hb), h.box.up' hb, h.lt, h.hw⟩
theorem St.size {w0 w : World} {b : Nat} {FB : ByteArray} {cs : Array Value} {i : Nat} {txt : List UInt8} {W : World} (h : St w0 w b FB cs i txt W) : w0.heap.size ≤ W.heap.size := h.bel.size
theorem St.pos {w0 w : World} {b : Nat} {FB : ByteArray} {cs : Array Value} {i : Nat} {txt : List UInt8} {W : World} (h : St w0 w b FB cs i txt W) : W.iterPos (w.heap.size + 1) = i := by simp [World.iterPos, h.it]

theorem itoa_val (m : Nat) (hm : m ≤ 1000000000) {w0 w : World} (hv : VarP w0) (h0 : Below w0.heap.size w0 w) :
    Calls Tryd.prog 41 #[.int .i64 (m : Nat)] w fun e w' => e = .returned (.string ⟨(Lib.decDigits m).toArray⟩) ∧ Below w.heap.size w w' := by
  refine (Tryd.strconv_Itoa (m : Int) (by omega) (by omega) w (tabIs_up gPow hv.pow h0)).mono ?_
  rintro e w' ⟨rfl, k, os, rfl⟩
  exact ⟨by rw [Lib.itoa_nonneg], Lib.below_grow _ w (Nat.le_refl _) k os⟩

set_option maxRecDepth 100000 in
set_option maxHeartbeats 4000000 in
theorem wr_val (w0 : World) (b : Nat) (bs : List UInt8) (x : Cm) (w : World) (h0 : Below w0.heap.size w0 w) (hx : Cm.In w0 x) (ho : OkC x.kind x.name x.ns) (hv : VarP w0) (hbd : Bld w0.heap.size b (Lib.byteCells bs) w) (hlen : bs.length ≤ 1000000) :
    Calls Tryd.prog 21 #[.pointer (some ⟨b, 0, none⟩), .agg #[.int .i64 x.kind, .string x.name, .slice x.A x.n x.c, .int .i64 x.pos]] w fun e w' => e = .returned (.tuple #[]) ∧ Bld w0.heap.size b (Lib.byteCells (bs ++ (lnC x ++ [10]))) w' ∧ Below w0.heap.size w0 w' ∧ Oth b w w' := by
  obtain ⟨k, nm, A, n, c, ns, p⟩ := x
  have hbw := lt_bld hbd
  have hsz0 := h0.size
  dsimp only at ho
  have hkd := ho.kind
  obtain ⟨K, rfl⟩ : ∃ K : Nat, k = (K : Int) := ⟨k.toNat, by rcases hkd with h | h | h | h | h | h | h | h | h | h | h <;> omega⟩
  have hK12 : K < 12 := by rcases hkd with h | h | h | h | h | h | h | h | h | h | h <;> omega
  have hnm12 : nm.size ≤ 12 := ho.name12
  have hnl := hx.len
  dsimp only at hnl
  have hnf : numF (formP K) = n := by have h1 := numF_form hkd; have h2 := ho.len; rw [Int.toNat_natCast] at h1; omega
  have HRE : Hid (RestIs w0 A n c ns) := Lib.hid ⟨hx.rd, hnl, hx.nc, hx.cm, ho.range⟩
  have hK0 : (0 : Int) ≤ (K : Int) := by omega
  have hK1 : (K : Int) < 12 := by omega
  have hfc := hv.forms K hK12
  have hasc := formP_ascii K
  have hfl := formP_len K
  have hwl := wrF_len nm.data.toList (by rw [show nm.data.toList.length = nm.size from Array.length_toList]; exact hnm12) (formP K) ns ho.range
  have HLN : Hid (lnC ⟨(K : Int), nm, A, n, c, ns, p⟩ = wrF nm.data.toList (formP K) ns ++ [59]) := Lib.hid (by unfold lnC lineL; rw [Int.toNat_natCast])
  obtain ⟨F, hF⟩ : ∃ F, formP K = F := ⟨_, rfl⟩
  rw [hF] at hfc hnf hasc hfl hwl HLN
  have HASC := Lib.hid hasc
  obtain ⟨FB, hFB⟩ : ∃ FB : ByteArray, ⟨F.toArray⟩ = FB := ⟨_, rfl⟩
  have HFB : Hid (FB.data.toList = F) := Lib.hid (by rw [← hFB])
  have hFs : FB.size = F.length := by rw [← hFB]; rfl
  rw [hFB] at hfc
  have HFL := Lib.hid hfl
  have HFS := Lib.hid hFs
  have HWL := Lib.hid hwl
  have HNF := Lib.hid hnf
  have HV := Lib.hid hv
  have HB0 := Lib.hid h0
  have BX0 : Hid (Blk (w.alloc (.cells #[.int .i64 (K : Int), .string nm, .slice A n c, .int .i64 p] 46)) w.heap.size 46 #[.int .i64 (K : Int), .string nm, .slice A n c, .int .i64 p]) := Lib.hid (Blk.new w _ _)
  have hcF0 : w.cell? ⟨0, K, none⟩ = some (.string FB) := (h0.cell (Lx.cell_lt hfc)).trans hfc
  have hcF : (w.alloc (.cells #[.int .i64 (K : Int), .string nm, .slice A n c, .int .i64 p] 46)).cell? ⟨0, K, none⟩ = some (.string FB) := by rw [World.cell?_alloc_lt _ _ _ (Lx.cell_lt hcF0)]; exact hcF0
  clear hx ho hv hkd hasc hF hFB hfl hwl hnf hfc hcF0
  go_enter Tryd.func21, Tryd.ntmps21
  go_wp2_with fail
  have hs0 : St w0 w b FB #[.int .i64 (K : Int), .string nm, .slice A n c, .int .i64 p] 0 bs ((w.alloc (.cells #[.int .i64 (K : Int), .string nm, .slice A n c, .int .i64 p] 46)).iter FB 0) := by
    have hw1 : Below w0.heap.size w0 (w.alloc (.cells #[.int .i64 (K : Int), .string nm, .slice A n c, .int .i64 p] 46)) := h0.alloc hsz0 _
    have e1 : ((w.alloc (.cells #[.int .i64 (K : Int), .string nm, .slice A n c, .int .i64 p] 46)).iter FB 0).heap[w.heap.size + 1]? = some (.stringIter FB 0) := by
      have h5 := World.iter_heap (w.alloc (.cells #[.int .i64 (K : Int), .string nm, .slice A n c, .int .i64 p] 46)) FB 0
      simpa using h5
    exact ⟨e1, (hbd.alloc _).alloc _, hw1.alloc hw1.size _, ((Lib.OthersKept.refl _ _ w).alloc _).alloc _, BX0.out.alloc _, hbw, hsz0⟩
  obtain ⟨W0, hW0⟩ : ∃ W0, (w.alloc (.cells #[.int .i64 (K : Int), .string nm, .slice A n c, .int .i64 p] 46)).iter FB 0 = W0 := ⟨_, rfl⟩
  rw [hW0] at hs0 ⊢
  have HS0 := Lib.hid hs0
  clear hW0 hs0 BX0 hbd h0 hcF
  go_loopw [4, 6, 7] (fun r x wd wr => ∃ (i nr cr : Nat) (Ar : Option Addr) (rest : List Int) (D : List UInt8) (zx zw : Value), i ≤ FB.size ∧ r = .slice Ar nr cr ∧ x = zx ∧ wd = zw ∧ Hid (RestIs w0 Ar nr cr rest) ∧ Hid (wrF nm.data.toList F ns = D ++ wrF nm.data.toList (F.drop i) rest) ∧ Hid (numF (F.drop i) = nr) ∧ Hid (St w0 w b FB #[.int .i64 (K : Int), .string nm, .slice A n c, .int .i64 p] i (bs ++ D) wr)) (fun _ _ _ wr => FB.size - wr.iterPos (w.heap.size + 1))
  case atStart => exact ⟨0, n, c, A, ns, [], _, _, Nat.zero_le _, rfl, rfl, rfl, HRE, Lib.hid rfl, Lib.hid HNF.out, Lib.hid (by rw [List.append_nil]; exact HS0.out)⟩
  case round =>
    obtain ⟨i, nr, cr, Ar, rest, D, zx, zw, hi, rfl, rfl, rfl, HR, HG, HNR, HS⟩ := hrel
    have hmu := HS.out.pos
    have HDL : Hid (D.length ≤ 1040) := Lib.hid (by have h1 := HWL.out; rw [HG.out, List.length_append] at h1; have := HFL.out; omega)
    by_cases hlt : i < FB.size
    · have hiF : i < F.length := by rw [← HFS.out]; exact hlt
      have hg := HG.out
      have hnr := HNR.out
      rw [List.drop_eq_getElem_cons hiF] at hg hnr
      have h128 : (FB[i]'hlt).toNat < 128 := HASC.out _ (by rw [← HFB.out]; exact Array.getElem_mem_toList _)
      have hcc : F[i] = FB[i]'hlt := by simp only [← HFB.out]; rfl
      rw [hcc] at hg hnr
      have hnext : ∀ ty, (Instr.next (.pointer (some ⟨w.heap.size + 1, 0, none⟩)) true ty).run Tryd.prog wr = _ := fun ty => Lib.run_next_ascii_at wr (w.heap.size + 1) FB i ty HS.out.it hlt h128
      obtain ⟨ch, hch⟩ : ∃ ch, FB[i]'hlt = ch := ⟨_, rfl⟩
      rw [hch] at hg hnr h128 hnext
      have hs1 := HS.out.next (i + 1)
      obtain ⟨W1, hW1⟩ : ∃ W1, wr.iterAt (w.heap.size + 1) FB (i + 1) = W1 := ⟨_, rfl⟩
      rw [hW1] at hs1 hnext
      have HS1 := Lib.hid hs1
      simp only [wrF, numF] at hg hnr
      clear hs1 hW1 hch hcc hiF
      by_cases h78 : ch = 78
      · rw [if_pos h78] at hg
        rw [if_neg (by rw [h78]; decide)] at hnr
        have f1 : ((ch.toNat : Int) == 78) = true := by rw [h78]; rfl
        have hdr := (Below.refl W1.heap.size W1).drew
        have c1 : W1.cell? ⟨w.heap.size, 1, none⟩ = some (.string nm) := HS1.out.box.cell 1
        have HC := Lib.hid (bld_str w0.heap.size b (Lib.byteCells (bs ++ D)) nm W1.drew (HS1.out.up hdr).bld (by rw [Lib.byteCells_length, List.length_append]; have := HDL.out; omega) (HS1.out.up hdr).size)
        have HSd := Lib.hid (HS1.out.up hdr)
        have HG2 := Lib.hid hg
        have HN2 : Hid (numF (F.drop (i + 1)) = nr) := Lib.hid (by omega)
        clear hg hnr h78 hdr
        go_wp2_with fail
        go_still_tail 5, (by kernel_rfl)
        go_wp2_with fail
        refine HC.out.mono ?_
        rintro e w2 ⟨rfl, ha, hb2, ho2⟩
        have HS2 := Lib.hid (HSd.out.write rfl ha hb2 ho2)
        have hmu2 := HS2.out.pos
        clear ha hb2 ho2
        go_wp2_with fail
        case roundEnd =>
          refine ⟨⟨i + 1, nr, cr, Ar, rest, D ++ nm.data.toList, _, _, by omega, rfl, rfl, rfl, HR, Lib.hid ?_, HN2, Lib.hid ?_⟩, ?_⟩
          · rw [HG2.out, List.append_assoc]
          · have := HS2.out; rwa [List.append_assoc] at this
          · rw [hmu, hmu2]; omega
      rw [if_neg h78] at hg
      have f1 : ((ch.toNat : Int) == 78) = false := by rw [beq_eq_false_iff_ne]; intro e; exact h78 (UInt8.toNat_inj.1 (show ch.toNat = 78 from by omega))
      by_cases h37 : ch = 37
      · rw [if_pos h37] at hg
        obtain ⟨v, r2, rfl⟩ : ∃ v r2, rest = v :: r2 := by
          match rest, HR.out.len with
          | [], hl => simp [h37] at hl hnr; omega
          | v :: r2, _ => exact ⟨v, r2, rfl⟩
        obtain ⟨nb, no, rfl, hnb, hnc⟩ := HR.out.cell
        have hnr1 : 1 ≤ nr := by have := HR.out.len; simp at this; omega
        have hv9 := HR.out.rng v (List.mem_cons_self ..)
        have HRT := Lib.hid HR.out.tail
        simp only [List.headD_cons, List.tail_cons] at hg
        rw [if_pos (by rw [h37]; decide)] at hnr
        have HN2 : Hid (numF (F.drop (i + 1)) = nr - 1) := Lib.hid (by omega)
        have f3 : ((ch.toNat : Int) == 37) = true := by rw [h37]; rfl
        have c1 : W1.cell? ⟨nb, no, none⟩ = some (.int .i64 v) := (HS1.out.bel.cell hnb).trans hnc
        by_cases q1 : v < 0
        · have f4 : v < 0 := q1
          have HG2 : Hid (wrF nm.data.toList F ns = D ++ ([115, 108, 111, 119, 32] ++ (dg v ++ wrF nm.data.toList (F.drop (i + 1)) r2))) := Lib.hid (by rw [hg]; unfold driftL dg; rw [if_pos q1, List.append_assoc])
          have HC := Lib.hid (bld_str w0.heap.size b (Lib.byteCells (bs ++ D)) ⟨#[115, 108, 111, 119, 32]⟩ W1 HS1.out.bld (by rw [Lib.byteCells_length, List.length_append]; have := HDL.out; show _ + 5 ≤ _; omega) HS1.out.size)
          clear hg hnr h78 h37
          go_wp2_with fail
          refine HC.out.mono ?_
          rintro e w2 ⟨rfl, ha, hb2, ho2⟩
          have HS2 : Hid (St w0 w b FB #[.int .i64 (K : Int), .string nm, .slice A n c, .int .i64 p] (i + 1) (bs ++ (D ++ [115, 108, 111, 119, 32])) w2) := Lib.hid (by have := HS1.out.write (s := [115, 108, 111, 119, 32]) rfl ha hb2 ho2; rwa [List.append_assoc] at this)
          clear ha hb2 ho2 c1
          go_wp2_with fail
          have HC15 := Lib.hid (fun (W : World) (hb : Below w2.heap.size w2 W) => itoa_val v.natAbs (by omega) (w := W) HV.out (HS2.out.bel.trans (hb.mono HS2.out.size)))
          obtain ⟨NB, hNB⟩ : ∃ NB : ByteArray, ⟨(Lib.decDigits v.natAbs).toArray⟩ = NB := ⟨_, rfl⟩
          have HNBl : Hid (NB.data.toList = dg v) := Lib.hid (by rw [← hNB]; rfl)
          have HNBs : Hid (NB.size ≤ 21) := Lib.hid (by rw [← hNB]; exact dec_len (by omega))
          rw [hNB] at HC15
          have g1 : ∀ q : WOf (Below w2.heap.size w2), q.w.cell? ⟨nb, no, none⟩ = some (.int .i64 v) := fun q => (q.ok.cell (Nat.lt_of_lt_of_le hnb HS2.out.size)).trans ((HS2.out.bel.cell hnb).trans hnc)
          have hup : ∀ a b, Below w2.heap.size w2 a → Below a.heap.size a b → Below w2.heap.size w2 b := fun a b h k => below_trans' h k
          have hsl := slice_one (some ⟨nb, no, none⟩) nr cr hnr1
          have HIT : Hid (∀ q : WOf (Below w2.heap.size w2), Calls Tryd.prog 41 #[.int .i64 (max v (-v))] q.w fun e w' => e = .returned (.string NB) ∧ Below q.w.heap.size q.w w') := Lib.hid (fun q => by have := HC15.out q.w q.ok; rwa [show ((v.natAbs : Nat) : Int) = max v (-v) by omega] at this)
          clear hNB
          refine wp_region_qt (Below w2.heap.size w2) 12 (Below.refl _ _) hup (by kernel_rfl) (by kernel_rfl) (fun hne => ?_)
          simp only [List.take_succ_cons, List.take_zero, List.drop_succ_cons, List.drop_zero]
          repeat (go_big_quiet_step (with_reducible exact calls_ext hup (HIT.out _)))
          refine wpQuiet_nil ?_
          clear hne
          intro q
          obtain ⟨wx, hxx⟩ := q
          have HSx := Lib.hid (HS2.out.up hxx)
          have HCx := Lib.hid (bld_str w0.heap.size b (Lib.byteCells (bs ++ (D ++ [115, 108, 111, 119, 32]))) NB wx HSx.out.bld (by rw [Lib.byteCells_length, List.length_append, List.length_append]; have := HDL.out; simp only [List.length_cons, List.length_nil]; have := HNBs.out; omega) HSx.out.size)
          clear g1 HIT HC15 hup
          go_wp2_with fail
          refine HCx.out.mono ?_
          rintro e w5 ⟨rfl, ha, hb2, ho2⟩
          have HS5 := Lib.hid (HSx.out.write rfl ha hb2 ho2)
          have hmu2 := HS5.out.pos
          clear ha hb2 ho2
          go_wp2_with fail
          case roundEnd =>
            refine ⟨⟨i + 1, nr - 1, cr - 1, _, r2, (D ++ [115, 108, 111, 119, 32]) ++ NB.data.toList, _, _, by omega, rfl, rfl, rfl, HRT, Lib.hid ?_, HN2, Lib.hid ?_⟩, ?_⟩
            · rw [HG2.out, HNBl.out]; simp
            · have := HS5.out; rwa [List.append_assoc] at this
            · rw [hmu, hmu2]; omega
        · have f4 : ¬ v < 0 := q1
          have HG2 : Hid (wrF nm.data.toList F ns = D ++ ([102, 97, 115, 116, 32] ++ (dg v ++ wrF nm.data.toList (F.drop (i + 1)) r2))) := Lib.hid (by rw [hg]; unfold driftL dg; rw [if_neg q1, List.append_assoc])
          have HC := Lib.hid (bld_str w0.heap.size b (Lib.byteCells (bs ++ D)) ⟨#[102, 97, 115, 116, 32]⟩ W1 HS1.out.bld (by rw [Lib.byteCells_length, List.length_append]; have := HDL.out; show _ + 5 ≤ _; omega) HS1.out.size)
          clear hg hnr h78 h37
          go_wp2_with fail
          refine HC.out.mono ?_
          rintro e w2 ⟨rfl, ha, hb2, ho2⟩
          have HS2 : Hid (St w0 w b FB #[.int .i64 (K : Int), .string nm, .slice A n c, .int .i64 p] (i + 1) (bs ++ (D ++ [102, 97, 115, 116, 32])) w2) := Lib.hid (by have := HS1.out.write (s := [102, 97, 115, 116, 32]) rfl ha hb2 ho2; rwa [List.append_assoc] at this)
          clear ha hb2 ho2 c1
          go_wp2_with fail
          have HC15 := Lib.hid (fun (W : World) (hb : Below w2.heap.size w2 W) => itoa_val v.natAbs (by omega) (w := W) HV.out (HS2.out.bel.trans (hb.mono HS2.out.size)))
          obtain ⟨NB, hNB⟩ : ∃ NB : ByteArray, ⟨(Lib.decDigits v.natAbs).toArray⟩ = NB := ⟨_, rfl⟩
          have HNBl : Hid (NB.data.toList = dg v) := Lib.hid (by rw [← hNB]; rfl)
          have HNBs : Hid (NB.size ≤ 21) := Lib.hid (by rw [← hNB]; exact dec_len (by omega))
          rw [hNB] at HC15
          have g1 : ∀ q : WOf (Below w2.heap.size w2), q.w.cell? ⟨nb, no, none⟩ = some (.int .i64 v) := fun q => (q.ok.cell (Nat.lt_of_lt_of_le hnb HS2.out.size)).trans ((HS2.out.bel.cell hnb).trans hnc)
          have hup : ∀ a b, Below w2.heap.size w2 a → Below a.heap.size a b → Below w2.heap.size w2 b := fun a b h k => below_trans' h k
          have hsl := slice_one (some ⟨nb, no, none⟩) nr cr hnr1
          have HIT : Hid (∀ q : WOf (Below w2.heap.size w2), Calls Tryd.prog 41 #[.int .i64 (max v (-v))] q.w fun e w' => e = .returned (.string NB) ∧ Below q.w.heap.size q.w w') := Lib.hid (fun q => by have := HC15.out q.w q.ok; rwa [show ((v.natAbs : Nat) : Int) = max v (-v) by omega] at this)
          clear hNB
          refine wp_region_qt (Below w2.heap.size w2) 12 (Below.refl _ _) hup (by kernel_rfl) (by kernel_rfl) (fun hne => ?_)
          simp only [List.take_succ_cons, List.take_zero, List.drop_succ_cons, List.drop_zero]
          repeat (go_big_quiet_step (with_reducible exact calls_ext hup (HIT.out _)))
          refine wpQuiet_nil ?_
          clear hne
          intro q
          obtain ⟨wx, hxx⟩ := q
          have HSx := Lib.hid (HS2.out.up hxx)
          have HCx := Lib.hid (bld_str w0.heap.size b (Lib.byteCells (bs ++ (D ++ [102, 97, 115, 116, 32]))) NB wx HSx.out.bld (by rw [Lib.byteCells_length, List.length_append, List.length_append]; have := HDL.out; simp only [List.length_cons, List.length_nil]; have := HNBs.out; omega) HSx.out.size)
          clear g1 HIT HC15 hup
          go_wp2_with fail
          refine HCx.out.mono ?_
          rintro e w5 ⟨rfl, ha, hb2, ho2⟩
          have HS5 := Lib.hid (HSx.out.write rfl ha hb2 ho2)
          have hmu2 := HS5.out.pos
          clear ha hb2 ho2
          go_wp2_with fail
          case roundEnd =>
            refine ⟨⟨i + 1, nr - 1, cr - 1, _, r2, (D ++ [102, 97, 115, 116, 32]) ++ NB.data.toList, _, _, by omega, rfl, rfl, rfl, HRT, Lib.hid ?_, HN2, Lib.hid ?_⟩, ?_⟩
            · rw [HG2.out, HNBl.out]; simp
            · have := HS5.out; rwa [List.append_assoc] at this
            · rw [hmu, hmu2]; omega
      rw [if_neg h37] at hg
      have f2 : ((ch.toNat : Int) == 37) = false := by rw [beq_eq_false_iff_ne]; intro e; exact h37 (UInt8.toNat_inj.1 (show ch.toNat = 37 from by omega))
      by_cases h35 : ch = 35
      · rw [if_pos h35] at hg
        obtain ⟨v, r2, rfl⟩ : ∃ v r2, rest = v :: r2 := by
          match rest, HR.out.len with
          | [], hl => simp [h35] at hl hnr; omega
          | v :: r2, _ => exact ⟨v, r2, rfl⟩
        obtain ⟨nb, no, rfl, hnb, hnc⟩ := HR.out.cell
        have hnr1 : 1 ≤ nr := by have := HR.out.len; simp at this; omega
        have hv9 := HR.out.rng v (List.mem_cons_self ..)
        have HRT := Lib.hid HR.out.tail
        simp only [List.headD_cons, List.tail_cons] at hg
        rw [if_pos (by rw [h35]; decide)] at hnr
        have HG2 := Lib.hid hg
        have HN2 : Hid (numF (F.drop (i + 1)) = nr - 1) := Lib.hid (by omega)
        have f3 : ((ch.toNat : Int) == 35) = true := by rw [h35]; rfl
        clear hg hnr h78 h37 h35
        go_wp2_with fail
        have HC15 := Lib.hid (fun (W : World) (hb : Below W1.heap.size W1 W) => itoa_val v.natAbs (by omega) (w := W) HV.out (HS1.out.bel.trans (hb.mono HS1.out.size)))
        obtain ⟨NB, hNB⟩ : ∃ NB : ByteArray, ⟨(Lib.decDigits v.natAbs).toArray⟩ = NB := ⟨_, rfl⟩
        have HNBl : Hid (NB.data.toList = dg v) := Lib.hid (by rw [← hNB]; rfl)
        have HNBs : Hid (NB.size ≤ 21) := Lib.hid (by rw [← hNB]; exact dec_len (by omega))
        rw [hNB] at HC15
        have g1 : ∀ q : WOf (Below W1.heap.size W1), q.w.cell? ⟨nb, no, none⟩ = some (.int .i64 v) := fun q => (q.ok.cell (Nat.lt_of_lt_of_le hnb HS1.out.size)).trans ((HS1.out.bel.cell hnb).trans hnc)
        have hup : ∀ a b, Below W1.heap.size W1 a → Below a.heap.size a b → Below W1.heap.size W1 b := fun a b h k => below_trans' h k
        have hsl := slice_one (some ⟨nb, no, none⟩) nr cr hnr1
        have HIT : Hid (∀ q : WOf (Below W1.heap.size W1), Calls Tryd.prog 41 #[.int .i64 (max v (-v))] q.w fun e w' => e = .returned (.string NB) ∧ Below q.w.heap.size q.w w') := Lib.hid (fun q => by have := HC15.out q.w q.ok; rwa [show ((v.natAbs : Nat) : Int) = max v (-v) by omega] at this)
        clear hNB
        refine wp_region_qt (Below W1.heap.size W1) 12 (Below.refl _ _) hup (by kernel_rfl) (by kernel_rfl) (fun hne => ?_)
        simp only [List.take_succ_cons, List.take_zero, List.drop_succ_cons, List.drop_zero]
        repeat (go_big_quiet_step (with_reducible exact calls_ext hup (HIT.out _)))
        refine wpQuiet_nil ?_
        clear hne
        intro q
        obtain ⟨wx, hxx⟩ := q
        have HSx := Lib.hid (HS1.out.up hxx)
        have HCx := Lib.hid (bld_str w0.heap.size b (Lib.byteCells (bs ++ D)) NB wx HSx.out.bld (by rw [Lib.byteCells_length, List.length_append]; have := HDL.out; have := HNBs.out; omega) HSx.out.size)
        clear g1 HIT HC15 hup
        go_wp2_with fail
        refine HCx.out.mono ?_
        rintro e w5 ⟨rfl, ha, hb2, ho2⟩
        have HS5 := Lib.hid (HSx.out.write rfl ha hb2 ho2)
        have hmu2 := HS5.out.pos
        clear ha hb2 ho2
        go_wp2_with fail
        case roundEnd =>
          refine ⟨⟨i + 1, nr - 1, cr - 1, _, r2, D ++ NB.data.toList, _, _, by omega, rfl, rfl, rfl, HRT, Lib.hid ?_, HN2, Lib.hid ?_⟩, ?_⟩
          · rw [HG2.out, HNBl.out]; simp
          · have := HS5.out; rwa [List.append_assoc] at this
          · rw [hmu, hmu2]; omega
      rw [if_neg h35] at hg
      rw [if_neg (by simp [h35, h37])] at hnr
      have f3 : ((ch.toNat : Int) == 35) = false := by rw [beq_eq_false_iff_ne]; intro e; exact h35 (UInt8.toNat_inj.1 (show ch.toNat = 35 from by omega))
      have HG2 := Lib.hid hg
      have HN2 : Hid (numF (F.drop (i + 1)) = nr) := Lib.hid (by omega)
      have HC := Lib.hid (bld_rune w0.heap.size b (Lib.byteCells (bs ++ D)) (ch.toNat : Int) (by omega) (by omega) W1 HS1.out.bld (by rw [Lib.byteCells_length, List.length_append]; have := HDL.out; omega) HS1.out.size)
      have HRB := Lib.hid (runeB ch h128)
      clear hg hnr h78 h37 h35
      go_wp2_with fail
      refine HC.out.mono ?_
      rintro e w2 ⟨rfl, ha, hb2, ho2⟩
      rw [HRB.out] at ha
      have HS2 := Lib.hid (HS1.out.write rfl ha hb2 ho2)
      have hmu2 := HS2.out.pos
      clear ha hb2 ho2
      go_wp2_with fail
      case roundEnd =>
        refine ⟨⟨i + 1, nr, cr, Ar, rest, D ++ [ch], _, _, by omega, rfl, rfl, rfl, HR, Lib.hid ?_, HN2, Lib.hid ?_⟩, ?_⟩
        · rw [HG2.out]; simp
        · have := HS2.out; rwa [List.append_assoc] at this
        · rw [hmu, hmu2]; omega
    · have hnext : ∀ ty, (Instr.next (.pointer (some ⟨w.heap.size + 1, 0, none⟩)) true ty).run Tryd.prog wr = _ := fun ty => Lib.run_next_end_at wr (w.heap.size + 1) FB i ty HS.out.it hlt
      have hg := HG.out
      rw [List.drop_of_length_le (by rw [← HFS.out]; omega)] at hg
      simp only [wrF, List.append_nil] at hg
      have HC := Lib.hid (bld_str w0.heap.size b (Lib.byteCells (bs ++ D)) ⟨#[59, 10]⟩ wr HS.out.bld (by rw [Lib.byteCells_length, List.length_append]; have := HDL.out; show _ + 2 ≤ _; omega) HS.out.size)
      have HG2 := Lib.hid hg
      clear hg hlt
      go_wp2_with fail
      refine HC.out.mono ?_
      rintro e w2 ⟨rfl, ha, hb2, ho2⟩
      have HS2 := Lib.hid (HS.out.write rfl ha hb2 ho2)
      clear ha hb2 ho2
      go_wp2_with fail
      go_end0
      refine ⟨rfl, ?_, HS2.out.bel, HS2.out.oth⟩
      have := HS2.out.bld
      rw [HLN.out, HG2.out]
      simpa using this
end Go.Proofs.YtmdogklgbifacaaDoor.Pr
