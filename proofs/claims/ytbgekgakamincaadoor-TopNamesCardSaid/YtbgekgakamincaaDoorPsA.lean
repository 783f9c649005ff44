/- The parser in plain Lean. The forms' parts, one by one. slices.Clone, parser.Strip. The reference's comparison of commands. -/
import Derived.Test.YtbgekgakamincaaDoorPrA
import Derived.WalkSpells
import Derived.Deep.QuietTactic
import Derived.BigQuiet
import Derived.Lib.Strings

/- The parser in plain Lean. -/
namespace Go.Proofs.YtbgekgakamincaaDoor.Ps
open Go.RowKit Go.Proofs.YtbgekgakamincaaDoor.Lx Go.Proofs.YtbgekgakamincaaDoor.Pr
set_option linter.unusedVariables false

/-- A command that was read. -/
structure PC where
  kind : Nat
  name : ByteArray
  ns : List Int
  pos : Nat
def bFast : List UInt8 := [102, 97, 115, 116]
def bSlow : List UInt8 := [115, 108, 111, 119]
def bAt : List UInt8 := [97, 116]
/-- Does a token fit a part of a form? -/
def fitsB (t : Tok) (p : List UInt8) : Bool :=
  if p = [35] then decide (t.kind = 2)
  else if p = [110] then decide (t.kind = 1) && nameB t.text
  else if p = [100] then decide (t.kind = 1) && (t.text.data.toList == bFast || t.text.data.toList == bSlow)
  else decide (t.kind ≠ 2) && t.text.data.toList == p
/-- How many tokens fit. -/
def matchB : List Tok → List (List UInt8) → Nat
  | t :: ts, p :: ps => if fitsB t p then 1 + matchB ts ps else 0
  | _, _ => 0
def nsB : Bool → List Tok → List (List UInt8) → List Int
  | neg, t :: ts, p :: ps => if p = [35] then (if neg then -(t.n : Int) else (t.n : Int)) :: nsB false ts ps else nsB (decide (p = [100]) && t.text.data.toList == bSlow) ts ps
  | _, _, _ => []
def nmB : ByteArray → List Tok → List (List UInt8) → ByteArray
  | nm, t :: ts, p :: ps => nmB (if p = [110] then t.text else nm) ts ps
  | nm, _, _ => nm
def posB (t : Option Tok) (e : Nat) : Nat := match t with | some t => t.pos | none => e
def builtB (k : Nat) (ts : List Tok) : PC := ⟨k, nmB ⟨#[]⟩ ts (expL k), nsB false ts (expL k), posB ts.head? 0⟩
def txtB (t : Option Tok) : List UInt8 := match t with | some t => t.text.data.toList | none => []
def cmdTab : List (List UInt8 × Nat) := [([109, 101, 115, 104], 1), ([114, 111, 111, 116], 2), ([110, 111, 100, 101], 3), ([114, 117, 110], 11)]
def evTab : List (List UInt8 × Nat) := [([109, 111, 118, 101], 4), ([102, 97, 105, 108], 5), ([115, 116, 97, 114, 116], 6), ([114, 101, 97, 100], 7), ([106, 97, 109], 8), ([114, 101, 112, 108, 97, 121], 9), ([112, 114, 111, 103, 114, 97, 109], 10)]
def lookB (l : List (List UInt8 × Nat)) (w : List UInt8) : Option Nat := (l.find? fun x => x.1 == w).map (·.2)
/-- The kind of the command that begins here, or how many tokens fit none. -/
def selB (ts : List Tok) : Except Nat Nat :=
  if txtB ts.head? = bAt then
    (if (ts[1]?.map (·.kind)) = some 2 then (match lookB evTab (txtB ts[2]?) with | some k => .ok k | none => .error 2) else .error 1)
  else match lookB cmdTab (txtB ts.head?) with | some k => .ok k | none => .error 0
/-- One command read: it, and how many tokens it has; or how many tokens fit. -/
def rdB (ts : List Tok) : Option PC × Nat :=
  match selB ts with
  | .error n => (none, n)
  | .ok k => if matchB ts (expL k) = (expL k).length then (some (builtB k ts), (expL k).length) else (none, matchB ts (expL k))
theorem matchB_le : ∀ (ts : List Tok) (ps : List (List UInt8)), matchB ts ps ≤ ps.length ∧ matchB ts ps ≤ ts.length
  | t :: ts, p :: ps => by
    have := matchB_le ts ps
    simp only [matchB, List.length_cons]
    split <;> omega
  | [], ps => by simp [matchB]
  | t :: ts, [] => by simp [matchB]
/-- Behind the next semicolon. -/
def skipB (ts : List Tok) : List Tok := (ts.dropWhile fun t => decide (t.kind ≠ 3)).tail
theorem skipB_len (ts : List Tok) : (skipB ts).length ≤ ts.length - 1 := by
  unfold skipB
  rw [List.length_tail]
  have := (List.dropWhile_sublist (fun t : Tok => decide (t.kind ≠ 3)) (l := ts)).length_le
  omega
/-- Commands and the offsets of diagnostics. -/
structure PR where
  out : List PC
  dgs : List Nat
/-- The parser's loop over tokens; e: the script's end. -/
def loopB (e : Nat) : Nat → List Tok → PR → PR
  | 0, _, r => r
  | f + 1, ts, r =>
    if ts = [] ∨ r.dgs.length = 20 then r
    else match rdB ts with
      | (some c, n) => loopB e f (ts.drop n) ⟨r.out ++ [c], r.dgs⟩
      | (none, n) => loopB e f (skipB (ts.drop n)) ⟨r.out, r.dgs ++ [posB (ts.drop n).head? e]⟩
/-- What Parse answers: commands, diagnostics (the error's number, the offset). -/
def finB (r : PR) : List PC × List (Nat × Nat) :=
  if r.dgs ≠ [] then ([], r.dgs.map fun p => (7, p))
  else if h : 300 < r.out.length then ([], [(2, (r.out[300]'h).pos)]) else (r.out, [])
def PARSE (l : List UInt8) : List PC × List (Nat × Nat) :=
  let r := LEX l
  if r.err ≠ 0 then ([], [(r.err, r.pos)]) else finB (loopB l.length (r.toks.length + 1) r.toks ⟨[], []⟩)
end Go.Proofs.YtbgekgakamincaaDoor.Ps

/- The forms' parts, one by one. -/
namespace Go.Proofs.YtbgekgakamincaaDoor.Ps
open Go.RowKit Go.Proofs.YtbgekgakamincaaDoor.Lx Go.Proofs.YtbgekgakamincaaDoor.Pr
set_option linter.unusedVariables false
theorem expL_1 : expL 1 = [[109, 101, 115, 104], [100, 97, 116, 97], [35], [114, 97, 110, 103, 101], [35], [59]] := by kernel_rfl
theorem expL_2 : expL 2 = [[114, 111, 111, 116], [110], [97, 116], [35], [35], [59]] := by kernel_rfl
theorem expL_3 : expL 3 = [[110, 111, 100, 101], [110], [97, 116], [35], [35], [100], [35], [98, 97, 116, 116, 101, 114, 121], [35], [59]] := by kernel_rfl
theorem expL_4 : expL 4 = [[97, 116], [35], [109, 111, 118, 101], [110], [35], [35], [59]] := by kernel_rfl
theorem expL_5 : expL 5 = [[97, 116], [35], [102, 97, 105, 108], [110], [59]] := by kernel_rfl
theorem expL_6 : expL 6 = [[97, 116], [35], [115, 116, 97, 114, 116], [110], [59]] := by kernel_rfl
theorem expL_7 : expL 7 = [[97, 116], [35], [114, 101, 97, 100], [110], [35], [59]] := by kernel_rfl
theorem expL_8 : expL 8 = [[97, 116], [35], [106, 97, 109], [35], [35], [114, 97, 100, 105, 117, 115], [35], [99, 104, 97, 110, 110, 101, 108], [35], [102, 111, 114], [35], [59]] := by kernel_rfl
theorem expL_9 : expL 9 = [[97, 116], [35], [114, 101, 112, 108, 97, 121], [35], [97, 116], [35], [35], [59]] := by kernel_rfl
theorem expL_10 : expL 10 = [[97, 116], [35], [112, 114, 111, 103, 114, 97, 109], [35], [115, 105, 122, 101], [35], [59]] := by kernel_rfl
theorem expL_11 : expL 11 = [[114, 117, 110], [35], [59]] := by kernel_rfl
end Go.Proofs.YtbgekgakamincaaDoor.Ps

/- slices.Clone, parser.Strip. -/
namespace Go.Proofs.YtbgekgakamincaaDoor.Ps
open Go.RowKit Go.Proofs.YtbgekgakamincaaDoor.Lx Go.Proofs.YtbgekgakamincaaDoor.Pr
set_option linter.unusedVariables false

def bareC (x : Cm) : Cm := { x with pos := 0 }
set_option maxRecDepth 100000 in
set_option maxHeartbeats 1000000 in
theorem clone_val (A : Option Addr) (n c : Nat) (l : List Cm) (w : World) (h : IsCms w A n c l) (hn : n ≤ 100000) :
    Calls Tryd.prog 22 #[.slice A n c] w fun e w' => ∃ A' c', e = .returned (.slice A' n c') ∧ w'.ownsRow w.heap.size 40 4 (.slice A' n c') n (l.flatMap decC) ∧ Below w.heap.size w w' := by
  obtain ⟨i0, hi, hz0, hz1, hz2⟩ := info_parts info_cmd
  have HI := Lib.hid h
  have hnl := h.1
  clear h
  cases A with
  | none =>
    have h0 : n = 0 := by
      rcases Nat.eq_zero_or_pos n with h0 | h0
      · exact h0
      · obtain ⟨b, off, h, _⟩ := HI.out.2.1.2 h0
        cases h
    subst h0
    have hl : l = [] := List.eq_nil_of_length_eq_zero hnl
    subst hl
    have hq := fun (W : World) => Lib.run_eql_slice_nil (P := Tryd.prog) W 25 40 none 0 c 0 0 Tryd.underlying25
    clear hnl
    go_enter Tryd.func22, Tryd.ntmps22
    go_wp2_with fail
    go_ret
    exact ⟨none, 0, rfl, World.ownsRow_nil _ _ _ _, Below.refl _ _⟩
  | some ad =>
    have hq := fun (W : World) => Lib.run_eql_slice_nil (P := Tryd.prog) W 25 40 (some ad) n c 0 0 Tryd.underlying25
    have HO := Lib.hid (own_zero w 40 4)
    have HBa := Lib.hid ((Below.refl w.heap.size w).alloc (Nat.le_refl _) (.cells #[] 40))
    have HRa := Lib.hid (HI.out.2.1.below HBa.out)
    have HOa := Lib.hid (one_flat one_decC l)
    clear hnl
    go_enter Tryd.func22, Tryd.ntmps22
    go_wp2_with (at_builtin; refine wpList_append_rd _ rfl (.tmp 5) (.tmp 6) _ rfl w.heap.size 40 i0 _ 4 56 Tryd.underlying25 hi hz0 hz1 hz2 rfl (by decide) _ 0 _ rfl HO.out _ (some ad) n c _ rfl HRa.out HOa.out (by simp only [maxLen]; omega) (by omega) HBa.out.size ?_; intro Aw5 cw5 w5 hown hfm hg; have HO5 : Hid (w5.ownsRow w.heap.size 40 4 (.slice Aw5 n cw5) n (l.flatMap decC)) := Lib.hid (by rw [Nat.zero_add, List.nil_append] at hown; exact hown); have HB5 := Lib.hid (own_below HO.out hg HBa.out (Nat.le_refl _) HBa.out.size); clear hown hfm hg)
    go_ret
    exact ⟨Aw5, cw5, by simp, HO5.out, HB5.out⟩

/-- Row g holds at least the cells xs. -/
def RowIs (w : World) (g : Nat) (xs : List Value) (cap : Nat) : Prop := ∃ cs, Blk w g 40 cs ∧ cs.size = cap ∧ cs.toList.take xs.length = xs
theorem RowIs.cell {w : World} {g cap : Nat} {xs : List Value} (h : RowIs w g xs cap) {i : Nat} {u : Value} (hu : xs[i]? = some u) : w.cell? ⟨g, i, none⟩ = some u := by
  obtain ⟨cs, hb, _, ht⟩ := h
  have hi := (List.getElem?_eq_some_iff.1 hu).1
  rw [hb.cell i, ← hu, ← ht, List.getElem?_take, if_pos hi, Array.getElem?_toList]
theorem RowIs.frozen {w : World} {g cap : Nat} {xs : List Value} (h : RowIs w g xs cap) (i : Nat) : w.frozen? ⟨g, i, none⟩ = false := by
  obtain ⟨cs, hb, _, _⟩ := h
  exact hb.frozen i
theorem RowIs.set {w : World} {g cap : Nat} {xs : List Value} (h : RowIs w g xs cap) (i : Nat) (u : Value) : RowIs (w.setCell ⟨g, i, none⟩ u) g (xs.set i u) cap := by
  obtain ⟨cs, hb, hs, ht⟩ := h
  refine ⟨_, hb.set_ i u, by simpa using hs, ?_⟩
  rw [List.length_set, Array.toList_setIfInBounds, List.take_set, ht]
set_option maxRecDepth 100000 in
set_option maxHeartbeats 1000000 in
theorem strip_val (A : Option Addr) (n c : Nat) (l : List Cm) (w : World) (h : IsCms w A n c l) (hn : n ≤ 100000) :
    Calls Tryd.prog 11 #[.slice A n c] w fun e w' => ∃ A' c', e = .returned (.slice A' n c') ∧ IsCms w' A' n c' (l.map bareC) ∧ Below w.heap.size w w' := by
  have HC := Lib.hid (clone_val A n c l w h hn)
  have HI := Lib.hid h
  have HN := Lib.hid h.1
  clear h
  go_enter Tryd.func11, Tryd.ntmps11
  go_wp2_with fail
  refine HC.out.mono ?_
  rintro e w1 ⟨A1, c1, rfl, ho, hb1⟩
  have HB1 := Lib.hid hb1
  have HO := Lib.hid ho
  clear ho hb1
  by_cases h0 : n = 0
  · subst h0
    have hl : l = [] := List.eq_nil_of_length_eq_zero HN.out
    go_wp2_with fail
    go_loopw [9] (fun i wr => i = i64 0 ∧ w1 = wr) (fun _ _ => 0)
    case atStart => exact ⟨rfl, rfl⟩
    case round =>
      obtain ⟨rfl, rfl⟩ := hrel
      go_wp2_with fail
      go_ret
      refine ⟨A1, c1, rfl, ?_, HB1.out⟩
      rw [hl] at HO ⊢
      exact cms_own HO.out rfl (fun x hx => by cases hx)
  · obtain ⟨g, cap, cur, hv, hbg, hgg, hnc, hcm, hcs, htk⟩ : ∃ g cap cur, (Value.slice A1 n c1) = .slice (some ⟨g, 0, none⟩) n cap ∧ w.heap.size ≤ g ∧ w1.heap[g]? = some (.cells cur 40 (0, 0)) ∧ n ≤ cap ∧ cap ≤ maxLen ∧ cur.size = cap * 4 ∧ cur.toList.take (n * 4) = l.flatMap decC := by
      rcases HO.out.2 with ⟨_, h2⟩ | h2
      · exact absurd h2 h0
      · exact h2
    injection hv with hA _ hc
    subst hA hc
    have hlen : (l.flatMap decC).length = n * 4 := by rw [flat_len (k := 4) (fun _ => rfl), HN.out]
    have HR : Hid (RowIs w1 g (l.flatMap decC) (c1 * 4)) := Lib.hid ⟨cur, hgg, hcs, by rw [hlen]; exact htk⟩
    clear hgg hcs htk HO hlen
    go_wp2_with fail
    go_loopw [9, 4] (fun i z wr => ∃ (k : Nat) (zz : Value), k ≤ n ∧ i = i64 (k : Nat) ∧ z = zz ∧ Hid (RowIs wr g (((l.take k).map bareC ++ l.drop k).flatMap decC) (c1 * 4)) ∧ Hid (Below w.heap.size w wr)) (fun i _ _ => n - (intOf i).toNat)
    case atStart => exact ⟨0, _, Nat.zero_le _, rfl, rfl, HR, HB1⟩
    case round =>
      obtain ⟨k, zz, hk, rfl, rfl, HW, HB⟩ := hrel
      by_cases hlt : k < n
      · have hlt' : (k : Int) < (n : Int) := by omega
        have hkl : k < l.length := by rw [HN.out]; exact hlt
        have hL : ((l.take k).map bareC).length = k := by rw [List.length_map, List.length_take]; omega
        have hlk : k < ((l.take k).map bareC ++ l.drop k).length := by rw [List.length_append, hL, List.length_drop]; omega
        have hget : ((l.take k).map bareC ++ l.drop k)[k] = l[k] := by
          rw [List.getElem_append_right (by omega)]
          simp only [hL, Nat.sub_self, List.getElem_drop, Nat.add_zero]
        have hcell : wr.cell? ⟨g, k * 4 + 3, none⟩ = some (.int .i64 l[k].pos) := HW.out.cell (by
          rw [flat_get (k := 4) (fun _ => rfl) _ k 3 _ (List.getElem?_eq_getElem hlk) (by decide), hget]; rfl)
        have hfz : wr.frozen? ⟨g, k * 4 + 3, none⟩ = false := HW.out.frozen _
        have hset := HW.out.set (k * 4 + 3) (.int .i64 0)
        rw [flat_set (s := 4) (fun _ => rfl) _ k 3 _ (bareC l[k]) hlk (by decide) (by rw [hget]; rfl)] at hset
        have hnew : (((l.take k).map bareC ++ l.drop k).set k (bareC l[k])) = (l.take (k + 1)).map bareC ++ l.drop (k + 1) := by
          rw [List.set_append_right _ _ (by omega), hL, Nat.sub_self, List.drop_eq_getElem_cons hkl, List.set_cons_zero, List.take_succ_eq_append_getElem hkl, List.map_append, List.append_assoc]; rfl
        rw [hnew] at hset
        have HS := Lib.hid hset
        have HB2 : Hid (Below w.heap.size w (wr.setCell ⟨g, k * 4 + 3, none⟩ (.int .i64 0))) := Lib.hid (HB.out.setCell (p := ⟨g, k * 4 + 3, none⟩) hbg _)
        obtain ⟨pp, hpp⟩ : ∃ pp, l[k].pos = pp := ⟨_, rfl⟩
        rw [hpp] at hcell
        clear hset hnew hget hlk hL hpp hkl
        go_wp2_with fail
        case roundEnd =>
          refine ⟨⟨k + 1, _, by omega, rfl, rfl, HS, HB2⟩, ?_⟩
          simp only [intOf]; omega
      · have hlt' : ¬ (k : Int) < (n : Int) := by omega
        obtain rfl : k = n := by omega
        have hw := HW.out
        rw [List.take_of_length_le (by rw [HN.out]; exact Nat.le_refl _), List.drop_of_length_le (by rw [HN.out]; exact Nat.le_refl _), List.append_nil] at hw
        have HF := Lib.hid hw
        clear hw
        go_wp2_with fail
        go_ret
        refine ⟨_, _, rfl, ⟨by rw [List.length_map]; exact HN.out, ⟨by rw [flat_len (k := 4) (fun _ => rfl), List.length_map, HN.out], fun _ => ⟨g, 0, rfl, ?_, fun j u hu => ?_⟩⟩, hnc, hcm, fun x hx => ?_⟩, HB.out⟩
        · obtain ⟨cs, hb, _⟩ := HF.out; exact hb.lt
        · rw [Nat.zero_add]; exact HF.out.cell hu
        · obtain ⟨y, hy, rfl⟩ := List.mem_map.1 hx
          have := (HI.out.up HB.out).2.2.2.2 y hy
          exact ⟨this.kind, this.name, this.rd, this.len, this.nc, this.cm, this.wf, show w64 0 by decide⟩
end Go.Proofs.YtbgekgakamincaaDoor.Ps

/- The reference's comparison of commands. -/
namespace Go.Proofs.YtbgekgakamincaaDoor.Ps
open Go.RowKit Go.Proofs.YtbgekgakamincaaDoor.Lx Go.Proofs.YtbgekgakamincaaDoor.Pr
set_option linter.unusedVariables false

def keyA (x : Cm) : Int × ByteArray × List Int × Int := (x.kind, x.name, x.ns, x.pos)
/-- Are commands equal? -/
def sameC (a b : List Cm) : Bool := decide (a.map keyA = b.map keyA)
theorem sameC_len {a b : List Cm} (h : a.length ≠ b.length) : sameC a b = false := decide_eq_false (fun e => h (by have := congrArg List.length e; simpa using this))
theorem sameC_at {a b : List Cm} {k : Nat} (h1 : k < a.length) (h2 : k < b.length) (h : keyA a[k] ≠ keyA b[k]) : sameC a b = false := by
  refine decide_eq_false (fun e => h ?_)
  have := congrArg (·[k]?) e
  simpa [h1, h2] using this
theorem same_snoc {a b : List Cm} {k : Nat} (h1 : k < a.length) (h2 : k < b.length) (h : (a.take k).map keyA = (b.take k).map keyA) (he : keyA a[k] = keyA b[k]) : (a.take (k + 1)).map keyA = (b.take (k + 1)).map keyA := by
  rw [List.take_succ_eq_append_getElem h1, List.take_succ_eq_append_getElem h2, List.map_append, List.map_append, h, List.map_cons, List.map_cons, he]
theorem ints_at {W : World} {B n : Nat} {A : Option Addr} {ns : List Int} (h : Rd W B 1 A n (ns.map iv)) {j : Nat} (hj : j < ns.length) (hn : ns.length = n) : ∃ b off, A = some ⟨b, off, none⟩ ∧ W.cell? ⟨b, off + j, none⟩ = some (.int .i64 ns[j]) := by
  obtain ⟨b, off, e, _, hc⟩ := h.2 (by omega)
  exact ⟨b, off, e, hc j _ (by rw [List.getElem?_map, List.getElem?_eq_getElem hj]; rfl)⟩
set_option maxRecDepth 100000 in
set_option maxHeartbeats 4000000 in
theorem same_val (A : Option Addr) (n c : Nat) (xs : List Cm) (B : Option Addr) (m e : Nat) (ys : List Cm) (w : World) (hx : IsCms w A n c xs) (hy : IsCms w B m e ys) :
    Calls Tryd.prog 10 #[.slice A n c, .slice B m e] w fun e w' => e = .returned (.bool (sameC xs ys)) ∧ Below w.heap.size w w' := by
  have hnm : n ≤ maxLen := Nat.le_trans hx.2.2.1 hx.2.2.2.1
  have hmm : m ≤ maxLen := Nat.le_trans hy.2.2.1 hy.2.2.2.1
  unfold maxLen at hnm hmm
  have HX := Lib.hid hx
  have HY := Lib.hid hy
  have HXN := Lib.hid hx.1
  have HYM := Lib.hid hy.1
  have hxn := hx.1
  have hym := hy.1
  clear hx hy
  by_cases hne : n = m
  · have hne' : ((n : Int) != (m : Int)) = false := by rw [bne_eq_false_iff_eq]; omega
    subst hne
    clear hxn hym
    go_enter Tryd.func10, Tryd.ntmps10
    go_wp2_with fail
    go_loopw [5, 6] (fun i z wr => ∃ (k : Nat) (zz : Value), k ≤ n ∧ i = i64 (k : Nat) ∧ z = zz ∧ Hid ((xs.take k).map keyA = (ys.take k).map keyA) ∧ Below w.heap.size w wr) (fun i _ _ => n - (intOf i).toNat)
    case atStart => exact ⟨0, _, Nat.zero_le _, rfl, rfl, Lib.hid rfl, Below.refl _ _⟩
    case round =>
      obtain ⟨k, zz, hk, rfl, rfl, HS, hB⟩ := hrel
      have HB := Lib.hid hB
      clear hB
      by_cases hlt : k < n
      · have hlt' : (k : Int) < (n : Int) := by omega
        have hkx : k < xs.length := by rw [HXN.out]; exact hlt
        have hky : k < ys.length := by rw [HYM.out]; exact hlt
        obtain ⟨b, off, rfl, hb, hc⟩ := rd_el (dec := decC) (s := 4) (fun _ => rfl) (HX.out.up HB.out).2.1 HXN.out hkx
        obtain ⟨b', off', rfl, hb', hc'⟩ := rd_el (dec := decC) (s := 4) (fun _ => rfl) (HY.out.up HB.out).2.1 HYM.out hky
        have HIX := Lib.hid ((HX.out.up HB.out).2.2.2.2 _ (List.getElem_mem hkx))
        have HIY := Lib.hid ((HY.out.up HB.out).2.2.2.2 _ (List.getElem_mem hky))
        have HSA : Hid (keyA xs[k] ≠ keyA ys[k] → sameC xs ys = false) := Lib.hid (sameC_at hkx hky)
        have HSS : Hid (keyA xs[k] = keyA ys[k] → (xs.take (k + 1)).map keyA = (ys.take (k + 1)).map keyA) := Lib.hid (same_snoc hkx hky HS.out)
        obtain ⟨⟨xk, xt, xA, xn, xc, xs1, xp⟩, hxe⟩ : ∃ t, xs[k] = t := ⟨_, rfl⟩
        obtain ⟨⟨yk, yt, yA, yn, yc, ys1, yp⟩, hye⟩ : ∃ t, ys[k] = t := ⟨_, rfl⟩
        rw [hxe] at hc HIX HSA HSS
        rw [hye] at hc' HIY HSA HSS
        have c0 := hc 0 _ rfl
        have c1 := hc 1 _ rfl
        have c2 := hc 2 _ rfl
        have c3 := hc 3 _ rfl
        have d0 := hc' 0 _ rfl
        have d1 := hc' 1 _ rfl
        have d2 := hc' 2 _ rfl
        have d3 := hc' 3 _ rfl
        rw [Nat.add_zero] at c0 d0
        dsimp only at c0 c1 c2 c3 d0 d1 d2 d3
        unfold keyA at HSA HSS
        dsimp only at HSA HSS
        clear hc hc' hxe hye hb hb' hkx hky hlt
        have hxl := HIX.out.len
        have hyl := HIY.out.len
        have hxc := Nat.le_trans HIX.out.nc HIX.out.cm
        have hyc := Nat.le_trans HIY.out.nc HIY.out.cm
        unfold maxLen at hxc hyc
        dsimp only at hxl hyl hxc hyc
        have HXL := Lib.hid hxl
        have HYL := Lib.hid hyl
        obtain ⟨b1, h1⟩ : ∃ v, (xk != yk) = v := ⟨_, rfl⟩
        obtain ⟨b2, h2⟩ : ∃ v, (!(xt.toList == yt.toList)) = v := ⟨_, rfl⟩
        rw [Bool.not_eq_eq_eq_not] at h2
        obtain ⟨b3, h3⟩ : ∃ v, (xp != yp) = v := ⟨_, rfl⟩
        obtain ⟨b4, h4⟩ : ∃ v, ((xn : Int) != (yn : Int)) = v := ⟨_, rfl⟩
        cases b1 with
        | true =>
          have HF : Hid (sameC xs ys = false) := Lib.hid (HSA.out (fun h => by rw [Prod.mk.injEq] at h; rw [bne_iff_ne] at h1; exact h1 h.1))
          clear hxl hyl
          go_wp2_with fail
          go_quiet (fail)
          go_wp2_with fail
          go_ret
          exact ⟨rb HF.out.symm, below_drewN' HB.out _⟩
        | false =>
          have e1 : xk = yk := by rwa [bne_eq_false_iff_eq] at h1
          have E1 := Lib.hid e1
          clear e1
          cases b2 with
          | true =>
            have HF : Hid (sameC xs ys = false) := Lib.hid (HSA.out (fun h => by rw [Prod.mk.injEq, Prod.mk.injEq] at h; rw [h.2.1] at h2; simp at h2))
            clear hxl hyl
            go_wp2_with fail
            go_quiet (fail)
            go_wp2_with fail
            go_ret
            exact ⟨rb HF.out.symm, below_drewN' HB.out _⟩
          | false =>
            have e2 : xt = yt := bytes_of_list (by simpa using h2)
            have E2 := Lib.hid e2
            clear e2
            cases b3 with
            | true =>
              have HF : Hid (sameC xs ys = false) := Lib.hid (HSA.out (fun h => by rw [Prod.mk.injEq, Prod.mk.injEq, Prod.mk.injEq] at h; rw [bne_iff_ne] at h3; exact h3 h.2.2.2))
              clear hxl hyl
              go_wp2_with fail
              go_quiet (fail)
              go_wp2_with fail
              go_ret
              exact ⟨rb HF.out.symm, below_drewN' HB.out _⟩
            | false =>
              have e3 : xp = yp := by rwa [bne_eq_false_iff_eq] at h3
              have E3 := Lib.hid e3
              clear e3
              cases b4 with
              | true =>
                have HF : Hid (sameC xs ys = false) := Lib.hid (HSA.out (fun h => by rw [Prod.mk.injEq, Prod.mk.injEq, Prod.mk.injEq] at h; rw [bne_iff_ne] at h4; rw [h.2.2.1] at hxl; omega))
                clear hxl hyl
                go_wp2_with fail
                go_quiet (fail)
                go_wp2_with fail
                go_ret
                exact ⟨rb HF.out.symm, below_drewN' HB.out _⟩
              | false =>
                have e4 : xn = yn := by rw [bne_eq_false_iff_eq] at h4; omega
                subst e4
                clear hxl hyl hyc
                go_wp2_with fail
                go_quiet (fail)
                go_wp2_with fail
                obtain ⟨w2, hw2⟩ : ∃ w2, wr.drewN nq = w2 := ⟨_, rfl⟩
                have hB2 : Below wr.heap.size wr w2 := by rw [← hw2]; exact below_drewN' (Below.refl _ _) _
                rw [hw2]
                have HB2 := Lib.hid (below_trans' HB.out hB2)
                have g2 : w2.cell? ⟨b, off + k * 4 + 2, none⟩ = some (.slice xA xn xc) := (hB2.cell (Lx.cell_lt c2)).trans c2
                have i2 : w2.cell? ⟨b', off' + k * 4 + 2, none⟩ = some (.slice yA xn yc) := (hB2.cell (Lx.cell_lt d2)).trans d2
                have HIX2 := Lib.hid (HIX.out.up hB2)
                have HIY2 := Lib.hid (HIY.out.up hB2)
                clear hw2 hB2 c0 c1 c2 c3 d0 d1 d2 d3 HIX HIY
                go_loopw [6] (fun i wr => ∃ j : Nat, j ≤ xn ∧ i = i64 (j : Nat) ∧ Hid (xs1.take j = ys1.take j) ∧ Below w2.heap.size w2 wr) (fun i _ => xn - (intOf i).toNat)
                case atStart => exact ⟨0, Nat.zero_le _, rfl, Lib.hid rfl, Below.refl _ _⟩
                case round =>
                  obtain ⟨j, hj, rfl, HJ, hB3⟩ := hrel
                  have HB3 := Lib.hid hB3
                  clear hB3
                  have g3 : wr.cell? ⟨b, off + k * 4 + 2, none⟩ = some (.slice xA xn xc) := (HB3.out.cell (Lx.cell_lt g2)).trans g2
                  have i3 : wr.cell? ⟨b', off' + k * 4 + 2, none⟩ = some (.slice yA xn yc) := (HB3.out.cell (Lx.cell_lt i2)).trans i2
                  by_cases hjl : j < xn
                  · have hjl' : (j : Int) < (xn : Int) := by omega
                    have hjx : j < xs1.length := by rw [HXL.out]; exact hjl
                    have hjy : j < ys1.length := by rw [HYL.out]; exact hjl
                    obtain ⟨p, po, rfl, u1⟩ := ints_at (HIX2.out.up HB3.out).rd hjx HXL.out
                    obtain ⟨q, qo, rfl, u2⟩ := ints_at (HIY2.out.up HB3.out).rd hjy HYL.out
                    have HNE : Hid (xs1[j] ≠ ys1[j] → xs1 ≠ ys1) := Lib.hid (fun h e => h (by subst e; rfl))
                    have HTK : Hid (xs1[j] = ys1[j] → xs1.take (j + 1) = ys1.take (j + 1)) := Lib.hid (fun h => by rw [List.take_succ_eq_append_getElem hjx, List.take_succ_eq_append_getElem hjy, HJ.out, h])
                    obtain ⟨vx, hvx⟩ : ∃ v, xs1[j] = v := ⟨_, rfl⟩
                    obtain ⟨vy, hvy⟩ : ∃ v, ys1[j] = v := ⟨_, rfl⟩
                    rw [hvx] at u1 HNE HTK
                    rw [hvy] at u2 HNE HTK
                    obtain ⟨b5, h5⟩ : ∃ v, (vx != vy) = v := ⟨_, rfl⟩
                    clear hjx hjy hvx hvy hjl
                    cases b5 with
                    | true =>
                      have HF : Hid (sameC xs ys = false) := Lib.hid (HSA.out (fun h => by rw [Prod.mk.injEq, Prod.mk.injEq, Prod.mk.injEq] at h; rw [bne_iff_ne] at h5; exact HNE.out h5 h.2.2.1))
                      go_wp2_with fail
                      go_quiet (fail)
                      go_wp2_with fail
                      go_ret
                      exact ⟨rb HF.out.symm, below_drewN' (below_trans' HB2.out HB3.out) _⟩
                    | false =>
                      have HT2 := Lib.hid (HTK.out (by rwa [bne_eq_false_iff_eq] at h5))
                      go_wp2_with fail
                      go_quiet (fail)
                      go_wp2_with fail
                      go_roundw
                      case rel => exact ⟨j + 1, by omega, by go_num, HT2, below_drewN' HB3.out _⟩
                      case measure => simp [intOf]; omega
                  · have hjl' : ¬ (j : Int) < (xn : Int) := by omega
                    obtain rfl : j = xn := by omega
                    have HEQ : Hid (xs1 = ys1) := Lib.hid (by
                      have := HJ.out
                      rwa [List.take_of_length_le (by rw [HXL.out]; exact Nat.le_refl _), List.take_of_length_le (by rw [HYL.out]; exact Nat.le_refl _)] at this)
                    have HK := Lib.hid (HSS.out (by rw [E1.out, E2.out, E3.out, HEQ.out]))
                    go_wp2_with fail
                    go_roundw
                    case rel => exact ⟨k + 1, _, by omega, by go_num, rfl, HK, below_trans' HB2.out HB3.out⟩
                    case measure => simp [intOf]; omega
      · have hge : ¬ (k : Int) < (n : Int) := by omega
        obtain rfl : k = n := by omega
        have HS2 : Hid (sameC xs ys = true) := Lib.hid (by
          have := HS.out
          rw [List.take_of_length_le (by rw [HXN.out]; exact Nat.le_refl _), List.take_of_length_le (by rw [HYM.out]; exact Nat.le_refl _)] at this
          exact decide_eq_true this)
        go_wp2_with fail
        go_ret
        exact ⟨rb HS2.out.symm, HB.out⟩
  · have hne' : ((n : Int) != (m : Int)) = true := by rw [bne_iff_ne]; omega
    have HF := Lib.hid (sameC_len (a := xs) (b := ys) (by omega))
    clear hne hxn hym
    go_enter Tryd.func10, Tryd.ntmps10
    go_wp2_with fail
    go_ret
    exact ⟨rb HF.out.symm, Below.refl _ _⟩
end Go.Proofs.YtbgekgakamincaaDoor.Ps
