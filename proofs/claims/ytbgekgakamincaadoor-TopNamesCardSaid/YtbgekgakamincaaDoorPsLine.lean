/- The parser in plain Lean reads printed lines back. -/
import Derived.Test.YtbgekgakamincaaDoorPsA
import Derived.Test.YtbgekgakamincaaDoorPrT
namespace Go.Proofs.YtbgekgakamincaaDoor.Ps
open Go.RowKit Go.Proofs.YtbgekgakamincaaDoor.Lx Go.Proofs.YtbgekgakamincaaDoor.Pr
set_option linter.unusedVariables false

theorem num_nat {v : Int} (h : 0 ≤ v) : ((v.natAbs : Nat) : Int) = v := by omega
theorem num_neg {v : Int} (h : v < 0) : -((v.natAbs : Nat) : Int) = v := by omega
/-- A printed line is read back. -/
theorem line_back {k : Int} {nm : ByteArray} {ns : List Int} (ho : OkC k nm ns) (p : Nat) (R : List Tok) :
    rdB (tksAt p (lineI k nm.data.toList ns) ++ R) = (some ⟨k.toNat, nm, ns, p⟩, (lineI k nm.data.toList ns).length) := by
  obtain ⟨hk, hl, hnam, hbare, hnums⟩ := ho
  have he : (⟨nm.data.toList.toArray⟩ : ByteArray) = nm := str_eta nm
  rcases hk with rfl | rfl | rfl | rfl | rfl | rfl | rfl | rfl | rfl | rfl | rfl
  · have h : ns.length = 2 := by simp [shapeOf] at hl; omega
    match ns, h with
    | [v0, v1], _ =>
      have p0 : ((v0.natAbs : Nat) : Int) = v0 := num_nat ((num_range (hnums 0 (by simp))).2.2 (by omega))
      have p1 : ((v1.natAbs : Nat) : Int) = v1 := num_nat ((num_range (hnums 1 (by simp))).2.2 (by omega))
      have hn : nm = ⟨#[]⟩ := by have h0 := hbare (by decide); exact ByteArray.ext (Array.eq_empty_of_size_eq_zero h0)
      simp [lineI, wordsP, wds, itemsOf, tksAt, rdB, selB, txtB, nameT, numT, semiT, bAt, lookB, cmdTab, expL_1, matchB, fitsB, builtB, nmB, nsB, posB, p0, p1, hn]
  · have h : ns.length = 2 := by simp [shapeOf] at hl; omega
    match ns, h with
    | [v0, v1], _ =>
      have p0 : ((v0.natAbs : Nat) : Int) = v0 := num_nat ((num_range (hnums 0 (by simp))).2.2 (by omega))
      have p1 : ((v1.natAbs : Nat) : Int) = v1 := num_nat ((num_range (hnums 1 (by simp))).2.2 (by omega))
      have hn : nameB nm = true := hnam (by decide)
      simp [lineI, wordsP, wds, itemsOf, tksAt, rdB, selB, txtB, nameT, numT, semiT, bAt, bSlow, lookB, cmdTab, matchB, fitsB, builtB, nmB, nsB, posB, expL_2, p0, p1, hn]
  · have h : ns.length = 4 := by simp [shapeOf] at hl; omega
    match ns, h with
    | [v0, v1, v2, v3], _ =>
      have p0 : ((v0.natAbs : Nat) : Int) = v0 := num_nat ((num_range (hnums 0 (by simp))).2.2 (by omega))
      have p1 : ((v1.natAbs : Nat) : Int) = v1 := num_nat ((num_range (hnums 1 (by simp))).2.2 (by omega))
      have p3 : ((v3.natAbs : Nat) : Int) = v3 := num_nat ((num_range (hnums 3 (by simp))).2.2 (by omega))
      have hn : nameB nm = true := hnam (by decide)
      by_cases q : v2 < 0
      · have p2 := num_neg q
        simp [lineI, wordsP, wds, itemsOf, tksAt, rdB, selB, txtB, nameT, numT, semiT, bAt, bSlow, bFast, lookB, cmdTab, matchB, fitsB, builtB, nmB, nsB, posB, expL_3, p0, p1, p3, p2, hn, q]
      · have p2 := num_nat (show 0 ≤ v2 by omega)
        simp [lineI, wordsP, wds, itemsOf, tksAt, rdB, selB, txtB, nameT, numT, semiT, bAt, bSlow, bFast, lookB, cmdTab, matchB, fitsB, builtB, nmB, nsB, posB, expL_3, p0, p1, p3, p2, hn, q]
  · have h : ns.length = 3 := by simp [shapeOf] at hl; omega
    match ns, h with
    | [v0, v1, v2], _ =>
      have p0 : ((v0.natAbs : Nat) : Int) = v0 := num_nat ((num_range (hnums 0 (by simp))).2.2 (by omega))
      have p1 : ((v1.natAbs : Nat) : Int) = v1 := num_nat ((num_range (hnums 1 (by simp))).2.2 (by omega))
      have p2 : ((v2.natAbs : Nat) : Int) = v2 := num_nat ((num_range (hnums 2 (by simp))).2.2 (by omega))
      have hn : nameB nm = true := hnam (by decide)
      simp [lineI, wordsP, wds, itemsOf, tksAt, rdB, selB, txtB, nameT, numT, semiT, bAt, bSlow, lookB, evTab, matchB, fitsB, builtB, nmB, nsB, posB, expL_4, p0, p1, p2, hn]
  · have h : ns.length = 1 := by simp [shapeOf] at hl; omega
    match ns, h with
    | [v0], _ =>
      have p0 : ((v0.natAbs : Nat) : Int) = v0 := num_nat ((num_range (hnums 0 (by simp))).2.2 (by omega))
      have hn : nameB nm = true := hnam (by decide)
      simp [lineI, wordsP, wds, itemsOf, tksAt, rdB, selB, txtB, nameT, numT, semiT, bAt, bSlow, lookB, evTab, matchB, fitsB, builtB, nmB, nsB, posB, expL_5, p0, hn]
  · have h : ns.length = 1 := by simp [shapeOf] at hl; omega
    match ns, h with
    | [v0], _ =>
      have p0 : ((v0.natAbs : Nat) : Int) = v0 := num_nat ((num_range (hnums 0 (by simp))).2.2 (by omega))
      have hn : nameB nm = true := hnam (by decide)
      simp [lineI, wordsP, wds, itemsOf, tksAt, rdB, selB, txtB, nameT, numT, semiT, bAt, bSlow, lookB, evTab, matchB, fitsB, builtB, nmB, nsB, posB, expL_6, p0, hn]
  · have h : ns.length = 2 := by simp [shapeOf] at hl; omega
    match ns, h with
    | [v0, v1], _ =>
      have p0 : ((v0.natAbs : Nat) : Int) = v0 := num_nat ((num_range (hnums 0 (by simp))).2.2 (by omega))
      have p1 : ((v1.natAbs : Nat) : Int) = v1 := num_nat ((num_range (hnums 1 (by simp))).2.2 (by omega))
      have hn : nameB nm = true := hnam (by decide)
      simp [lineI, wordsP, wds, itemsOf, tksAt, rdB, selB, txtB, nameT, numT, semiT, bAt, bSlow, lookB, evTab, matchB, fitsB, builtB, nmB, nsB, posB, expL_7, p0, p1, hn]
  · have h : ns.length = 6 := by simp [shapeOf] at hl; omega
    match ns, h with
    | [v0, v1, v2, v3, v4, v5], _ =>
      have p0 : ((v0.natAbs : Nat) : Int) = v0 := num_nat ((num_range (hnums 0 (by simp))).2.2 (by omega))
      have p1 : ((v1.natAbs : Nat) : Int) = v1 := num_nat ((num_range (hnums 1 (by simp))).2.2 (by omega))
      have p2 : ((v2.natAbs : Nat) : Int) = v2 := num_nat ((num_range (hnums 2 (by simp))).2.2 (by omega))
      have p3 : ((v3.natAbs : Nat) : Int) = v3 := num_nat ((num_range (hnums 3 (by simp))).2.2 (by omega))
      have p4 : ((v4.natAbs : Nat) : Int) = v4 := num_nat ((num_range (hnums 4 (by simp))).2.2 (by omega))
      have p5 : ((v5.natAbs : Nat) : Int) = v5 := num_nat ((num_range (hnums 5 (by simp))).2.2 (by omega))
      have hn : nm = ⟨#[]⟩ := by have h0 := hbare (by decide); exact ByteArray.ext (Array.eq_empty_of_size_eq_zero h0)
      simp [lineI, wordsP, wds, itemsOf, tksAt, rdB, selB, txtB, nameT, numT, semiT, bAt, bSlow, lookB, evTab, matchB, fitsB, builtB, nmB, nsB, posB, expL_8, p0, p1, p2, p3, p4, p5, hn]
  · have h : ns.length = 4 := by simp [shapeOf] at hl; omega
    match ns, h with
    | [v0, v1, v2, v3], _ =>
      have p0 : ((v0.natAbs : Nat) : Int) = v0 := num_nat ((num_range (hnums 0 (by simp))).2.2 (by omega))
      have p1 : ((v1.natAbs : Nat) : Int) = v1 := num_nat ((num_range (hnums 1 (by simp))).2.2 (by omega))
      have p2 : ((v2.natAbs : Nat) : Int) = v2 := num_nat ((num_range (hnums 2 (by simp))).2.2 (by omega))
      have p3 : ((v3.natAbs : Nat) : Int) = v3 := num_nat ((num_range (hnums 3 (by simp))).2.2 (by omega))
      have hn : nm = ⟨#[]⟩ := by have h0 := hbare (by decide); exact ByteArray.ext (Array.eq_empty_of_size_eq_zero h0)
      simp [lineI, wordsP, wds, itemsOf, tksAt, rdB, selB, txtB, nameT, numT, semiT, bAt, bSlow, lookB, evTab, matchB, fitsB, builtB, nmB, nsB, posB, expL_9, p0, p1, p2, p3, hn]
  · have h : ns.length = 3 := by simp [shapeOf] at hl; omega
    match ns, h with
    | [v0, v1, v2], _ =>
      have p0 : ((v0.natAbs : Nat) : Int) = v0 := num_nat ((num_range (hnums 0 (by simp))).2.2 (by omega))
      have p1 : ((v1.natAbs : Nat) : Int) = v1 := num_nat ((num_range (hnums 1 (by simp))).2.2 (by omega))
      have p2 : ((v2.natAbs : Nat) : Int) = v2 := num_nat ((num_range (hnums 2 (by simp))).2.2 (by omega))
      have hn : nm = ⟨#[]⟩ := by have h0 := hbare (by decide); exact ByteArray.ext (Array.eq_empty_of_size_eq_zero h0)
      simp [lineI, wordsP, wds, itemsOf, tksAt, rdB, selB, txtB, nameT, numT, semiT, bAt, bSlow, lookB, evTab, matchB, fitsB, builtB, nmB, nsB, posB, expL_10, p0, p1, p2, hn]
  · have h : ns.length = 1 := by simp [shapeOf] at hl; omega
    match ns, h with
    | [v0], _ =>
      have p0 : ((v0.natAbs : Nat) : Int) = v0 := num_nat ((num_range (hnums 0 (by simp))).2.2 (by omega))
      have hn : nm = ⟨#[]⟩ := by have h0 := hbare (by decide); exact ByteArray.ext (Array.eq_empty_of_size_eq_zero h0)
      simp [lineI, wordsP, wds, itemsOf, tksAt, rdB, selB, txtB, nameT, numT, semiT, bAt, bSlow, lookB, cmdTab, matchB, fitsB, builtB, nmB, nsB, posB, expL_11, p0, hn]

/-- What is compared of a command. -/
def keyC (x : Cm) : Int × ByteArray × List Int := (x.kind, x.name, x.ns)
def keyP (c : PC) : Int × ByteArray × List Int := ((c.kind : Int), c.name, c.ns)
/-- The commands of printed lines, with their offsets. -/
def cmdsAt : Nat → List Cm → List PC
  | _, [] => []
  | p, x :: l => ⟨x.kind.toNat, x.name, x.ns, p⟩ :: cmdsAt (p + ((lnC x).length + 1)) l
theorem cmdsAt_len : ∀ (l : List Cm) (p : Nat), (cmdsAt p l).length = l.length
  | [], _ => rfl
  | x :: l, p => by simp only [cmdsAt, List.length_cons, cmdsAt_len l]
theorem cmdsAt_key : ∀ (l : List Cm) (p : Nat), (∀ x ∈ l, cmB x = true) → (cmdsAt p l).map keyP = l.map keyC
  | [], _, _ => rfl
  | x :: l, p, h => by
    have ho := okC_of (h x (List.mem_cons_self ..))
    have hk : ((x.kind.toNat : Nat) : Int) = x.kind := by rcases ho.kind with e | e | e | e | e | e | e | e | e | e | e <;> rw [e] <;> rfl
    simp only [cmdsAt, List.map_cons, cmdsAt_key l _ fun y hy => h y (List.mem_cons_of_mem _ hy)]
    unfold keyP keyC
    rw [hk]
theorem tks_lines (x : Cm) (l : List Cm) (p : Nat) (h : cmB x = true) : tksAt p (itemsL (x :: l)) = tksAt p (lineI x.kind x.name.data.toList x.ns) ++ tksAt (p + ((lnC x).length + 1)) (itemsL l) := by
  have ho := okC_of h
  rw [itemsL_cons, tksAt_append, line_items ho.kind ho.len]
  unfold lnC
  rw [List.length_append]
  rfl
theorem lineI_pos {x : Cm} (h : cmB x = true) : 2 ≤ (lineI x.kind x.name.data.toList x.ns).length := by rw [line_tokens h]; omega
theorem loop_lines (e : Nat) : ∀ (l : List Cm) (f p : Nat) (out : List PC), (∀ x ∈ l, cmB x = true) → l.length < f → loopB e f (tksAt p (itemsL l)) ⟨out, []⟩ = ⟨out ++ cmdsAt p l, []⟩
  | [], f, p, out, _, hf => by
    obtain ⟨f, rfl⟩ : ∃ g, f = g + 1 := ⟨f - 1, by omega⟩
    show loopB e (f + 1) [] _ = _
    unfold loopB
    rw [if_pos (.inl rfl)]
    simp [cmdsAt]
  | x :: l, f, p, out, h, hf => by
    obtain ⟨f, rfl⟩ : ∃ g, f = g + 1 := ⟨f - 1, by omega⟩
    have hx := h x (List.mem_cons_self ..)
    have h2 := lineI_pos hx
    rw [tks_lines x l p hx]
    unfold loopB
    have hlen : (tksAt p (lineI x.kind x.name.data.toList x.ns)).length = (lineI x.kind x.name.data.toList x.ns).length := tksAt_len _ _
    rw [if_neg, line_back (okC_of hx)]
    · show loopB e f (List.drop _ _) ⟨out ++ [⟨x.kind.toNat, x.name, x.ns, p⟩], []⟩ = _
      rw [List.drop_append, List.drop_of_length_le (by rw [hlen]; exact Nat.le_refl _), List.nil_append, hlen, Nat.sub_self, List.drop_zero]
      rw [loop_lines e l f _ _ (fun y hy => h y (List.mem_cons_of_mem _ hy)) (by simp only [List.length_cons] at hf; omega)]
      simp [cmdsAt]
    · rintro (h0 | h0)
      · have := congrArg List.length h0
        rw [List.length_append, hlen] at this
        simp only [List.length_nil] at this
        omega
      · simp at h0
theorem items_ge : ∀ (l : List Cm), (∀ x ∈ l, cmB x = true) → l.length ≤ (itemsL l).length
  | [], _ => Nat.le_refl _
  | x :: l, h => by
    have := items_ge l fun y hy => h y (List.mem_cons_of_mem _ hy)
    have := lineI_pos (h x (List.mem_cons_self ..))
    rw [itemsL_cons, List.length_append, List.length_cons]
    omega
/-- Printed commands are parsed to themselves. -/
theorem parse_out {l : List Cm} (hv : validB l = true) (h8 : (outL l).length ≤ 8000) (h2 : tokL l ≤ 2000) : PARSE (outL l) = (cmdsAt 0 l, []) := by
  obtain ⟨hl, ha⟩ := valid_all hv
  have hL := (lex_out ha).1 h8 h2
  unfold PARSE
  rw [hL]
  show (if 0 ≠ 0 then _ else finB (loopB _ ((tksAt 0 (itemsL l)).length + 1) (tksAt 0 (itemsL l)) ⟨[], []⟩)) = _
  rw [if_neg (by decide), tksAt_len, loop_lines _ l _ 0 [] ha (by have := items_ge l ha; omega), List.nil_append]
  unfold finB
  rw [if_neg (by simp), dif_neg (by rw [cmdsAt_len]; omega)]
theorem same_text {a b : List Cm} (ha : validB a = true) (hb : validB b = true) (a8 : (outL a).length ≤ 8000) (a2 : tokL a ≤ 2000) (b8 : (outL b).length ≤ 8000) (b2 : tokL b ≤ 2000) : outL a = outL b ↔ a.map keyC = b.map keyC := by
  constructor
  · intro e
    have h1 := parse_out ha a8 a2
    have h2 := parse_out hb b8 b2
    rw [e, h2] at h1
    have h3 : cmdsAt 0 b = cmdsAt 0 a := congrArg Prod.fst h1
    rw [← cmdsAt_key a 0 (valid_all ha).2, ← cmdsAt_key b 0 (valid_all hb).2, h3]
  · intro e
    have hf : ∀ l : List Cm, outL l = (l.map keyC).flatMap fun k => lineL k.1 k.2.1.data.toList k.2.2 ++ [10] := by
      intro l
      unfold outL
      rw [List.flatMap_map]
      rfl
    rw [hf a, hf b, e]
end Go.Proofs.YtbgekgakamincaaDoor.Ps
