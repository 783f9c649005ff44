/- The lexer's tokens are well formed; what is read of them is bounded. What the parser's loop keeps. The steps of the parser's loop. Parse walked. Printed by wip/mk_psparse.py. -/
import Derived.Test.YtbgekgakamincaaDoorPsB
import Derived.Test.YtbgekgakamincaaDoorPsC
import Derived.Test.YtbgekgakamincaaDoorPrA
import Derived.Test.YtbgekgakamincaaDoorPsA

/- The lexer's tokens are well formed; what is read of them is bounded. -/
namespace Go.Proofs.YtbgekgakamincaaDoor.Ps
open Go.RowKit Go.Proofs.YtbgekgakamincaaDoor.Lx Go.Proofs.YtbgekgakamincaaDoor.Pr
set_option linter.unusedVariables false

/-- A span as it stands in a script. -/
structure SpT (L : Nat) (x : Span) : Prop where
  head : ∃ c r, x.text.data.toList = c :: r ∧ cls c = x.cls
  one : x.cls = 5 → x.text.data.toList = [59]
  le : x.cls ≤ 5
  size : x.text.data.toList.length ≤ L
  pos : x.pos ≤ L
theorem spans_spT (L : Nat) : ∀ (n : Nat) (l : List UInt8) (p : Nat), l.length ≤ n → p + l.length ≤ L → ∀ x ∈ spans l p, SpT L x
  | 0, l, p, h, _, x, hx => by
    obtain rfl : l = [] := List.eq_nil_of_length_eq_zero (by omega)
    rw [spans_nil] at hx; cases hx
  | n + 1, [], p, h, _, x, hx => by rw [spans_nil] at hx; cases hx
  | n + 1, c :: r, p, h, hL, x, hx => by
    have h1 := spanLen_pos c r
    have h2 := spanLen_le (c :: r)
    rw [spans_cons] at hx
    rcases List.mem_cons.1 hx with rfl | hx
    · have ht : (c :: r).take (spanLen (c :: r)) = c :: r.take (spanLen (c :: r) - 1) := by
        cases hs : spanLen (c :: r) with
        | zero => omega
        | succ k => rw [List.take_succ_cons]; rfl
      refine ⟨⟨c, _, ht, rfl⟩, fun h5 => ?_, cls_le c, ?_, ?_⟩
      · have h5' : cls c = 5 := h5
        have hs : spanLen (c :: r) = 1 := by
          simp only [spanLen]
          rw [if_neg (by omega), if_neg (by omega), if_neg (by omega)]
        show (c :: r).take (spanLen (c :: r)) = [59]
        rw [hs]
        have hc : c.toNat = 59 := by
          unfold cls at h5'
          repeat' split at h5'
          all_goals first | omega | assumption
        rw [show c = 59 from UInt8.toNat_inj.1 hc]
        rfl
      · show ((c :: r).take (spanLen (c :: r))).length ≤ L
        rw [List.length_take]
        omega
      · show p ≤ L
        omega
    · exact spans_spT L n _ _ (by rw [List.length_drop]; simp only [List.length_cons] at *; omega) (by rw [List.length_drop]; omega) x hx
def WfP (t : Tok) : Prop := WfT t ∧ t.pos ≤ 8000
theorem tok_wf {x : Span} (h : SpT 8000 x) {t : Tok} (ht : tokenOf x.cls x.text.data.toList = .ok t) (h0 : x.cls ≠ 0) (h1 : x.cls ≠ 1) (h2 : x.cls ≠ 2) : WfP { t with pos := x.pos } := by
  obtain ⟨c, r, hx, hc⟩ := h.head
  unfold tokenOf at ht
  by_cases k3 : x.cls = 3
  · rw [if_pos k3] at ht
    split at ht
    · cases ht
    · rename_i hl
      injection ht with ht
      subst ht
      refine ⟨⟨fun q => absurd q (show (1 : Nat) ≠ 2 by decide), fun q => absurd q (show (1 : Nat) ≠ 3 by decide), fun _ _ => ⟨rfl, ?_, ?_⟩, Nat.zero_le _, ?_⟩, h.pos⟩
      · show x.text.data.toList ≠ [59]
        intro q
        rw [hx] at q
        injection q with q _
        rw [q, k3] at hc
        revert hc
        decide
      · show x.text.data.toList ≠ []
        rw [hx]; simp
      · show x.text.data.toList.length ≤ 8000
        omega
  · rw [if_neg k3] at ht
    by_cases k4 : x.cls = 4
    · rw [if_pos k4] at ht
      split at ht
      · cases ht
      · split at ht
        · cases ht
        · rename_i hn
          injection ht with ht
          subst ht
          exact ⟨⟨fun _ => rfl, fun q => absurd q (show (2 : Nat) ≠ 3 by decide), fun q => absurd rfl q, by show num x.text.data.toList ≤ 1000000000; omega, by show (0 : Nat) ≤ 8000; omega⟩, h.pos⟩
    · rw [if_neg k4] at ht
      injection ht with ht
      subst ht
      have h5 : x.cls = 5 := by have := h.le; omega
      exact ⟨⟨fun q => absurd q (show (3 : Nat) ≠ 2 by decide), fun _ => h.one h5, fun _ q => absurd rfl q, Nat.zero_le _, h.size⟩, h.pos⟩
theorem lexE_wf : ∀ (xs : List Span) (acc a : List Tok), (∀ x ∈ xs, SpT 8000 x) → (∀ t ∈ acc, WfP t) → acc.length ≤ 2000 → lexE acc xs = .ok a → (∀ t ∈ a, WfP t) ∧ a.length ≤ 2000
  | [], acc, a, _, hacc, hl, h => by
    simp only [lexE] at h
    injection h with h
    subst h
    exact ⟨hacc, hl⟩
  | x :: xs, acc, a, hx, hacc, hl, h => by
    simp only [lexE] at h
    cases hs : stepS acc x with
    | error e => rw [hs] at h; cases h
    | ok b =>
      rw [hs] at h
      refine lexE_wf xs b a (fun y hy => hx y (List.mem_cons_of_mem _ hy)) ?_ (stepS_len hs hl) h
      unfold stepS at hs
      split at hs
      · injection hs with hs; subst hs; exact hacc
      · rename_i h12
        split at hs
        · cases hs
        · rename_i h0
          split at hs
          · cases hs
          · split at hs
            · cases hs
            · rename_i t ht
              injection hs with hs
              subst hs
              intro u hu
              rcases List.mem_append.1 hu with hu | hu
              · exact hacc u hu
              · rw [List.mem_singleton] at hu
                subst hu
                exact tok_wf (hx x (List.mem_cons_self ..)) ht h0 (fun q => h12 (.inl q)) (fun q => h12 (.inr q))
theorem lex_wf (l : List UInt8) : (∀ t ∈ (LEX l).toks, WfP t) ∧ (LEX l).toks.length ≤ 2000 := by
  unfold LEX
  split
  · show (∀ t ∈ ([] : List Tok), WfP t) ∧ ([] : List Tok).length ≤ 2000
    exact ⟨fun t ht => (by cases ht), by simp⟩
  · rename_i h8
    cases hr : lexE [] (spans l 0) with
    | error e =>
      show (∀ t ∈ ([] : List Tok), WfP t) ∧ ([] : List Tok).length ≤ 2000
      exact ⟨fun t ht => (by cases ht), by simp⟩
    | ok a => exact lexE_wf (spans l 0) [] a (fun x hx => spans_spT 8000 l.length l 0 (Nat.le_refl _) (by omega) x hx) (fun t ht => by cases ht) (by decide) hr
/-- What is read is bounded. -/
structure PcOk (c : PC) : Prop where
  kind : c.kind ≤ 11
  name : c.name.size ≤ 8000
  ns : ∀ v ∈ c.ns, -1000000000 ≤ v ∧ v ≤ 1000000000
  len : c.ns.length ≤ 12
  pos : c.pos ≤ 8000
theorem nm_ok : ∀ (ts : List Tok) (ps : List (List UInt8)) (nm : ByteArray), (∀ t ∈ ts, WfP t) → nm.size ≤ 8000 → (nmB nm ts ps).size ≤ 8000
  | [], ps, nm, _, h => by simpa [nmB] using h
  | t :: ts, [], nm, _, h => by simpa [nmB] using h
  | t :: ts, p :: ps, nm, hw, h => by
    simp only [nmB]
    refine nm_ok ts ps _ (fun u hu => hw u (List.mem_cons_of_mem _ hu)) ?_
    split
    · exact (hw t (List.mem_cons_self ..)).1.size
    · exact h
theorem ns_ok : ∀ (ts : List Tok) (ps : List (List UInt8)) (neg : Bool), (∀ t ∈ ts, WfP t) → ∀ v ∈ nsB neg ts ps, -1000000000 ≤ v ∧ v ≤ 1000000000
  | [], ps, neg, _, v, hv => by simp [nsB] at hv
  | t :: ts, [], neg, _, v, hv => by simp [nsB] at hv
  | t :: ts, p :: ps, neg, hw, v, hv => by
    have hn := (hw t (List.mem_cons_self ..)).1.n
    have hw' : ∀ u ∈ ts, WfP u := fun u hu => hw u (List.mem_cons_of_mem _ hu)
    simp only [nsB] at hv
    split at hv
    · rcases List.mem_cons.1 hv with rfl | hv
      · split <;> omega
      · exact ns_ok ts ps _ hw' v hv
    · exact ns_ok ts ps _ hw' v hv
theorem ns_len : ∀ (ts : List Tok) (ps : List (List UInt8)) (neg : Bool), (nsB neg ts ps).length ≤ ps.length
  | [], ps, neg => by simp [nsB]
  | t :: ts, [], neg => by simp [nsB]
  | t :: ts, p :: ps, neg => by
    simp only [nsB]
    split
    · have := ns_len ts ps false; simp only [List.length_cons]; omega
    · have := ns_len ts ps (decide (p = [100]) && t.text.data.toList == bSlow); simp only [List.length_cons]; omega
theorem look_mem {l : List (List UInt8 × Nat)} {w : List UInt8} {k : Nat} (h : lookB l w = some k) : k ∈ l.map (·.2) := by
  unfold lookB at h
  obtain ⟨x, hx, rfl⟩ := Option.map_eq_some_iff.1 h
  exact List.mem_map_of_mem (List.mem_of_find?_eq_some hx)
theorem sel_kind {ts : List Tok} {k : Nat} (h : selB ts = .ok k) : 1 ≤ k ∧ k ≤ 11 := by
  have hb : ∀ l : List Nat, (l.all fun k => decide (1 ≤ k ∧ k ≤ 11)) = true → k ∈ l → 1 ≤ k ∧ k ≤ 11 := fun l hl hk => by simpa using List.all_eq_true.1 hl k hk
  unfold selB at h
  split at h
  · split at h
    · cases hq : lookB evTab (txtB ts[2]?) with
      | none => rw [hq] at h; cases h
      | some j => rw [hq] at h; injection h with h; subst h; exact hb _ (by decide) (look_mem hq)
    · cases h
  · cases hq : lookB cmdTab (txtB ts.head?) with
    | none => rw [hq] at h; cases h
    | some j => rw [hq] at h; injection h with h; subst h; exact hb _ (by decide) (look_mem hq)
end Go.Proofs.YtbgekgakamincaaDoor.Ps

/- What the parser's loop keeps. -/
namespace Go.Proofs.YtbgekgakamincaaDoor.Ps
open Go.RowKit Go.Proofs.YtbgekgakamincaaDoor.Lx Go.Proofs.YtbgekgakamincaaDoor.Pr
set_option linter.unusedVariables false

theorem w64_in {x : Int} (h1 : -9000000000 ≤ x) (h2 : x ≤ 9000000000) : w64 x := by unfold w64; simp [Lit.wf, IntKind.min, IntKind.max, IntKind.bits, IntKind.signed]; omega
theorem info_diag : (Tryd.prog.info? 49).map (fun i => (i.zero, i.size, i.bytes)) = some (some (.agg #[.int .i64 0, .int .i64 0]), 2, 16) := by kernel_rfl
def decD (x : Nat × Nat) : List Value := [.int .i64 (x.1 : Nat), .int .i64 (x.2 : Nat)]
/-- Diagnostics in memory. -/
def IsDgs (w : World) (A : Option Addr) (n c : Nat) (l : List (Nat × Nat)) : Prop := IsList decD 2 (fun _ => True) w A n c l
theorem dgs_own {w : World} {base n c : Nat} {A : Option Addr} {l : List (Nat × Nat)} (h : w.ownsRow base 49 2 (.slice A n c) n (l.flatMap decD)) (hl : l.length = n) : IsDgs w A n c l := by
  refine ⟨hl, Rd.of_own h, ?_, ?_, fun _ _ => trivial⟩
  · rcases h.2 with ⟨h1, rfl⟩ | ⟨g, cap, cur, h1, _, _, h2, _⟩
    · omega
    · injection h1 with _ _ h1; omega
  · rcases h.2 with ⟨h1, rfl⟩ | ⟨g, cap, cur, h1, _, _, _, h2, _⟩
    · injection h1 with _ _ h1; unfold maxLen; omega
    · injection h1 with _ _ h1; omega
theorem own_apart' {w w' : World} {base base' size size' n n' : Nat} {e e' : TypeId} {v v' : Value} {xs xs' : List Value} (h : w.ownsRow base e size v n xs) (k : w.ownsRow base' e' size' v' n' xs') (hne : e ≠ e') (hg : w.grownBy w' v'.ownBlock) : w'.ownsRow base e size v n xs := by
  refine h.kept hg ?_
  rcases h.2 with ⟨rfl, _⟩ | ⟨g, cap, cur, rfl, _, hgg, _⟩
  · exact .inl rfl
  · refine .inr (fun q => ?_)
    rcases k.2 with ⟨rfl, _⟩ | ⟨g', cap', cur', rfl, _, hgg', _⟩
    · cases q
    · have : g = g' := by simpa [Value.ownBlock] using q
      subst this
      rw [hgg] at hgg'
      injection hgg' with hgg'
      injection hgg' with _ hgg'
      exact hne hgg'
/-- A command whose numbers lie in a row of their own. -/
structure CmOwn (B : Nat) (w : World) (x : Cm) : Prop where
  own : w.ownsRow B 3 1 (.slice x.A x.n x.c) x.n (x.ns.map iv)
  len : x.ns.length = x.n
  kind : 0 ≤ x.kind ∧ x.kind ≤ 11
  name : x.name.size ≤ 8000
  ns : ∀ v ∈ x.ns, -1000000000 ≤ v ∧ v ≤ 1000000000
  pos : 0 ≤ x.pos ∧ x.pos ≤ 8000
theorem CmOwn.up {B : Nat} {w w' : World} {x : Cm} (h : CmOwn B w x) (hb : Below w.heap.size w w') : CmOwn B w' x := ⟨own_keep h.own hb, h.len, h.kind, h.name, h.ns, h.pos⟩
theorem CmOwn.gr {B rb : Nat} {w w' : World} {x : Cm} {cs : Array Value} (h : CmOwn B w x) (hg : Gr rb none w w') (hb : Blk w rb 52 cs) : CmOwn B w' x :=
  ⟨h.own.kept (row := some rb) ⟨hg.os, hg.tape, hg.output, hg.size, fun k hk hr => hg.block k hk (fun q => hr (by rw [q])) (by simp)⟩ (.inr (own_ne_t h.own hb (by decide))), h.len, h.kind, h.name, h.ns, h.pos⟩
theorem CmOwn.grown {B base size n : Nat} {w w' : World} {x : Cm} {t : TypeId} {v : Value} {xs : List Value} (h : CmOwn B w x) (ho : w.ownsRow base t size v n xs) (ht : 3 ≠ t) (hg : w.grownBy w' v.ownBlock) : CmOwn B w' x :=
  ⟨own_apart' h.own ho ht hg, h.len, h.kind, h.name, h.ns, h.pos⟩
theorem CmOwn.in_ {B : Nat} {w : World} {x : Cm} (h : CmOwn B w x) : Cm.In w x := by
  refine ⟨w64_in (by have := h.kind; omega) (by have := h.kind; omega), Nat.le_trans h.name (by decide), Rd.of_own h.own, h.len, ?_, ?_, fun v hv => w64_in (by have := h.ns v hv; omega) (by have := h.ns v hv; omega), w64_in (by have := h.pos; omega) (by have := h.pos; omega)⟩
  · rcases h.own.2 with ⟨h1, h2⟩ | ⟨g, cap, cur, h1, _, _, h2, _⟩
    · omega
    · injection h1 with _ _ h1; omega
  · rcases h.own.2 with ⟨h1, h2⟩ | ⟨g, cap, cur, h1, _, _, _, h2, _⟩
    · injection h1 with _ _ h1; unfold maxLen; omega
    · injection h1 with _ _ h1; omega
theorem cms_none (w : World) : IsCms w none 0 0 [] := ⟨rfl, Rd.nil_, Nat.le_refl _, by decide, fun x hx => by cases hx⟩
def keyQ (x : Cm) : Int × ByteArray × List Int × Int := (x.kind, x.name, x.ns, x.pos)
def keyR (c : PC) : Int × ByteArray × List Int × Int := ((c.kind : Nat), c.name, c.ns, (c.pos : Nat))
theorem expL_len {k : Nat} (h : 1 ≤ k ∧ k ≤ 11) : (expL k).length ≤ 12 ∧ 3 ≤ (expL k).length := by
  obtain ⟨h1, h2⟩ := h
  match k, h1, h2 with
  | 1, _, _ => exact ⟨by rw [show ((1 : Nat) : Int) = 1 from rfl, expL_1]; decide, by rw [show ((1 : Nat) : Int) = 1 from rfl, expL_1]; decide⟩
  | 2, _, _ => exact ⟨by rw [show ((2 : Nat) : Int) = 2 from rfl, expL_2]; decide, by rw [show ((2 : Nat) : Int) = 2 from rfl, expL_2]; decide⟩
  | 3, _, _ => exact ⟨by rw [show ((3 : Nat) : Int) = 3 from rfl, expL_3]; decide, by rw [show ((3 : Nat) : Int) = 3 from rfl, expL_3]; decide⟩
  | 4, _, _ => exact ⟨by rw [show ((4 : Nat) : Int) = 4 from rfl, expL_4]; decide, by rw [show ((4 : Nat) : Int) = 4 from rfl, expL_4]; decide⟩
  | 5, _, _ => exact ⟨by rw [show ((5 : Nat) : Int) = 5 from rfl, expL_5]; decide, by rw [show ((5 : Nat) : Int) = 5 from rfl, expL_5]; decide⟩
  | 6, _, _ => exact ⟨by rw [show ((6 : Nat) : Int) = 6 from rfl, expL_6]; decide, by rw [show ((6 : Nat) : Int) = 6 from rfl, expL_6]; decide⟩
  | 7, _, _ => exact ⟨by rw [show ((7 : Nat) : Int) = 7 from rfl, expL_7]; decide, by rw [show ((7 : Nat) : Int) = 7 from rfl, expL_7]; decide⟩
  | 8, _, _ => exact ⟨by rw [show ((8 : Nat) : Int) = 8 from rfl, expL_8]; decide, by rw [show ((8 : Nat) : Int) = 8 from rfl, expL_8]; decide⟩
  | 9, _, _ => exact ⟨by rw [show ((9 : Nat) : Int) = 9 from rfl, expL_9]; decide, by rw [show ((9 : Nat) : Int) = 9 from rfl, expL_9]; decide⟩
  | 10, _, _ => exact ⟨by rw [show ((10 : Nat) : Int) = 10 from rfl, expL_10]; decide, by rw [show ((10 : Nat) : Int) = 10 from rfl, expL_10]; decide⟩
  | 11, _, _ => exact ⟨by rw [show ((11 : Nat) : Int) = 11 from rfl, expL_11]; decide, by rw [show ((11 : Nat) : Int) = 11 from rfl, expL_11]; decide⟩
  | k + 12, _, h => omega
theorem rd_some {ts : List Tok} {c : PC} {m : Nat} (hw : ∀ t ∈ ts, WfP t) (h : rdB ts = (some c, m)) : PcOk c ∧ 1 ≤ m ∧ m ≤ ts.length := by
  unfold rdB at h
  split at h
  · cases h
  · rename_i k hs
    split at h
    · rename_i hm
      injection h with h1 h2
      injection h1 with h1
      subst h1 h2
      have hk := sel_kind hs
      have hl := expL_len hk
      have hle := (matchB_le ts (expL k)).2
      refine ⟨⟨hk.2, nm_ok ts _ _ hw (by decide), ns_ok ts _ _ hw, Nat.le_trans (ns_len ts _ _) hl.1, ?_⟩, by omega, by omega⟩
      show posB ts.head? 0 ≤ 8000
      cases ts with
      | nil => exact Nat.zero_le _
      | cons t r => exact (hw t (List.mem_cons_self ..)).2
    · cases h
end Go.Proofs.YtbgekgakamincaaDoor.Ps

/- The steps of the parser's loop. -/
namespace Go.Proofs.YtbgekgakamincaaDoor.Ps
open Go.RowKit Go.Proofs.YtbgekgakamincaaDoor.Lx Go.Proofs.YtbgekgakamincaaDoor.Pr
set_option linter.unusedVariables false

section
variable {w1 wr w' w2 w3 : World} {rb e : Nat} {fin : PR} {o d o' d' : Value} {ts : List Tok} {OUT : List Cm} {dps : List Nat} {A : Option Addr} {n c : Nat} {K : Int} {nm : ByteArray} {NV : Value} {ns : List Int} {at_ : Int}
theorem own_gr {base size n : Nat} {t : TypeId} {v : Value} {xs : List Value} {cs : Array Value} (h : wr.ownsRow base t size v n xs) (hg : Gr rb none wr w') (hb : Blk wr rb 52 cs) (ht : t ≠ 52) : w'.ownsRow base t size v n xs := by
  refine h.kept (row := some rb) ⟨hg.os, hg.tape, hg.output, hg.size, fun k hk hr => hg.block k hk (fun q => hr (by rw [q])) (by simp)⟩ ?_
  rcases h.2 with ⟨rfl, _⟩ | ⟨g, cap, cur, rfl, _, hgg, _⟩
  · exact .inl rfl
  · refine .inr (fun q => ?_)
    have : g = rb := by simpa [Value.ownBlock] using q
    subst this
    have hb' : wr.heap[g]? = some (.cells cs 52 (0, 0)) := hb
    rw [hgg] at hb'
    injection hb' with hb'
    injection hb' with _ hb'
    exact ht hb'
theorem RS.grown {base size m : Nat} {t : TypeId} {v : Value} {xs : List Value} (h : RS w1 rb e A n c ts K nm NV ns at_ wr) (ho : wr.ownsRow base t size v m xs) (hbase : w1.heap.size ≤ base) (h1 : t ≠ 3) (h2 : t ≠ 52) (hg : wr.grownBy w' v.ownBlock) : RS w1 rb e A n c ts K nm NV ns at_ w' := by
  refine ⟨own_below ho hg h.bel hbase h.bel.size, h.toks, h.blk.grown hg (fun q => ?_), own_apart' h.own ho (Ne.symm h1) hg, h.ge⟩
  rcases ho.2 with ⟨rfl, _⟩ | ⟨g, cap, cur, rfl, _, hgg, _⟩
  · cases q
  · have : rb = g := by simpa [Value.ownBlock] using q
    subst this
    have hb' : wr.heap[rb]? = some (.cells _ 52 (0, 0)) := h.blk
    rw [hgg] at hb'
    injection hb' with hb'
    injection hb' with _ hb'
    exact h2 hb'
/-- .. behind a command. -/
structure PAt (w1 : World) (rb e : Nat) (o d : Value) (w' : World) (ts : List Tok) (OUT : List Cm) (dps : List Nat) (A : Option Addr) (n c : Nat) (K : Int) (nm : ByteArray) (NV : Value) (ns : List Int) (at_ : Int) : Prop where
  rs : RS w1 rb e A n c ts K nm NV ns at_ w'
  outs : w'.ownsRow w1.heap.size 40 4 o OUT.length (OUT.flatMap decC)
  each : ∀ x ∈ OUT, CmOwn w1.heap.size w' x
  dgs : w'.ownsRow w1.heap.size 49 2 d dps.length ((dps.map fun p => (7, p)).flatMap decD)
theorem PAt.cmd (h : PAt w1 rb e o d wr ts OUT dps A n c K nm NV ns at_) {A' : Option Addr} {n' c' : Nat} {K' : Int} {nm' : ByteArray} {NV' : Value} {ns' : List Int} {at' : Int} {ts' : List Tok} (hr : RS w1 rb e A' n' c' ts' K' nm' NV' ns' at' w') (hg : Gr rb none wr w') :
    PAt w1 rb e o d w' ts' OUT dps A' n' c' K' nm' NV' ns' at' :=
  ⟨hr, own_gr h.outs hg h.rs.blk (by decide), fun x hx => (h.each x hx).gr hg h.rs.blk, own_gr h.dgs hg h.rs.blk (by decide)⟩
theorem PAt.up (h : PAt w1 rb e o d w' ts OUT dps A n c K nm NV ns at_) (hb : Below w'.heap.size w' w2) : PAt w1 rb e o d w2 ts OUT dps A n c K nm NV ns at_ :=
  ⟨h.rs.up hb, own_keep h.outs hb, fun x hx => (h.each x hx).up hb, own_keep h.dgs hb⟩
/-- One command more. -/
theorem PAt.more (h : PAt w1 rb e o d w2 ts OUT dps A n c K nm NV ns at_) (hg : w2.grownBy w3 o.ownBlock) {x : Cm} (hx : CmOwn w1.heap.size w2 x) (ho : w3.ownsRow w1.heap.size 40 4 o' (OUT.length + 1) (OUT.flatMap decC ++ decC x)) :
    PAt w1 rb e o' d w3 ts (OUT ++ [x]) dps A n c K nm NV ns at_ := by
  refine ⟨h.rs.grown h.outs (Nat.le_refl _) (by decide) (by decide) hg, ?_, fun y hy => ?_, own_apart' h.dgs h.outs (by decide) hg⟩
  · rw [List.length_append, List.flatMap_append, List.flatMap_singleton]; exact ho
  · rcases List.mem_append.1 hy with hy | hy
    · exact (h.each y hy).grown h.outs (by decide) hg
    · rw [List.mem_singleton.1 hy]; exact hx.grown h.outs (by decide) hg
/-- One diagnostic more. -/
theorem PAt.diag (h : PAt w1 rb e o d w2 ts OUT dps A n c K nm NV ns at_) (hg : w2.grownBy w3 d.ownBlock) {p : Nat} (ho : w3.ownsRow w1.heap.size 49 2 d' (dps.length + 1) ((dps.map fun p => (7, p)).flatMap decD ++ decD (7, p))) :
    PAt w1 rb e o d' w3 ts OUT (dps ++ [p]) A n c K nm NV ns at_ := by
  refine ⟨h.rs.grown h.dgs (Nat.le_refl _) (by decide) (by decide) hg, own_apart' h.outs h.dgs (by decide) hg, fun y hy => (h.each y hy).grown h.dgs (by decide) hg, ?_⟩
  rw [List.length_append, List.map_append, List.flatMap_append, List.map_singleton, List.flatMap_singleton]; exact ho
/-- What the loop has still to do. -/
structure PTo (e : Nat) (fin : PR) (ts : List Tok) (OUT : List Cm) (dps : List Nat) : Prop where
  fin_ : ∃ F pcs, OUT.map keyQ = pcs.map keyR ∧ ts.length < F ∧ loopB e F ts ⟨pcs, dps⟩ = fin
  len : OUT.length + ts.length ≤ 2000
  wf : ∀ t ∈ ts, WfP t
  few : dps.length ≤ 20
theorem PTo.ok (h : PTo e fin ts OUT dps) (h0 : ts ≠ []) (hd : dps.length < 20) {c : PC} {m : Nat} (hr : rdB ts = (some c, m)) {x : Cm} (hx : keyQ x = keyR c) : PTo e fin (ts.drop m) (OUT ++ [x]) dps := by
  obtain ⟨F, pcs, h1, h2, h3⟩ := h.fin_
  obtain ⟨_, hm1, hm2⟩ := rd_some h.wf hr
  have hl := h.len
  refine ⟨?_, by rw [List.length_append, List.length_drop, List.length_singleton]; omega, fun t ht => h.wf t (List.mem_of_mem_drop ht), h.few⟩
  cases F with
  | zero => omega
  | succ F =>
    refine ⟨F, pcs ++ [c], by rw [List.map_append, List.map_append, h1]; simp [hx], by rw [List.length_drop]; omega, ?_⟩
    rw [← h3]
    simp only [loopB]
    rw [if_neg (by rintro (q | q); exact h0 q; exact absurd q (by omega)), hr]
theorem PTo.bad (h : PTo e fin ts OUT dps) (h0 : ts ≠ []) (hd : dps.length < 20) {m : Nat} (hr : rdB ts = (none, m)) : PTo e fin (skipB (ts.drop m)) OUT (dps ++ [posB (ts.drop m).head? e]) := by
  obtain ⟨F, pcs, h1, h2, h3⟩ := h.fin_
  have hl := h.len
  have hs := skipB_len (ts.drop m)
  rw [List.length_drop] at hs
  have hp : 0 < ts.length := List.length_pos_iff.2 h0
  refine ⟨?_, by omega, fun t ht => ?_, by rw [List.length_append, List.length_singleton]; omega⟩
  · cases F with
    | zero => omega
    | succ F =>
      refine ⟨F, pcs, h1, by omega, ?_⟩
      rw [← h3]
      simp only [loopB]
      rw [if_neg (by rintro (q | q); exact h0 q; exact absurd q (by omega)), hr]
  · unfold skipB at ht
    exact h.wf t (List.mem_of_mem_drop ((List.dropWhile_sublist _).subset (List.mem_of_mem_tail ht)))
theorem PTo.done (h : PTo e fin ts OUT dps) (h0 : ts = [] ∨ dps.length = 20) : OUT.map keyQ = fin.out.map keyR ∧ dps = fin.dgs := by
  obtain ⟨F, pcs, h1, h2, h3⟩ := h.fin_
  have : loopB e F ts ⟨pcs, dps⟩ = ⟨pcs, dps⟩ := by
    cases F with
    | zero => rfl
    | succ F => simp only [loopB]; rw [if_pos h0]
  rw [this] at h3
  subst h3
  exact ⟨h1, rfl⟩
theorem semi_fit {t : Tok} (h : WfP t) : (t.text.data.toList == [59]) = !decide (t.kind ≠ 3) := by
  by_cases h3 : t.kind = 3
  · rw [h.1.w3 h3, decide_eq_false (fun q => q h3)]; rfl
  · rw [decide_eq_true h3]
    rw [Bool.not_true, beq_eq_false_iff_ne]
    by_cases h2 : t.kind = 2
    · rw [h.1.w2 h2]; simp
    · exact (h.1.w1 h2 h3).2.1
theorem skip_semi : ∀ (ts : List Tok), (∀ t ∈ ts, WfP t) → (semiI ts = -1 ∧ skipB ts = []) ∨ (∃ k : Nat, semiI ts = (k : Nat) ∧ k < ts.length ∧ skipB ts = ts.drop (k + 1))
  | [], _ => .inl ⟨rfl, rfl⟩
  | t :: r, h => by
    have ht := semi_fit (h t (List.mem_cons_self ..))
    have ih := skip_semi r (fun u hu => h u (List.mem_cons_of_mem _ hu))
    unfold semiI skipB
    rw [List.findIdx?_cons]
    by_cases h3 : t.kind = 3
    · have e1 : (t.text.data.toList == [59]) = true := by rw [ht, decide_eq_false (fun q => q h3)]; rfl
      rw [e1, List.dropWhile_cons_of_neg (by simpa using h3)]
      exact .inr ⟨0, rfl, by simp, rfl⟩
    · have e1 : (t.text.data.toList == [59]) = false := by rw [ht, decide_eq_true h3]; rfl
      rw [e1, List.dropWhile_cons_of_pos (by simpa using h3)]
      unfold semiI skipB at ih
      rcases ih with ⟨a, b⟩ | ⟨k, a, b, c⟩
      · refine .inl ⟨?_, b⟩
        revert a
        cases r.findIdx? (fun t => t.text.data.toList == [59]) with
        | none => intro _; rfl
        | some j => intro a; exact absurd a (by simp)
      · refine .inr ⟨k + 1, ?_, by simp; omega, by rw [List.drop_succ_cons]; exact c⟩
        revert a
        cases r.findIdx? (fun t => t.text.data.toList == [59]) with
        | none => intro a; exact absurd a (by simp)
        | some j => intro a; have : j = k := by have h2 : (j : Int) = (k : Int) := (by simpa using a); omega
                    subst this; rfl
end
end Go.Proofs.YtbgekgakamincaaDoor.Ps

/- Parse walked. Printed by wip/mk_psparse.py. -/
namespace Go.Proofs.YtbgekgakamincaaDoor.Ps
open Go.RowKit Go.Proofs.YtbgekgakamincaaDoor.Lx Go.Proofs.YtbgekgakamincaaDoor.Pr
set_option linter.unusedVariables false

def lstN (rb : Nat) (w : World) : Nat := match w.cell? ⟨rb, 0, none⟩ with | some (.slice _ n _) => n | _ => 0
theorem lstN_of {rb n c : Nat} {A : Option Addr} {w : World} (h : w.cell? ⟨rb, 0, none⟩ = some (.slice A n c)) : lstN rb w = n := by unfold lstN; rw [h]
/-- What Parse hands back. -/
def ParseOut (l : List UInt8) (W : World) (e : Ending) (w' : World) : Prop :=
  ∃ A n c xs B m d ds, e = .returned (.tuple #[.slice A n c, .slice B m d]) ∧ IsCms w' A n c xs ∧ IsDgs w' B m d ds ∧ Below W.heap.size W w' ∧ xs.map keyQ = (PARSE l).1.map keyR ∧ ds = (PARSE l).2
theorem dgs_nil (w : World) : IsDgs w none 0 0 [] := ⟨rfl, Rd.nil_, Nat.le_refl _, by decide, fun x hx => trivial⟩
theorem dgs_one {W : World} {g : Nat} {x : Nat × Nat} (h : Blk W g 49 #[.int .i64 (x.1 : Nat), .int .i64 (x.2 : Nat)]) : IsDgs W (some ⟨g, 0, none⟩) 1 1 [x] := by
  refine dgs_own (base := 0) ⟨rfl, .inr ⟨g, 1, _, rfl, Nat.zero_le _, h, Nat.le_refl _, by decide, rfl, rfl⟩⟩ rfl
theorem lex_err (l : List UInt8) (h : (LEX l).err ≠ 0) : PARSE l = ([], [((LEX l).err, (LEX l).pos)]) := by unfold PARSE; simp only; rw [if_pos h]
theorem lex_ok (l : List UInt8) (h : (LEX l).err = 0) : PARSE l = finB (loopB l.length ((LEX l).toks.length + 1) (LEX l).toks ⟨[], []⟩) := by unfold PARSE; simp only; rw [if_neg (fun q => q h)]
set_option maxRecDepth 100000 in
set_option maxHeartbeats 4000000 in
theorem parse_val (s : ByteArray) (hs : s.size ≤ maxLen) (w : World) (hv : Lx.Vars w) :
    Calls Tryd.prog 8 #[.string s] w (ParseOut s.data.toList w) := by
  unfold maxLen at hs
  have HL := Lib.hid (lex_val s (by unfold maxLen; exact hs) w hv)
  have hsl : s.data.toList.length = s.size := Array.length_toList
  obtain ⟨i0, hi, hz0, hz1, hz2⟩ := info_parts info_cmd
  obtain ⟨i1, hi1, hy0, hy1, hy2⟩ := info_parts info_diag
  have HWF := Lib.hid (lex_wf s.data.toList)
  obtain ⟨L, hL⟩ : ∃ L, LEX s.data.toList = L := ⟨_, rfl⟩
  have HER : Hid (L.err ≠ 0 → PARSE s.data.toList = ([], [(L.err, L.pos)])) := Lib.hid (by rw [← hL]; exact lex_err _)
  have HOK : Hid (L.err = 0 → PARSE s.data.toList = finB (loopB s.size (L.toks.length + 1) L.toks ⟨[], []⟩)) := Lib.hid (by rw [← hL, ← hsl]; exact lex_ok _)
  rw [hL] at HL HWF
  clear hL
  go_enter Tryd.func8, Tryd.ntmps8
  go_wp2_with fail
  refine HL.out.mono ?_
  rintro e1 w1 ⟨A0, n0, c0, rfl, hT, hb1⟩
  have HT := Lib.hid hT
  have HB1 := Lib.hid hb1
  clear hT hb1 HL
  by_cases herr : L.err = 0
  · have f1 : ((L.err : Int) != 0) = false := by rw [herr]; rfl
    have hok := HOK.out herr
    obtain ⟨fin, hfin⟩ : ∃ fin, loopB s.size (L.toks.length + 1) L.toks ⟨[], []⟩ = fin := ⟨_, rfl⟩
    rw [hfin] at hok
    have HF := Lib.hid hok
    have bN := Blk.new w1 52 #[.slice A0 n0 c0, .int .i64 (s.size : Nat), .int .i64 0, .string ⟨#[]⟩, .slice none 0 0, .int .i64 0]
    have HRS : Hid (RS w1 w1.heap.size s.size A0 n0 c0 L.toks 0 ⟨#[]⟩ (.slice none 0 0) [] 0 (w1.alloc (.cells #[.slice A0 n0 c0, .int .i64 (s.size : Nat), .int .i64 0, .string ⟨#[]⟩, .slice none 0 0, .int .i64 0] 52))) := Lib.hid ⟨(Below.refl _ _).alloc (Nat.le_refl _) _, HT.out, bN, World.ownsRow_nil _ _ _ _, Nat.le_refl _⟩
    have HTO : Hid (PTo s.size fin L.toks [] []) := Lib.hid ⟨⟨_, [], rfl, Nat.lt_succ_self _, hfin⟩, by have := HWF.out.2; simp only [List.length_nil]; omega, HWF.out.1, by simp⟩
    have HP0 : Hid (PAt w1 w1.heap.size s.size (.slice none 0 0) (.slice none 0 0) (w1.alloc (.cells #[.slice A0 n0 c0, .int .i64 (s.size : Nat), .int .i64 0, .string ⟨#[]⟩, .slice none 0 0, .int .i64 0] 52)) L.toks [] [] A0 n0 c0 0 ⟨#[]⟩ (.slice none 0 0) [] 0) := Lib.hid ⟨HRS.out, World.ownsRow_nil _ _ _ _, fun x hx => (by cases hx), World.ownsRow_nil _ _ _ _⟩
    clear bN hok hfin HRS
    go_wp2_with fail
    go_loopw [8, 9] (fun o d wr => ∃ ts OUT dps A n c K nm NV ns at_, Hid (PAt w1 w1.heap.size s.size o d wr ts OUT dps A n c K nm NV ns at_) ∧ Hid (PTo s.size fin ts OUT dps)) (fun _ _ wr => lstN w1.heap.size wr)
    case atStart => exact ⟨L.toks, [], [], _, _, _, _, _, _, _, _, HP0, HTO⟩
    case round =>
      obtain ⟨ts, OUT, dps, A, n, c, K, nm, NV, ns, at_, HP, HQ⟩ := hrel
      obtain ⟨OA, oc, rfl, hOA⟩ := own_form HP.out.outs
      obtain ⟨DA, dc, rfl, hDA⟩ := own_form HP.out.dgs
      have hn := HP.out.rs.len
      have c0 : wr.cell? ⟨w1.heap.size, 0, none⟩ = some (.slice A n c) := HP.out.rs.blk.cell 0
      have HLN := Lib.hid (lstN_of c0)
      by_cases h0 : ts = []
      · have hn0 : ¬ (0 : Int) < (n : Int) := by rw [← hn, h0]; simp
        have hdn := HQ.out.done (.inl h0)
        by_cases hd0 : dps = []
        · have f2 : ¬ (0 : Int) < (dps.length : Int) := by rw [hd0]; simp
          by_cases h3 : 300 < OUT.length
          · have f3 : (300 : Int) < (OUT.length : Int) := by omega
            obtain ⟨og, hog⟩ := hOA (by omega)
            subst hog
            have h300 : 300 < fin.out.length := by have := congrArg List.length hdn.1; rw [List.length_map, List.length_map] at this; omega
            have hres : finB fin = ([], [(2, fin.out[300].pos)]) := by unfold finB; rw [if_neg (fun q => q (by rw [← hdn.2]; exact hd0)), dif_pos h300]
            have hq := HP.out.each OUT[300] (List.getElem_mem h3)
            have hpos : OUT[300].pos = (fin.out[300].pos : Nat) := by
              have h1 : (OUT.map keyQ)[300]? = (fin.out.map keyR)[300]? := by rw [hdn.1]
              rw [List.getElem?_map, List.getElem?_map, List.getElem?_eq_getElem h3, List.getElem?_eq_getElem h300] at h1
              injection h1 with h1
              exact congrArg (fun x => x.2.2.2) h1
            obtain ⟨q, hq0⟩ : ∃ q, fin.out[300].pos = q := ⟨_, rfl⟩
            rw [hq0] at hres hpos
            have cX : wr.cell? ⟨og, 1203, none⟩ = some (.int .i64 (q : Nat)) := by
              rw [HP.out.outs.cellAt 1203 (by omega), show (1203 : Nat) = 300 * 4 + 3 from rfl, flat_get (k := 4) (fun _ => rfl) _ 300 3 _ (List.getElem?_eq_getElem h3) (by decide), ← hpos]
              rfl
            have HRS := Lib.hid (show PARSE s.data.toList = ([], [(2, q)]) by rw [HF.out, hres])
            clear hdn hres hd0 h0 h300 hq hpos hq0
            have HBX := Lib.hid (below_trans' HB1.out HP.out.rs.bel)
            have hbl : (300 : Int) < (OUT.length : Int) := f3
            have HBY := Lib.hid ((HBX.out.alloc HBX.out.size (.cells #[.int .i64 2, .int .i64 (q : Nat)] 49)).drew)
            have HBD : Hid (Blk (wr.alloc (.cells #[.int .i64 2, .int .i64 (q : Nat)] 49)).drew wr.heap.size 49 #[.int .i64 ((2 : Nat) : Int), .int .i64 (q : Nat)]) := Lib.hid (Blk.new _ _ _).drew
            have HPO : Hid (ParseOut s.data.toList w (.returned (.tuple #[.slice none 0 0, .slice (some ⟨wr.heap.size, 0, none⟩) 1 1])) (wr.alloc (.cells #[.int .i64 2, .int .i64 (q : Nat)] 49)).drew) := Lib.hid ⟨_, _, _, [], _, _, _, [(2, q)], rfl, cms_none _, dgs_one HBD.out, HBY.out, by rw [HRS.out]; rfl, by rw [HRS.out]⟩
            go_wp2_with fail
            go_region
            go_wp2_with fail
            refine bodyPost_ret (v := .tuple #[.slice none 0 0, .slice (some ⟨wr.heap.size, 0, none⟩) 1 1]) ?_ rfl HPO.out
            simp [results, Tryd.f8]
          · have f3 : ¬ (300 : Int) < (OUT.length : Int) := by omega
            have hres : finB fin = (fin.out, []) := by unfold finB; rw [if_neg (fun q => q (by rw [← hdn.2]; exact hd0)), dif_neg (by have := congrArg List.length hdn.1; rw [List.length_map, List.length_map] at this; omega)]
            have HPO : Hid (ParseOut s.data.toList w (.returned (.tuple #[.slice OA OUT.length oc, .slice none 0 0])) wr) := Lib.hid ⟨_, _, _, OUT, _, _, _, [], rfl, cms_own HP.out.outs rfl (fun x hx => (HP.out.each x hx).in_), dgs_nil _, below_trans' HB1.out HP.out.rs.bel, by rw [HF.out, hres]; exact hdn.1, by rw [HF.out, hres]⟩
            clear hdn hres hd0 h0
            go_wp2_with fail
            refine bodyPost_ret (v := .tuple #[.slice OA OUT.length oc, .slice none 0 0]) ?_ rfl HPO.out
            simp [results, Tryd.f8]
        · have hdp : 0 < dps.length := List.length_pos_iff.2 hd0
          have f2 : (0 : Int) < (dps.length : Int) := by omega
          have hres : finB fin = ([], fin.dgs.map fun p => (7, p)) := by unfold finB; rw [if_pos (by rw [← hdn.2]; exact hd0)]
          have HPO : Hid (ParseOut s.data.toList w (.returned (.tuple #[.slice none 0 0, .slice DA dps.length dc])) wr) := Lib.hid ⟨_, _, _, [], _, _, _, dps.map (fun p => (7, p)), rfl, cms_none _, dgs_own HP.out.dgs (by simp), below_trans' HB1.out HP.out.rs.bel, by rw [HF.out, hres]; rfl, by rw [HF.out, hres, hdn.2]⟩
          clear hdn hres hd0 hdp h0
          go_wp2_with fail
          refine bodyPost_ret (v := .tuple #[.slice none 0 0, .slice DA dps.length dc]) ?_ rfl HPO.out
          simp [results, Tryd.f8]
      · have hn0 : (0 : Int) < (n : Int) := by have := List.length_pos_iff.2 h0; omega
        have H0 := Lib.hid h0
        clear h0
        by_cases h20 : dps.length = 20
        · have f4 : ¬ (dps.length : Int) < 20 := by omega
          have hdn := HQ.out.done (.inr h20)
          have hd0 : dps ≠ [] := by rintro rfl; cases h20
          have hdp : 0 < dps.length := List.length_pos_iff.2 hd0
          have f2 : (0 : Int) < (dps.length : Int) := by omega
          have hres : finB fin = ([], fin.dgs.map fun p => (7, p)) := by unfold finB; rw [if_pos (by rw [← hdn.2]; exact hd0)]
          have HPO : Hid (ParseOut s.data.toList w (.returned (.tuple #[.slice none 0 0, .slice DA dps.length dc])) wr) := Lib.hid ⟨_, _, _, [], _, _, _, dps.map (fun p => (7, p)), rfl, cms_none _, dgs_own HP.out.dgs (by simp), below_trans' HB1.out HP.out.rs.bel, by rw [HF.out, hres]; rfl, by rw [HF.out, hres, hdn.2]⟩
          clear hdn hres hd0 hdp h20
          go_wp2_with fail
          refine bodyPost_ret (v := .tuple #[.slice none 0 0, .slice DA dps.length dc]) ?_ rfl HPO.out
          simp [results, Tryd.f8]
        · have hfew := HQ.out.few
          have f4 : (dps.length : Int) < 20 := by omega
          have HC := Lib.hid (command_val (fun t ht => (HQ.out.wf t ht).1) HP.out.rs)
          go_wp2_with fail
          refine HC.out.mono ?_
          rintro e2 w2 ⟨A', n', c', K', nm', NV', ns', at', hr, hg, hnb, hm⟩
          obtain ⟨m, hm2⟩ : ∃ m, (rdB ts).2 = m := ⟨_, rfl⟩
          rw [hm2] at hr
          have hP2 := HP.out.cmd hr hg
          have hle := HQ.out.len
          cases hrd : (rdB ts).1 with
          | some cc =>
            rw [hrd] at hm
            obtain ⟨rfl, rfl, rfl, rfl, rfl⟩ := hm
            have hrde : rdB ts = (some cc, m) := by rw [← hrd, ← hm2]
            have hpc := rd_some HQ.out.wf hrde
            obtain ⟨xA, xc, rfl, _⟩ := own_form hr.own
            have hcx : CmOwn w1.heap.size w2 ⟨(cc.kind : Nat), cc.name, xA, cc.ns.length, xc, cc.ns, (cc.pos : Nat)⟩ := ⟨hr.own, rfl, ⟨by show (0 : Int) ≤ (cc.kind : Nat); omega, by have := hpc.1.kind; show ((cc.kind : Nat) : Int) ≤ 11; omega⟩, hpc.1.name, hpc.1.ns, ⟨by show (0 : Int) ≤ (cc.pos : Nat); omega, by have := hpc.1.pos; show ((cc.pos : Nat) : Int) ≤ 8000; omega⟩⟩
            have y2 : w2.cell? ⟨w1.heap.size, 2, none⟩ = some (.int .i64 (cc.kind : Nat)) := hr.blk.cell 2
            have y3 : w2.cell? ⟨w1.heap.size, 3, none⟩ = some (.string cc.name) := hr.blk.cell 3
            have y4 : w2.cell? ⟨w1.heap.size, 4, none⟩ = some (.slice xA cc.ns.length xc) := hr.blk.cell 4
            have y5 : w2.cell? ⟨w1.heap.size, 5, none⟩ = some (.int .i64 (cc.pos : Nat)) := hr.blk.cell 5
            have hb3 : Below w2.heap.size w2 (w2.alloc (.cells #[.int .i64 (cc.kind : Nat), .string cc.name, .slice xA cc.ns.length xc, .int .i64 (cc.pos : Nat)] 40)) := (Below.refl _ _).alloc (Nat.le_refl _) _
            have HP3 := Lib.hid (hP2.up hb3)
            have HX3 := Lib.hid (hcx.up hb3)
            have HRD := Lib.hid (rd_fresh w2 40 #[.int .i64 (cc.kind : Nat), .string cc.name, .slice xA cc.ns.length xc, .int .i64 (cc.pos : Nat)] 4 1 (decC ⟨(cc.kind : Nat), cc.name, xA, cc.ns.length, xc, cc.ns, (cc.pos : Nat)⟩) rfl rfl)
            have HON := Lib.hid (one_decC ⟨(cc.kind : Nat), cc.name, xA, cc.ns.length, xc, cc.ns, (cc.pos : Nat)⟩)
            have HTO' := Lib.hid (HQ.out.ok H0.out (by omega) hrde (x := ⟨(cc.kind : Nat), cc.name, xA, cc.ns.length, xc, cc.ns, (cc.pos : Nat)⟩) rfl)
            have HM1 : Hid (1 ≤ m ∧ m ≤ ts.length) := Lib.hid hpc.2
            have HN := Lib.hid hn
            clear hr hg hnb hP2 hrd hrde hpc hcx hb3 hm2 HC hn
            go_wp2_with (at_builtin; refine wpList_append_rd _ rfl (.tmp 47) (.tmp 52) _ rfl w1.heap.size 40 i0 _ 4 56 Tryd.underlying25 hi hz0 hz1 hz2 rfl (by decide) _ OUT.length _ rfl HP3.out.outs _ (some ⟨w2.heap.size, 0, none⟩) 1 1 _ rfl HRD.out HON.out (by simp only [maxLen]; omega) (by omega) HP3.out.rs.bel.size ?_; intro A5 c5 w5 hown hfm hgr; have HP5 := Lib.hid (HP3.out.more hgr HX3.out hown); clear hown hfm hgr)
            refine ⟨⟨ts.drop m, OUT ++ [⟨(cc.kind : Nat), cc.name, xA, cc.ns.length, xc, cc.ns, (cc.pos : Nat)⟩], dps, _, _, _, _, _, _, _, _, HP5, HTO'⟩, ?_⟩
            rw [HLN.out, lstN_of (HP5.out.rs.blk.cell 0)]
            have h1 := HP5.out.rs.len
            rw [List.length_drop] at h1
            have h2 := HM1.out
            have h3 := HN.out
            omega
          | none =>
            rw [hrd] at hm
            subst hm
            have hrde : rdB ts = (none, m) := by rw [← hrd, ← hm2]
            rw [hm2]
            obtain ⟨p, hp⟩ : ∃ p, posB (ts.drop m).head? s.size = p := ⟨_, rfl⟩
            have hbad := HQ.out.bad H0.out (by omega) hrde
            rw [hp] at hbad
            rw [hp]
            have hb3 : Below w2.heap.size w2 (w2.alloc (.cells #[.int .i64 7, .int .i64 (p : Nat)] 49)) := (Below.refl _ _).alloc (Nat.le_refl _) _
            have HP3 := Lib.hid (hP2.up hb3)
            have HRD := Lib.hid (rd_fresh w2 49 #[.int .i64 7, .int .i64 (p : Nat)] 2 1 (decD (7, p)) rfl rfl)
            have HON : Hid (∀ u ∈ decD (7, p), u.oneCell' = true) := Lib.hid (fun u hu => by
              unfold decD at hu
              simp only [List.mem_cons, List.not_mem_nil, or_false] at hu
              rcases hu with rfl | rfl <;> rfl)
            have HBAD := Lib.hid hbad
            have HN := Lib.hid hn
            have HWD : Hid (∀ t ∈ ts.drop m, WfP t) := Lib.hid (fun t ht => HQ.out.wf t (List.mem_of_mem_drop ht))
            have hd19 : dps.length ≤ 19 := by omega
            clear hr hg hnb hP2 hrd hrde hbad hb3 hm2 HC hn hp hle
            go_wp2_with (at_builtin; refine wpList_append_rd _ rfl (.tmp 54) (.tmp 57) _ rfl w1.heap.size 49 i1 _ 2 16 Tryd.underlying26 hi1 hy0 hy1 hy2 rfl (by decide) _ dps.length _ rfl HP3.out.dgs _ (some ⟨w2.heap.size, 0, none⟩) 1 1 _ rfl HRD.out HON.out (by simp only [maxLen]; omega) (by omega) HP3.out.rs.bel.size ?_; intro A5 c5 w5 hown hfm hgr; have HP5 := Lib.hid (HP3.out.diag hgr hown); have k0 : w5.cell? ⟨w1.heap.size, 0, none⟩ = some (.slice A' n' c') := HP5.out.rs.blk.cell 0; clear hown hfm hgr)
            refine (idx_val A' n' c' (ts.drop m) w5 (HP5.out.rs.toks.up HP5.out.rs.bel)).mono ?_
            rintro e6 w6 ⟨rfl, hb6⟩
            have HP6 := Lib.hid (HP5.out.up hb6)
            have k6 : w6.cell? ⟨w1.heap.size, 0, none⟩ = some (.slice A' n' c') := HP6.out.rs.blk.cell 0
            have z6 : w6.frozen? ⟨w1.heap.size, 0, none⟩ = false := HP6.out.rs.blk.frozen 0
            clear k0 hb6 HP5
            rcases skip_semi (ts.drop m) HWD.out with ⟨ha, hb⟩ | ⟨k, ha, hk, hb⟩
            · rw [ha]
              have hdn := HBAD.out
              rw [hb] at hdn
              have hdn2 := hdn.done (.inl rfl)
              have hres : finB fin = ([], fin.dgs.map fun p => (7, p)) := by unfold finB; rw [if_pos (by rw [← hdn2.2]; simp)]
              have hdg : w6.ownsRow w1.heap.size 49 2 (.slice A5 (dps.length + 1) c5) (dps.length + 1) (((dps ++ [p]).map fun p => (7, p)).flatMap decD) := by
                have := HP6.out.dgs
                rwa [List.length_append, List.length_singleton] at this
              have HPO : Hid (ParseOut s.data.toList w (.returned (.tuple #[.slice none 0 0, .slice A5 (dps.length + 1) c5])) w6) := Lib.hid ⟨_, _, _, [], _, _, _, (dps ++ [p]).map (fun p => (7, p)), rfl, cms_none _, dgs_own hdg (by simp), below_trans' HB1.out HP6.out.rs.bel, by rw [HF.out, hres]; rfl, by rw [HF.out, hres, hdn2.2]⟩
              have f6 : (0 : Int) < (dps.length : Int) + 1 := by omega
              clear hdn hdn2 hres hdg hb ha k6 z6
              go_wp2_with fail
              refine bodyPost_ret (v := .tuple #[.slice none 0 0, .slice A5 (dps.length + 1) c5]) ?_ rfl HPO.out
              simp [results, Tryd.f8]
            · rw [ha]
              have f5 : ¬ (k : Int) < 0 := by omega
              have hln := HP6.out.rs.len
              have hkn : k + 1 ≤ n' := by omega
              have hk9 : (k : Int) ≤ 2000 := by have := HQ.out.len; rw [List.length_drop] at hk; omega
              have hk8 : IntKind.i64.wrap ((k : Int) + 1) = (k : Int) + 1 := Go.IntWalk.i64_in _ (by omega)
              clear hk9
              have hsl9 : ∀ W : World, (Instr.slice 29 (.slice A' n' c') (some (.int .i64 ((k : Int) + 1))) none none).run Tryd.prog W = .ok (.slice (cutA A' c' (k + 1)) (n' - (k + 1)) (c' - (k + 1))) W := fun W => toks_from A' n' c' (k + 1) hkn W
              have HP7 := Lib.hid (HP6.out.cmd (HP6.out.rs.list (HP6.out.rs.toks.drop hkn)) ((Gr.refl w1.heap.size none w6).setCell (p := ⟨w1.heap.size, 0, none⟩) (.inl rfl) (.slice (cutA A' c' (k + 1)) (n' - (k + 1)) (c' - (k + 1)))))
              have HB7 := Lib.hid hb
              have HKN : Hid ((ts.drop m).length = n' ∧ k + 1 ≤ n') := Lib.hid ⟨hln, hkn⟩
              clear ha hb hk hln hkn
              go_wp2_with fail
              rw [← HB7.out] at HP7
              refine ⟨⟨skipB (ts.drop m), OUT, dps ++ [p], _, _, _, _, _, _, _, _, HP7, HBAD⟩, ?_⟩
              · rw [HLN.out, lstN_of (HP7.out.rs.blk.cell 0)]
                have h1 := HKN.out
                rw [List.length_drop] at h1
                have h3 := HN.out
                omega
  · have f1 : ((L.err : Int) != 0) = true := by rw [bne_iff_ne]; omega
    have BD := Lib.hid (Blk.new w1 49 #[.int .i64 (L.err : Nat), .int .i64 (L.pos : Nat)])
    have HB2 := Lib.hid (HB1.out.alloc HB1.out.size (.cells #[.int .i64 (L.err : Nat), .int .i64 (L.pos : Nat)] 49))
    have hpe := HER.out herr
    go_wp2_with fail
    refine bodyPost_ret (v := .tuple #[.slice none 0 0, .slice (some ⟨w1.heap.size, 0, none⟩) 1 1]) ?_ rfl ⟨_, _, _, [], _, _, _, [(L.err, L.pos)], rfl, cms_none _, dgs_one BD.out, HB2.out, by rw [hpe]; rfl, by rw [hpe]⟩
    simp [results, Tryd.f8]
end Go.Proofs.YtbgekgakamincaaDoor.Ps
