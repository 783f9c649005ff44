/- What the parser's loop keeps. -/
import Derived.Test.YtmdogklgbifacaaDoorPsIdx
import Derived.Test.YtmdogklgbifacaaDoorPsWf
import Derived.Test.YtmdogklgbifacaaDoorPrJoin
namespace Go.Proofs.YtmdogklgbifacaaDoor.Ps
open Go.RowKit Go.Proofs.YtmdogklgbifacaaDoor.Lx Go.Proofs.YtmdogklgbifacaaDoor.Pr
set_option linter.unusedVariables false

theorem w64_in {x : Int} (h1 : -9000000000 ≤ x) (h2 : x ≤ 9000000000) : w64 x := by unfold w64; simp [Lit.wf, IntKind.min, IntKind.max, IntKind.bits, IntKind.signed]; omega
theorem info_diag : (Tryd.prog.info? 62).map (fun i => (i.zero, i.size, i.bytes)) = some (some (.agg #[.int .i64 0, .int .i64 0]), 2, 16) := by kernel_rfl
def decD (x : Nat × Nat) : List Value := [.int .i64 (x.1 : Nat), .int .i64 (x.2 : Nat)]
/-- Diagnostics in memory. -/
def IsDgs (w : World) (A : Option Addr) (n c : Nat) (l : List (Nat × Nat)) : Prop := IsList decD 2 (fun _ => True) w A n c l
theorem dgs_own {w : World} {base n c : Nat} {A : Option Addr} {l : List (Nat × Nat)} (h : w.ownsRow base 62 2 (.slice A n c) n (l.flatMap decD)) (hl : l.length = n) : IsDgs w A n c l := by
  refine ⟨hl, Rd.of_own h, ?_, ?_, fun _ _ => trivial⟩
  · rcases h.2 with ⟨h1, rfl⟩ | ⟨g, cap, cur, h1, _, _, h2, _⟩
    · omega
    · injection h1 with _ _ h1; omega
  · rcases h.2 with ⟨h1, rfl⟩ | ⟨g, cap, cur, h1, _, _, _, h2, _⟩
    · injection h1 with _ _ h1; unfold maxLen; omega
    · injection h1 with _ _ h1; omega
theorem own_apart' {w w' : World} {base base' size size' n n' : Nat} {e e' : TypeId} {v v' : Value} {xs xs' : List Value} (h : w.ownsRow base e size v n xs) (k : w.ownsRow base' e' size' v' n' xs') (hne : e ≠ e') (hg : w.grownBy w' v'.ownBlock) : w'.ownsRow base e size v n xs := by
  refine h.kept hg ?_
  rcases h.2 with ⟨rfl, _⟩ | ⟨g, cap, cur, rfl, _, hgg, _⟩
  · exact .inl rfl
  · refine .inr (fun q => ?_)
    rcases k.2 with ⟨rfl, _⟩ | ⟨g', cap', cur', rfl, _, hgg', _⟩
    · cases q
    · have : g = g' := by simpa [Value.ownBlock] using q
      subst this
      rw [hgg] at hgg'
      injection hgg' with hgg'
      injection hgg' with _ hgg'
      exact hne hgg'
/-- A command whose numbers lie in a row of their own. -/
structure CmOwn (B : Nat) (w : World) (x : Cm) : Prop where
  own : w.ownsRow B 3 1 (.slice x.A x.n x.c) x.n (x.ns.map iv)
  len : x.ns.length = x.n
  kind : 0 ≤ x.kind ∧ x.kind ≤ 11
  name : x.name.size ≤ 8000
  ns : ∀ v ∈ x.ns, -1000000000 ≤ v ∧ v ≤ 1000000000
  pos : 0 ≤ x.pos ∧ x.pos ≤ 8000
theorem CmOwn.up {B : Nat} {w w' : World} {x : Cm} (h : CmOwn B w x) (hb : Below w.heap.size w w') : CmOwn B w' x := ⟨own_keep h.own hb, h.len, h.kind, h.name, h.ns, h.pos⟩
theorem CmOwn.gr {B rb : Nat} {w w' : World} {x : Cm} {cs : Array Value} (h : CmOwn B w x) (hg : Gr rb none w w') (hb : Blk w rb 65 cs) : CmOwn B w' x :=
  ⟨h.own.kept (row := some rb) ⟨hg.os, hg.tape, hg.output, hg.size, fun k hk hr => hg.block k hk (fun q => hr (by rw [q])) (by simp)⟩ (.inr (own_ne_t h.own hb (by decide))), h.len, h.kind, h.name, h.ns, h.pos⟩
theorem CmOwn.grown {B base size n : Nat} {w w' : World} {x : Cm} {t : TypeId} {v : Value} {xs : List Value} (h : CmOwn B w x) (ho : w.ownsRow base t size v n xs) (ht : 3 ≠ t) (hg : w.grownBy w' v.ownBlock) : CmOwn B w' x :=
  ⟨own_apart' h.own ho ht hg, h.len, h.kind, h.name, h.ns, h.pos⟩
theorem CmOwn.in_ {B : Nat} {w : World} {x : Cm} (h : CmOwn B w x) : Cm.In w x := by
  refine ⟨w64_in (by have := h.kind; omega) (by have := h.kind; omega), Nat.le_trans h.name (by decide), Rd.of_own h.own, h.len, ?_, ?_, fun v hv => w64_in (by have := h.ns v hv; omega) (by have := h.ns v hv; omega), w64_in (by have := h.pos; omega) (by have := h.pos; omega)⟩
  · rcases h.own.2 with ⟨h1, h2⟩ | ⟨g, cap, cur, h1, _, _, h2, _⟩
    · omega
    · injection h1 with _ _ h1; omega
  · rcases h.own.2 with ⟨h1, h2⟩ | ⟨g, cap, cur, h1, _, _, _, h2, _⟩
    · injection h1 with _ _ h1; unfold maxLen; omega
    · injection h1 with _ _ h1; omega
def keyQ (x : Cm) : Int × ByteArray × List Int × Int := (x.kind, x.name, x.ns, x.pos)
def keyR (c : PC) : Int × ByteArray × List Int × Int := ((c.kind : Nat), c.name, c.ns, (c.pos : Nat))
theorem expL_len {k : Nat} (h : 1 ≤ k ∧ k ≤ 11) : (expL k).length ≤ 12 ∧ 3 ≤ (expL k).length := by
  obtain ⟨h1, h2⟩ := h
  match k, h1, h2 with
  | 1, _, _ => exact ⟨by rw [show ((1 : Nat) : Int) = 1 from rfl, expL_1]; decide, by rw [show ((1 : Nat) : Int) = 1 from rfl, expL_1]; decide⟩
  | 2, _, _ => exact ⟨by rw [show ((2 : Nat) : Int) = 2 from rfl, expL_2]; decide, by rw [show ((2 : Nat) : Int) = 2 from rfl, expL_2]; decide⟩
  | 3, _, _ => exact ⟨by rw [show ((3 : Nat) : Int) = 3 from rfl, expL_3]; decide, by rw [show ((3 : Nat) : Int) = 3 from rfl, expL_3]; decide⟩
  | 4, _, _ => exact ⟨by rw [show ((4 : Nat) : Int) = 4 from rfl, expL_4]; decide, by rw [show ((4 : Nat) : Int) = 4 from rfl, expL_4]; decide⟩
  | 5, _, _ => exact ⟨by rw [show ((5 : Nat) : Int) = 5 from rfl, expL_5]; decide, by rw [show ((5 : Nat) : Int) = 5 from rfl, expL_5]; decide⟩
  | 6, _, _ => exact ⟨by rw [show ((6 : Nat) : Int) = 6 from rfl, expL_6]; decide, by rw [show ((6 : Nat) : Int) = 6 from rfl, expL_6]; decide⟩
  | 7, _, _ => exact ⟨by rw [show ((7 : Nat) : Int) = 7 from rfl, expL_7]; decide, by rw [show ((7 : Nat) : Int) = 7 from rfl, expL_7]; decide⟩
  | 8, _, _ => exact ⟨by rw [show ((8 : Nat) : Int) = 8 from rfl, expL_8]; decide, by rw [show ((8 : Nat) : Int) = 8 from rfl, expL_8]; decide⟩
  | 9, _, _ => exact ⟨by rw [show ((9 : Nat) : Int) = 9 from rfl, expL_9]; decide, by rw [show ((9 : Nat) : Int) = 9 from rfl, expL_9]; decide⟩
  | 10, _, _ => exact ⟨by rw [show ((10 : Nat) : Int) = 10 from rfl, expL_10]; decide, by rw [show ((10 : Nat) : Int) = 10 from rfl, expL_10]; decide⟩
  | 11, _, _ => exact ⟨by rw [show ((11 : Nat) : Int) = 11 from rfl, expL_11]; decide, by rw [show ((11 : Nat) : Int) = 11 from rfl, expL_11]; decide⟩
  | k + 12, _, h => omega
theorem rd_some {ts : List Tok} {c : PC} {m : Nat} (hw : ∀ t ∈ ts, WfP t) (h : rdB ts = (some c, m)) : PcOk c ∧ 1 ≤ m ∧ m ≤ ts.length := by
  unfold rdB at h
  split at h
  · cases h
  · rename_i k hs
    split at h
    · rename_i hm
      injection h with h1 h2
      injection h1 with h1
      subst h1 h2
      have hk := sel_kind hs
      have hl := expL_len hk
      have hle := (matchB_le ts (expL k)).2
      refine ⟨⟨hk.2, nm_ok ts _ _ hw (by decide), ns_ok ts _ _ hw, Nat.le_trans (ns_len ts _ _) hl.1, ?_⟩, by omega, by omega⟩
      show posB ts.head? 0 ≤ 8000
      cases ts with
      | nil => exact Nat.zero_le _
      | cons t r => exact (hw t (List.mem_cons_self ..)).2
    · cases h
end Go.Proofs.YtmdogklgbifacaaDoor.Ps
