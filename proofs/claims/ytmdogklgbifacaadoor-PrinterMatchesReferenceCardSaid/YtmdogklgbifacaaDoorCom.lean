/- Words for memory: a slice value that reads as a list of cells (nil let in), kept by whatever leaves the blocks below a bound as they were. -/
import Derived.WalkKit
import Derived.Deep.Draws
import Derived.Deep.AppendLies
import Derived.Lib.Hide
import Derived.OpenShut
namespace Go.Proofs.YtmdogklgbifacaaDoor
open Go.RowKit

/-- The slice with address A and n elements of 'size' cells reads as the cells xs, which lie below block B. -/
def Rd (w : World) (B size : Nat) (A : Option Addr) (n : Nat) (xs : List Value) : Prop :=
  xs.length = n * size ∧ (0 < n → ∃ b off, A = some ⟨b, off, none⟩ ∧ b < B ∧ ∀ j u, xs[j]? = some u → w.cell? ⟨b, off + j, none⟩ = some u)

section
variable {w w' : World} {B B' size n : Nat} {A : Option Addr} {xs : List Value}
theorem Rd.nil_ : Rd w B size A 0 [] := ⟨by simp, fun h => absurd h (by omega)⟩
theorem Rd.len (h : Rd w B size A n xs) : xs.length = n * size := h.1
theorem Rd.atc {k : Nat} (h : Rd w B size A n xs) (hk : k < xs.length) : ∃ b off, A = some ⟨b, off, none⟩ ∧ b < B ∧ w.cell? ⟨b, off + k, none⟩ = some xs[k] := by
  have h0 : 0 < n := by
    rcases Nat.eq_zero_or_pos n with e | e
    · have := h.1; rw [e] at this; omega
    · exact e
  obtain ⟨b, off, e, hb, hc⟩ := h.2 h0
  exact ⟨b, off, e, hb, hc k _ (List.getElem?_eq_getElem hk)⟩
theorem Rd.at_ {k : Nat} (h : Rd w B 1 A n xs) (hk : k < n) : ∃ b off u, A = some ⟨b, off, none⟩ ∧ b < B ∧ xs[k]? = some u ∧ w.cell? ⟨b, off + k, none⟩ = some u := by
  have hl : k < xs.length := by have := h.1; omega
  obtain ⟨b, off, e, hb, hc⟩ := h.atc hl
  exact ⟨b, off, _, e, hb, List.getElem?_eq_getElem hl, hc⟩
theorem Rd.keep (h : Rd w B size A n xs) (hk : ∀ p : Addr, p.block < B → w'.cell? p = w.cell? p) : Rd w' B size A n xs :=
  ⟨h.1, fun hn => by
    obtain ⟨b, off, e, hb, hc⟩ := h.2 hn
    exact ⟨b, off, e, hb, fun j u hu => (hk ⟨b, off + j, none⟩ hb).trans (hc j u hu)⟩⟩
theorem Rd.more (h : Rd w B size A n xs) (hB : B ≤ B') : Rd w B' size A n xs :=
  ⟨h.1, fun hn => by
    obtain ⟨b, off, e, hb, hc⟩ := h.2 hn
    exact ⟨b, off, e, by omega, hc⟩⟩
theorem Rd.below (h : Rd w B size A n xs) (hb : Below B w w') : Rd w' B size A n xs := h.keep fun _ hp => hb.cell hp
theorem Rd.below' (h : Rd w B size A n xs) (hb : Below B' w w') (hB : B ≤ B') : Rd w' B size A n xs := h.below (hb.mono hB)
theorem Rd.up (h : Rd w w.heap.size size A n xs) (hb : Below w.heap.size w w') : Rd w' w'.heap.size size A n xs := (h.below hb).more hb.size
theorem Rd.drew (h : Rd w B size A n xs) : Rd w.drew B size A n xs := h
theorem Rd.drewN (h : Rd w B size A n xs) (k : Nat) : Rd (w.drewN k) B size A n xs := h
theorem Rd.alloc (h : Rd w B size A n xs) (hB : B ≤ w.heap.size) (o : Obj) : Rd (w.alloc o) B size A n xs := h.keep fun p hp => World.cell?_alloc_lt w o p (by omega)
theorem Rd.setCell (h : Rd w B size A n xs) {p : Addr} (hB : B ≤ p.block) (u : Value) : Rd (w.setCell p u) B size A n xs :=
  h.keep fun q hq => World.cell?_setCell_other w p q u (fun e => by subst e; omega)
theorem Rd.grown (h : Rd w B size A n xs) {row : Option Nat} (hg : w.grownBy w' row) (hB : B ≤ w.heap.size) (hr : ∀ g, row = some g → B ≤ g) : Rd w' B size A n xs :=
  h.keep fun p hp => World.cell?_of_block (hg.block p.block (by omega) (fun e => by have := hr _ e.symm; omega))
theorem Rd.cut (h : Rd w B size A n xs) {k cap : Nat} (hk : k ≤ n) (hc : n ≤ cap) :
    Rd w B size (if cap = k then A else A.map (·.add (k * size))) (n - k) (xs.drop (k * size)) := by
  refine ⟨by rw [List.length_drop, h.1, Nat.sub_mul], fun hn => ?_⟩
  obtain ⟨b, off, rfl, hb, hcell⟩ := h.2 (by omega)
  rw [if_neg (by omega)]
  refine ⟨b, off + k * size, ?_, hb, fun j u hu => ?_⟩
  · simp only [Option.map_some, Addr.add]
    split
    · rename_i h0; simp [h0]
    · rfl
  · rw [Nat.add_assoc]
    exact hcell _ u (by rw [← hu, List.getElem?_drop])
theorem Rd.take (h : Rd w B size A n xs) {k : Nat} (hk : k ≤ n) : Rd w B size A k (xs.take (k * size)) := by
  refine ⟨by rw [List.length_take, h.1]; exact Nat.min_eq_left (Nat.mul_le_mul_right _ hk), fun hn => ?_⟩
  obtain ⟨b, off, e, hb, hcell⟩ := h.2 (by omega)
  refine ⟨b, off, e, hb, fun j u hu => hcell j u ?_⟩
  rw [List.getElem?_take] at hu
  split at hu
  · exact hu
  · cases hu
theorem Rd.of_own {base : Nat} {e : TypeId} {c : Nat} (h : w.ownsRow base e size (.slice A n c) n xs) : Rd w w.heap.size size A n xs := by
  refine ⟨h.1, fun hn => ?_⟩
  obtain ⟨g, cap, hv, _, hlt⟩ := h.form hn
  have hA : A = some ⟨g, 0, none⟩ := by injection hv
  subst hA
  exact ⟨g, 0, rfl, hlt, fun j u hu => by
    have := h.cells (g := g) rfl j u hu
    by_cases hj : j = 0
    · subst hj; simpa [Addr.add] using this
    · simpa [Addr.add, hj] using this⟩
theorem Rd.new (w : World) (t : TypeId) (cs : Array Value) (fz : Nat × Nat) (size n : Nat) (h : cs.size = n * size) : Rd (w.alloc (.cells cs t fz)) (w.alloc (.cells cs t fz)).heap.size size (some ⟨w.heap.size, 0, none⟩) n cs.toList :=
  ⟨by simpa using h, fun _ => ⟨w.heap.size, 0, rfl, by simp, fun j u hu => by
    rw [Nat.zero_add, cell_of_row (w.alloc (.cells cs t fz)) w.heap.size j cs t fz (heap_alloc_new w _)]
    simpa using hu⟩⟩
end

/-- Below over later worlds: what lay when the call began lies as it lay. -/
theorem below_trans' {w a b : World} (h : Below w.heap.size w a) (k : Below a.heap.size a b) : Below w.heap.size w b := h.trans (k.mono h.size)
theorem ext1 {w a b : World} (h : Below w.heap.size w a) (o : Obj) (k : Below (a.alloc o).heap.size (a.alloc o) b) : Below w.heap.size w b :=
  h.trans ((((Below.refl _ a).alloc (Nat.le_refl _) o).trans (k.mono (by simp))).mono h.size)
theorem below_drewN' {B : Nat} {a w : World} (h : Below B a w) (n : Nat) : Below B a (w.drewN n) := ⟨h.os, h.tape, h.output, h.size, h.block⟩

/-- Block g is just the cells cs, none frozen. -/
def Blk (w : World) (g : Nat) (t : TypeId) (cs : Array Value) : Prop := w.heap[g]? = some (.cells cs t (0, 0))
section
variable {w w' : World} {g : Nat} {t : TypeId} {cs : Array Value}
theorem Blk.lt (h : Blk w g t cs) : g < w.heap.size := (Array.getElem?_eq_some_iff.1 h).1
theorem Blk.cell (h : Blk w g t cs) (i : Nat) : w.cell? ⟨g, i, none⟩ = cs[i]? := cell_of_row w g i cs t (0, 0) h
theorem Blk.frozen (h : Blk w g t cs) (i : Nat) : w.frozen? ⟨g, i, none⟩ = false := by
  unfold Blk at h
  simp [World.frozen?, h]
theorem Blk.new (w : World) (t : TypeId) (cs : Array Value) : Blk (w.alloc (.cells cs t)) w.heap.size t cs := heap_alloc_new w _
theorem Blk.alloc (h : Blk w g t cs) (o : Obj) : Blk (w.alloc o) g t cs := (Below.heap_alloc w o g h.lt).trans h
theorem Blk.up {B : Nat} (h : Blk w g t cs) (hb : Below B w w') (hg : g < B) : Blk w' g t cs := (hb.block g hg).trans h
theorem Blk.up' (h : Blk w g t cs) (hb : Below w.heap.size w w') : Blk w' g t cs := h.up hb h.lt
theorem Blk.far (h : Blk w g t cs) {p : Addr} (hp : g ≠ p.block) (u : Value) : Blk (w.setCell p u) g t cs := (Below.heap_setCell w p u g hp).trans h
theorem Blk.set_ (h : Blk w g t cs) (i : Nat) (u : Value) : Blk (w.setCell ⟨g, i, none⟩ u) g t (cs.setIfInBounds i u) := by
  unfold Blk at h ⊢
  simp [World.setCell, Array.getElem?_modify, h]
theorem Blk.grown {row : Option Nat} (h : Blk w g t cs) (hb : w.grownBy w' row) (hg : some g ≠ row) : Blk w' g t cs := (hb.block g h.lt hg).trans h
theorem Blk.drew (h : Blk w g t cs) : Blk w.drew g t cs := h
theorem Blk.drewN (h : Blk w g t cs) (n : Nat) : Blk (w.drewN n) g t cs := h
end

theorem rb {a b : Bool} (h : a = b) : Ending.returned (.bool a) = .returned (.bool b) := by rw [h]
/-- A value of type uint64, uint8. -/
abbrev u64 (x : UInt64) : Value := .int .u64 (x.toNat : Int)
abbrev ub (c : UInt8) : Value := .int .u8 (c.toNat : Int)

theorem u64_xor (x y : UInt64) : bits .xor .u64 (x.toNat : Int) (y.toNat : Int) = ((x ^^^ y).toNat : Int) := by
  rw [u64_xor_nat _ _ (UInt64.toNat_lt x) (UInt64.toNat_lt y), UInt64.toNat_xor]
theorem u64_mul (x y : UInt64) : IntKind.u64.wrap ((x.toNat : Int) * (y.toNat : Int)) = ((x * y).toNat : Int) := by
  rw [IntKind.wrap_u64, UInt64.toNat_mul, ← Int.natCast_mul]
  exact (Int.natCast_emod _ _).symm
theorem u64_sub (x y : UInt64) : IntKind.u64.wrap ((x.toNat : Int) - (y.toNat : Int)) = ((x - y).toNat : Int) := by
  have hx := UInt64.toNat_lt x
  have hy := UInt64.toNat_lt y
  rw [IntKind.wrap_u64, UInt64.toNat_sub]
  omega
theorem u64_of_byte (c : UInt8) : (c.toNat : Int) = (c.toUInt64.toNat : Int) := by simp
theorem u64_wrap (x : UInt64) : IntKind.u64.wrap (x.toNat : Int) = (x.toNat : Int) := by
  have := UInt64.toNat_lt x
  rw [IntKind.wrap_u64]; omega
theorem u64_byte (c : UInt8) : u64 c.toUInt64 = .int .u64 (IntKind.u64.wrap (c.toNat : Int)) := by
  rw [u64_of_byte c, u64_wrap]
theorem u64_wf (x : UInt64) : (Lit.int .u64 (x.toNat : Int)).wf = true := by
  have := UInt64.toNat_lt x
  exact WalkArith.wf_u64 (by omega)
theorem u64_of_wf {z : Int} (h : (Lit.int .u64 z).wf = true) : ∃ x : UInt64, z = (x.toNat : Int) := by
  have hb := bounds_u64 h
  refine ⟨UInt64.ofNat z.toNat, ?_⟩
  rw [UInt64.toNat_ofNat_of_lt' (by simp [UInt64.size]; omega)]
  omega
theorem u8_of_wf {z : Int} (h : (Lit.int .u8 z).wf = true) : ∃ x : UInt8, z = (x.toNat : Int) := by
  have hb := bounds_u8 h
  refine ⟨UInt8.ofNat z.toNat, ?_⟩
  rw [UInt8.toNat_ofNat_of_lt' (by simp [UInt8.size]; omega)]
  omega
end Go.Proofs.YtmdogklgbifacaaDoor
