/- Words for memory: a slice value that reads as a list of cells (nil let in), kept by whatever leaves the blocks below a bound as they were. Arguments opened: a slice that came in, as a list of decoded elements. append onto a slice of the call's own, from a source that reads as a list of cells (nil, empty or not): in a plain walk and in a round. append onto a row of the call's own, saying where the new row lies. Slices of structs: a list of decoded elements, one cell of it stored. A region that draws its order in the round of a loop over a function: what is shown of it in the plain calculus holds in the round. A region that draws its order, whose operations read and whose callees read or make memory: one walk, in a class of worlds that calls may extend. A region that draws its order: reads, and calls that may make memory, in whatever order; behind them a tail in one forced order. In the plain calculus, in the wide fence, in a round. -/
import Derived.WalkKit
import Derived.Deep.Draws
import Derived.Deep.AppendLies
import Derived.Lib.Hide
import Derived.OpenShut
import Derived.ProofKit
import Derived.ShutString
import Derived.ChangeOld
import Derived.Deep.Slices
import Derived.Maps.AppendAt
import Derived.OwnWalkIn
import Derived.RegionTactic
import Derived.StillTailTactics
import Derived.OrdersIn
import Derived.RangeFuncCalls
import Derived.RangeFuncNested
import Derived.RangeFuncWrites
import Derived.Deep.QuietTactic
import Derived.BigQuiet
import Derived.StillTail

/- Words for memory: a slice value that reads as a list of cells (nil let in), kept by whatever leaves the blocks below a bound as they were. -/
namespace Go.Proofs.YtbgekgakamincaaDoor
open Go.RowKit

/-- The slice with address A and n elements of 'size' cells reads as the cells xs, which lie below block B. -/
def Rd (w : World) (B size : Nat) (A : Option Addr) (n : Nat) (xs : List Value) : Prop :=
  xs.length = n * size ∧ (0 < n → ∃ b off, A = some ⟨b, off, none⟩ ∧ b < B ∧ ∀ j u, xs[j]? = some u → w.cell? ⟨b, off + j, none⟩ = some u)

section
variable {w w' : World} {B B' size n : Nat} {A : Option Addr} {xs : List Value}
theorem Rd.nil_ : Rd w B size A 0 [] := ⟨by simp, fun h => absurd h (by omega)⟩
theorem Rd.len (h : Rd w B size A n xs) : xs.length = n * size := h.1
theorem Rd.atc {k : Nat} (h : Rd w B size A n xs) (hk : k < xs.length) : ∃ b off, A = some ⟨b, off, none⟩ ∧ b < B ∧ w.cell? ⟨b, off + k, none⟩ = some xs[k] := by
  have h0 : 0 < n := by
    rcases Nat.eq_zero_or_pos n with e | e
    · have := h.1; rw [e] at this; omega
    · exact e
  obtain ⟨b, off, e, hb, hc⟩ := h.2 h0
  exact ⟨b, off, e, hb, hc k _ (List.getElem?_eq_getElem hk)⟩
theorem Rd.at_ {k : Nat} (h : Rd w B 1 A n xs) (hk : k < n) : ∃ b off u, A = some ⟨b, off, none⟩ ∧ b < B ∧ xs[k]? = some u ∧ w.cell? ⟨b, off + k, none⟩ = some u := by
  have hl : k < xs.length := by have := h.1; omega
  obtain ⟨b, off, e, hb, hc⟩ := h.atc hl
  exact ⟨b, off, _, e, hb, List.getElem?_eq_getElem hl, hc⟩
theorem Rd.keep (h : Rd w B size A n xs) (hk : ∀ p : Addr, p.block < B → w'.cell? p = w.cell? p) : Rd w' B size A n xs :=
  ⟨h.1, fun hn => by
    obtain ⟨b, off, e, hb, hc⟩ := h.2 hn
    exact ⟨b, off, e, hb, fun j u hu => (hk ⟨b, off + j, none⟩ hb).trans (hc j u hu)⟩⟩
theorem Rd.more (h : Rd w B size A n xs) (hB : B ≤ B') : Rd w B' size A n xs :=
  ⟨h.1, fun hn => by
    obtain ⟨b, off, e, hb, hc⟩ := h.2 hn
    exact ⟨b, off, e, by omega, hc⟩⟩
theorem Rd.below (h : Rd w B size A n xs) (hb : Below B w w') : Rd w' B size A n xs := h.keep fun _ hp => hb.cell hp
theorem Rd.below' (h : Rd w B size A n xs) (hb : Below B' w w') (hB : B ≤ B') : Rd w' B size A n xs := h.below (hb.mono hB)
theorem Rd.up (h : Rd w w.heap.size size A n xs) (hb : Below w.heap.size w w') : Rd w' w'.heap.size size A n xs := (h.below hb).more hb.size
theorem Rd.drew (h : Rd w B size A n xs) : Rd w.drew B size A n xs := h
theorem Rd.drewN (h : Rd w B size A n xs) (k : Nat) : Rd (w.drewN k) B size A n xs := h
theorem Rd.alloc (h : Rd w B size A n xs) (hB : B ≤ w.heap.size) (o : Obj) : Rd (w.alloc o) B size A n xs := h.keep fun p hp => World.cell?_alloc_lt w o p (by omega)
theorem Rd.setCell (h : Rd w B size A n xs) {p : Addr} (hB : B ≤ p.block) (u : Value) : Rd (w.setCell p u) B size A n xs :=
  h.keep fun q hq => World.cell?_setCell_other w p q u (fun e => by subst e; omega)
theorem Rd.grown (h : Rd w B size A n xs) {row : Option Nat} (hg : w.grownBy w' row) (hB : B ≤ w.heap.size) (hr : ∀ g, row = some g → B ≤ g) : Rd w' B size A n xs :=
  h.keep fun p hp => World.cell?_of_block (hg.block p.block (by omega) (fun e => by have := hr _ e.symm; omega))
theorem Rd.cut (h : Rd w B size A n xs) {k cap : Nat} (hk : k ≤ n) (hc : n ≤ cap) :
    Rd w B size (if cap = k then A else A.map (·.add (k * size))) (n - k) (xs.drop (k * size)) := by
  refine ⟨by rw [List.length_drop, h.1, Nat.sub_mul], fun hn => ?_⟩
  obtain ⟨b, off, rfl, hb, hcell⟩ := h.2 (by omega)
  rw [if_neg (by omega)]
  refine ⟨b, off + k * size, ?_, hb, fun j u hu => ?_⟩
  · simp only [Option.map_some, Addr.add]
    split
    · rename_i h0; simp [h0]
    · rfl
  · rw [Nat.add_assoc]
    exact hcell _ u (by rw [← hu, List.getElem?_drop])
theorem Rd.take (h : Rd w B size A n xs) {k : Nat} (hk : k ≤ n) : Rd w B size A k (xs.take (k * size)) := by
  refine ⟨by rw [List.length_take, h.1]; exact Nat.min_eq_left (Nat.mul_le_mul_right _ hk), fun hn => ?_⟩
  obtain ⟨b, off, e, hb, hcell⟩ := h.2 (by omega)
  refine ⟨b, off, e, hb, fun j u hu => hcell j u ?_⟩
  rw [List.getElem?_take] at hu
  split at hu
  · exact hu
  · cases hu
theorem Rd.of_own {base : Nat} {e : TypeId} {c : Nat} (h : w.ownsRow base e size (.slice A n c) n xs) : Rd w w.heap.size size A n xs := by
  refine ⟨h.1, fun hn => ?_⟩
  obtain ⟨g, cap, hv, _, hlt⟩ := h.form hn
  have hA : A = some ⟨g, 0, none⟩ := by injection hv
  subst hA
  exact ⟨g, 0, rfl, hlt, fun j u hu => by
    have := h.cells (g := g) rfl j u hu
    by_cases hj : j = 0
    · subst hj; simpa [Addr.add] using this
    · simpa [Addr.add, hj] using this⟩
theorem Rd.new (w : World) (t : TypeId) (cs : Array Value) (fz : Nat × Nat) (size n : Nat) (h : cs.size = n * size) : Rd (w.alloc (.cells cs t fz)) (w.alloc (.cells cs t fz)).heap.size size (some ⟨w.heap.size, 0, none⟩) n cs.toList :=
  ⟨by simpa using h, fun _ => ⟨w.heap.size, 0, rfl, by simp, fun j u hu => by
    rw [Nat.zero_add, cell_of_row (w.alloc (.cells cs t fz)) w.heap.size j cs t fz (heap_alloc_new w _)]
    simpa using hu⟩⟩
end

/-- Below over later worlds: what lay when the call began lies as it lay. -/
theorem below_trans' {w a b : World} (h : Below w.heap.size w a) (k : Below a.heap.size a b) : Below w.heap.size w b := h.trans (k.mono h.size)
theorem ext1 {w a b : World} (h : Below w.heap.size w a) (o : Obj) (k : Below (a.alloc o).heap.size (a.alloc o) b) : Below w.heap.size w b :=
  h.trans ((((Below.refl _ a).alloc (Nat.le_refl _) o).trans (k.mono (by simp))).mono h.size)
theorem below_drewN' {B : Nat} {a w : World} (h : Below B a w) (n : Nat) : Below B a (w.drewN n) := ⟨h.os, h.tape, h.output, h.size, h.block⟩

/-- Block g is just the cells cs, none frozen. -/
def Blk (w : World) (g : Nat) (t : TypeId) (cs : Array Value) : Prop := w.heap[g]? = some (.cells cs t (0, 0))
section
variable {w w' : World} {g : Nat} {t : TypeId} {cs : Array Value}
theorem Blk.lt (h : Blk w g t cs) : g < w.heap.size := (Array.getElem?_eq_some_iff.1 h).1
theorem Blk.cell (h : Blk w g t cs) (i : Nat) : w.cell? ⟨g, i, none⟩ = cs[i]? := cell_of_row w g i cs t (0, 0) h
theorem Blk.frozen (h : Blk w g t cs) (i : Nat) : w.frozen? ⟨g, i, none⟩ = false := by
  unfold Blk at h
  simp [World.frozen?, h]
theorem Blk.new (w : World) (t : TypeId) (cs : Array Value) : Blk (w.alloc (.cells cs t)) w.heap.size t cs := heap_alloc_new w _
theorem Blk.alloc (h : Blk w g t cs) (o : Obj) : Blk (w.alloc o) g t cs := (Below.heap_alloc w o g h.lt).trans h
theorem Blk.up {B : Nat} (h : Blk w g t cs) (hb : Below B w w') (hg : g < B) : Blk w' g t cs := (hb.block g hg).trans h
theorem Blk.up' (h : Blk w g t cs) (hb : Below w.heap.size w w') : Blk w' g t cs := h.up hb h.lt
theorem Blk.far (h : Blk w g t cs) {p : Addr} (hp : g ≠ p.block) (u : Value) : Blk (w.setCell p u) g t cs := (Below.heap_setCell w p u g hp).trans h
theorem Blk.set_ (h : Blk w g t cs) (i : Nat) (u : Value) : Blk (w.setCell ⟨g, i, none⟩ u) g t (cs.setIfInBounds i u) := by
  unfold Blk at h ⊢
  simp [World.setCell, Array.getElem?_modify, h]
theorem Blk.grown {row : Option Nat} (h : Blk w g t cs) (hb : w.grownBy w' row) (hg : some g ≠ row) : Blk w' g t cs := (hb.block g h.lt hg).trans h
theorem Blk.drew (h : Blk w g t cs) : Blk w.drew g t cs := h
theorem Blk.drewN (h : Blk w g t cs) (n : Nat) : Blk (w.drewN n) g t cs := h
end

theorem rb {a b : Bool} (h : a = b) : Ending.returned (.bool a) = .returned (.bool b) := by rw [h]
/-- A value of type uint64, uint8. -/
abbrev u64 (x : UInt64) : Value := .int .u64 (x.toNat : Int)
abbrev ub (c : UInt8) : Value := .int .u8 (c.toNat : Int)

theorem u64_xor (x y : UInt64) : bits .xor .u64 (x.toNat : Int) (y.toNat : Int) = ((x ^^^ y).toNat : Int) := by
  rw [u64_xor_nat _ _ (UInt64.toNat_lt x) (UInt64.toNat_lt y), UInt64.toNat_xor]
theorem u64_mul (x y : UInt64) : IntKind.u64.wrap ((x.toNat : Int) * (y.toNat : Int)) = ((x * y).toNat : Int) := by
  rw [IntKind.wrap_u64, UInt64.toNat_mul, ← Int.natCast_mul]
  exact (Int.natCast_emod _ _).symm
theorem u64_sub (x y : UInt64) : IntKind.u64.wrap ((x.toNat : Int) - (y.toNat : Int)) = ((x - y).toNat : Int) := by
  have hx := UInt64.toNat_lt x
  have hy := UInt64.toNat_lt y
  rw [IntKind.wrap_u64, UInt64.toNat_sub]
  omega
theorem u64_of_byte (c : UInt8) : (c.toNat : Int) = (c.toUInt64.toNat : Int) := by simp
theorem u64_wrap (x : UInt64) : IntKind.u64.wrap (x.toNat : Int) = (x.toNat : Int) := by
  have := UInt64.toNat_lt x
  rw [IntKind.wrap_u64]; omega
theorem u64_byte (c : UInt8) : u64 c.toUInt64 = .int .u64 (IntKind.u64.wrap (c.toNat : Int)) := by
  rw [u64_of_byte c, u64_wrap]
theorem u64_wf (x : UInt64) : (Lit.int .u64 (x.toNat : Int)).wf = true := by
  have := UInt64.toNat_lt x
  exact WalkArith.wf_u64 (by omega)
theorem u64_of_wf {z : Int} (h : (Lit.int .u64 z).wf = true) : ∃ x : UInt64, z = (x.toNat : Int) := by
  have hb := bounds_u64 h
  refine ⟨UInt64.ofNat z.toNat, ?_⟩
  rw [UInt64.toNat_ofNat_of_lt' (by simp [UInt64.size]; omega)]
  omega
theorem u8_of_wf {z : Int} (h : (Lit.int .u8 z).wf = true) : ∃ x : UInt8, z = (x.toNat : Int) := by
  have hb := bounds_u8 h
  refine ⟨UInt8.ofNat z.toNat, ?_⟩
  rw [UInt8.toNat_ofNat_of_lt' (by simp [UInt8.size]; omega)]
  omega
end Go.Proofs.YtbgekgakamincaaDoor

/- Arguments opened: a slice that came in, as a list of decoded elements. -/
namespace Go.Proofs.YtbgekgakamincaaDoor
open Go.RowKit Go.ChangeShapes Go.WideShapes Go.Deep
open Go.ChangeMaps (open_string shut_string)

theorem choose_list {α : Type} (R : Nat → α → Prop) : ∀ n, (∀ i, i < n → ∃ a, R i a) → ∃ l : List α, l.length = n ∧ ∀ i a, l[i]? = some a → R i a
  | 0, _ => ⟨[], rfl, fun i a h => by simp at h⟩
  | n + 1, h => by
    obtain ⟨l, hl, hr⟩ := choose_list R n (fun i hi => h i (by omega))
    obtain ⟨a, ha⟩ := h n (by omega)
    refine ⟨l ++ [a], by simp [hl], fun i b hb => ?_⟩
    rcases Nat.lt_or_ge i n with hlt | hge
    · exact hr i b (by rwa [List.getElem?_append_left (by omega)] at hb)
    · rw [List.getElem?_append_right (by omega)] at hb
      have h0 : i = n := by
        have := (List.getElem?_eq_some_iff.1 hb).1
        simp at this; omega
      subst h0
      simp [hl] at hb
      exact hb ▸ ha

theorem flat_len {α β : Type} {dec : α → List β} {k : Nat} (hd : ∀ a, (dec a).length = k) (l : List α) : (l.flatMap dec).length = l.length * k := by
  induction l with
  | nil => simp
  | cons a l ih => simp [List.flatMap_cons, hd, ih, Nat.add_mul, Nat.add_comm]
theorem flat_get {α β : Type} {dec : α → List β} {k : Nat} (hd : ∀ a, (dec a).length = k) : ∀ (l : List α) (i j : Nat) (a : α), l[i]? = some a → j < k → (l.flatMap dec)[i * k + j]? = (dec a)[j]?
  | [], i, j, a, h, _ => by simp at h
  | b :: l, 0, j, a, h, hj => by
    simp at h; subst h
    rw [List.flatMap_cons, Nat.zero_mul, Nat.zero_add, List.getElem?_append_left (by rw [hd]; exact hj)]
  | b :: l, i + 1, j, a, h, hj => by
    rw [List.flatMap_cons, List.getElem?_append_right (by rw [hd, Nat.add_mul]; omega), hd, show (i + 1) * k + j - k = i * k + j by rw [Nat.add_mul]; omega]
    exact flat_get hd l i j a (by simpa using h) hj

/-- The cells of the element number i of a slice of structs. -/
theorem rd_el {α : Type} {dec : α → List Value} {s : Nat} (hd : ∀ a, (dec a).length = s) {w : World} {B : Nat} {A : Option Addr} {n : Nat} {l : List α} (h : Rd w B s A n (l.flatMap dec)) (hl : l.length = n) {i : Nat} (hi : i < l.length) :
    ∃ b off, A = some ⟨b, off, none⟩ ∧ b < B ∧ ∀ j u, (dec l[i])[j]? = some u → w.cell? ⟨b, off + i * s + j, none⟩ = some u := by
  obtain ⟨b, off, e, hb, hc⟩ := h.2 (by omega)
  refine ⟨b, off, e, hb, fun j u hu => ?_⟩
  rw [Nat.add_assoc]
  refine hc _ u ?_
  have hj : j < s := by have := (List.getElem?_eq_some_iff.1 hu).1; rwa [hd] at this
  rw [flat_get hd l i j _ (List.getElem?_eq_getElem hi) hj]
  exact hu

/-- A slice of n elements, each of k cells: it reads as the decoded list l. -/
def IsList {α : Type} (dec : α → List Value) (k : Nat) (G : α → Prop) (w : World) (A : Option Addr) (n c : Nat) (l : List α) : Prop :=
  l.length = n ∧ Rd w w.heap.size k A n (l.flatMap dec) ∧ n ≤ c ∧ c ≤ maxLen ∧ (∀ a ∈ l, G a)

section
variable {H : Type} {enc : TypeId × Value → H} {P : Program} {w : World} {spare : Nat → Bool} {held : Bool}
theorem cell_lt {w : World} {a : Addr} {v : Value} (h : w.cell? a = some v) : a.block < w.heap.size := by
  rcases Nat.lt_or_ge a.block w.heap.size with hlt | hge
  · exact hlt
  · simp [World.cell?, Array.getElem?_eq_none hge] at h

theorem open_list {α : Type} (dec : α → List Value) (k : Nat) (G : α → Prop) {t e : TypeId} {r : Reach} {b0 : Nat} {v : Value} {d : DataW H} {p : List MemPlace}
    (ht : P.underlying t = some (.slice e)) (hk : P.cellsOf e = k) (hk0 : 0 < k) (hd : ∀ a, (dec a).length = k)
    (hel : ∀ (n : Nat) (cs : List Value) (y : DataW H × List MemPlace), DataW.trod enc P w 0 spare held n e cs = some y → ∃ a, cs = dec a ∧ G a)
    (hv : Value.okWide P w r b0 t v) (h : DataW.Trod enc P w 0 spare held t v d p) : ∃ A n c l, v = .slice A n c ∧ IsList dec k G w A n c l := by
  obtain ⟨A, n, c, rfl⟩ := okWide_slice ht hv
  refine ⟨A, n, c, ?_⟩
  obtain ⟨fuel, hf⟩ := h
  rcases open_slice ht hf with ⟨hcs, _⟩ | ⟨a, len, cap, m, n', D, Pl, hcs, _, hl, hm, hmm, hx, hi⟩
  · simp [Value.cells] at hcs
    obtain ⟨rfl, rfl, rfl⟩ := hcs
    exact ⟨[], rfl, rfl, Rd.nil_, Nat.le_refl _, by decide, fun a ha => by cases ha⟩
  · simp [Value.cells] at hcs
    obtain ⟨rfl, rfl, rfl⟩ := hcs
    have hlm : n ≤ m := by rw [hmm]; split <;> omega
    obtain ⟨l, hll, hr⟩ := choose_list (fun i x => G x ∧ ∀ j, j < k → w.cell? (a.add (i * k + j)) = (dec x)[j]?) n (fun i hin => by
      obtain ⟨cs', hc, htr⟩ := hi i (by omega)
      obtain ⟨x, rfl, hg⟩ := hel _ _ _ htr
      obtain ⟨_, hcl, hat⟩ := World.cells?_some hc
      rw [hk] at hat
      exact ⟨x, hg, fun j hj => by rw [← Go.Deep.add_add]; exact hat j hj⟩)
    refine ⟨l, rfl, hll, ⟨by rw [flat_len hd, hll], fun hn => ?_⟩, hl, hm, fun x hx => ?_⟩
    · obtain ⟨x0, hx0⟩ : ∃ x0, l[0]? = some x0 := ⟨_, List.getElem?_eq_getElem (by omega)⟩
      have h0 := (hr 0 x0 hx0).2 0 hk0
      have hd0 : ∃ u, (dec x0)[0]? = some u := ⟨_, List.getElem?_eq_getElem (by rw [hd]; exact hk0)⟩
      obtain ⟨u0, hu0⟩ := hd0
      rw [hu0] at h0
      have hs := World.cell?_spot h0
      obtain ⟨b, off, spot⟩ := a
      have hspot : spot = none := by simpa [Addr.add] using hs
      subst hspot
      refine ⟨b, off, rfl, by simpa [Addr.add] using cell_lt h0, fun j u hu => ?_⟩
      have hj : j < n * k := by
        have := (List.getElem?_eq_some_iff.1 hu).1
        rwa [flat_len hd, hll] at this
      have hq : j / k < l.length := by rw [hll]; exact (Nat.div_lt_iff_lt_mul hk0).2 hj
      have hdm : j / k * k + j % k = j := by rw [Nat.mul_comm]; exact Nat.div_add_mod j k
      have h1 := flat_get hd l (j / k) (j % k) _ (List.getElem?_eq_getElem hq) (Nat.mod_lt _ hk0)
      have h2 := (hr (j / k) _ (List.getElem?_eq_getElem hq)).2 (j % k) (Nat.mod_lt _ hk0)
      rw [hdm] at h1 h2
      rw [← h1, hu] at h2
      rw [← h2]
      by_cases hj0 : j = 0
      · subst hj0; simp [Addr.add]
      · simp [Addr.add, hj0]
    · obtain ⟨i, hix⟩ := List.getElem?_of_mem hx
      exact (hr i x hix).1

/-- One integer of kind k. -/
theorem open_el_int {e : TypeId} {k : IntKind} (he : P.underlying e = some (.int k)) (n : Nat) (cs : List Value) (y : DataW H × List MemPlace) (h : DataW.trod enc P w 0 spare held n e cs = some y) :
    ∃ z : Int, cs = [.int k z] ∧ (Lit.int k z).wf = true := by
  obtain ⟨z, h1, _, h2⟩ := DataW.trod_int he h
  exact ⟨z, h1, h2⟩
theorem open_el_byte {e : TypeId} (he : P.underlying e = some (.int .u8)) (n : Nat) (cs : List Value) (y : DataW H × List MemPlace) (h : DataW.trod enc P w 0 spare held n e cs = some y) :
    ∃ c : UInt8, cs = [ub c] ∧ True := by
  obtain ⟨z, rfl, hw⟩ := open_el_int he n cs y h
  obtain ⟨c, rfl⟩ := u8_of_wf hw
  exact ⟨c, rfl, trivial⟩
theorem open_el_u64 {e : TypeId} (he : P.underlying e = some (.int .u64)) (n : Nat) (cs : List Value) (y : DataW H × List MemPlace) (h : DataW.trod enc P w 0 spare held n e cs = some y) :
    ∃ c : UInt64, cs = [u64 c] ∧ True := by
  obtain ⟨z, rfl, hw⟩ := open_el_int he n cs y h
  obtain ⟨c, rfl⟩ := u64_of_wf hw
  exact ⟨c, rfl, trivial⟩
theorem flat_one {α β : Type} (f : α → β) (l : List α) : l.flatMap (fun a => [f a]) = l.map f := by induction l <;> simp_all

/-- A []byte that came in. -/
def IsBytes (w : World) (A : Option Addr) (n c : Nat) (l : List UInt8) : Prop := l.length = n ∧ Rd w w.heap.size 1 A n (l.map ub) ∧ n ≤ c ∧ c ≤ maxLen
theorem open_bytes {t e : TypeId} {r : Reach} {b0 : Nat} {v : Value} {d : DataW H} {p : List MemPlace} (ht : P.underlying t = some (.slice e)) (he : P.underlying e = some (.int .u8)) (hk : P.cellsOf e = 1)
    (hv : Value.okWide P w r b0 t v) (h : DataW.Trod enc P w 0 spare held t v d p) : ∃ A n c l, v = .slice A n c ∧ IsBytes w A n c l := by
  obtain ⟨A, n, c, l, rfl, h1, h2, h3, h4, _⟩ := open_list (fun c : UInt8 => [ub c]) 1 (fun _ => True) ht hk (by decide) (fun _ => rfl) (open_el_byte he) hv h
  rw [flat_one] at h2
  exact ⟨A, n, c, l, rfl, h1, h2, h3, h4⟩
/-- A []uint64 that came in. -/
def IsU64s (w : World) (A : Option Addr) (n c : Nat) (l : List UInt64) : Prop := l.length = n ∧ Rd w w.heap.size 1 A n (l.map u64) ∧ n ≤ c ∧ c ≤ maxLen
theorem open_u64s {t e : TypeId} {r : Reach} {b0 : Nat} {v : Value} {d : DataW H} {p : List MemPlace} (ht : P.underlying t = some (.slice e)) (he : P.underlying e = some (.int .u64)) (hk : P.cellsOf e = 1)
    (hv : Value.okWide P w r b0 t v) (h : DataW.Trod enc P w 0 spare held t v d p) : ∃ A n c l, v = .slice A n c ∧ IsU64s w A n c l := by
  obtain ⟨A, n, c, l, rfl, h1, h2, h3, h4, _⟩ := open_list (fun c : UInt64 => [u64 c]) 1 (fun _ => True) ht hk (by decide) (fun _ => rfl) (open_el_u64 he) hv h
  rw [flat_one] at h2
  exact ⟨A, n, c, l, rfl, h1, h2, h3, h4⟩
theorem open_u64 {t : TypeId} {r : Reach} {b0 : Nat} {v : Value} {d : DataW H} {p : List MemPlace} (ht : P.underlying t = some (.int .u64)) (hv : Value.okWide P w r b0 t v) (h : DataW.Trod enc P w 0 spare held t v d p) : ∃ x : UInt64, v = u64 x := by
  obtain ⟨z, rfl, rfl, rfl, hw⟩ := open_int ht hv h
  obtain ⟨x, rfl⟩ := u64_of_wf hw
  exact ⟨x, rfl⟩
theorem open_u8 {t : TypeId} {r : Reach} {b0 : Nat} {v : Value} {d : DataW H} {p : List MemPlace} (ht : P.underlying t = some (.int .u8)) (hv : Value.okWide P w r b0 t v) (h : DataW.Trod enc P w 0 spare held t v d p) : ∃ x : UInt8, v = ub x := by
  obtain ⟨z, rfl, rfl, rfl, hw⟩ := open_int ht hv h
  obtain ⟨x, rfl⟩ := u8_of_wf hw
  exact ⟨x, rfl⟩
theorem open_i {t : TypeId} {k : IntKind} {r : Reach} {b0 : Nat} {v : Value} {d : DataW H} {p : List MemPlace} (ht : P.underlying t = some (.int k)) (hv : Value.okWide P w r b0 t v) (h : DataW.Trod enc P w 0 spare held t v d p) : ∃ x : Int, v = .int k x ∧ (Lit.int k x).wf = true := by
  obtain ⟨z, rfl, rfl, rfl, hw⟩ := open_int ht hv h
  exact ⟨z, rfl, hw⟩
end
end Go.Proofs.YtbgekgakamincaaDoor

/- append onto a slice of the call's own, from a source that reads as a list of cells (nil, empty or not): in a plain walk and in a round. -/
namespace Go.Proofs.YtbgekgakamincaaDoor
open Go.RowKit

theorem own_form {w : World} {base size n : Nat} {e : TypeId} {v : Value} {xs : List Value} (h : w.ownsRow base e size v n xs) : ∃ A c, v = .slice A n c ∧ (0 < n → ∃ g, A = some ⟨g, 0, none⟩) := by
  rcases h.2 with ⟨rfl, rfl⟩ | ⟨g, cap, _, rfl, _⟩
  · exact ⟨none, 0, rfl, fun h => absurd h (by omega)⟩
  · exact ⟨_, cap, rfl, fun _ => ⟨g, rfl⟩⟩
theorem own_block {w : World} {base size n : Nat} {e : TypeId} {v : Value} {xs : List Value} (h : w.ownsRow base e size v n xs) : ∀ k, v.ownBlock = some k → base ≤ k ∧ k < w.heap.size := by
  rcases h.2 with ⟨rfl, rfl⟩ | ⟨g, cap, cur, rfl, hb, hh, _⟩
  · intro k hk; simp [Value.ownBlock] at hk
  · intro k hk
    obtain rfl : g = k := by simpa [Value.ownBlock] using hk
    exact ⟨hb, (Array.getElem?_eq_some_iff.1 hh).1⟩
theorem own_below {w w' : World} {base size n : Nat} {e : TypeId} {v : Value} {xs : List Value} {B : Nat} {w0 : World} (h : w.ownsRow base e size v n xs) (hg : w.grownBy w' v.ownBlock) (hb : Below B w0 w) (hB : B ≤ base) (hs : B ≤ w.heap.size) : Below B w0 w' :=
  hb.grown hg hs (fun k hk => Nat.le_trans hB (own_block h k hk).1)

section
variable {P : Program} (w : World)
theorem run_append_nil' (base : Nat) (t ty e : TypeId) (i : TypeInfo) (size : Nat) (ht : P.underlying t = some (.slice e)) (hi : P.info? e = some i)
    (v : Value) (n : Nat) (xs : List Value) (hown : w.ownsRow base e size v n xs) (c : Nat) : (Builtin.append_ #[t, t] ty #[v, .slice none 0 c]).run P w = .ok v w := by
  rcases hown.2 with ⟨rfl, rfl⟩ | ⟨g, cap, cur, rfl, _, _, hnc, _⟩
  · simp [Builtin.append_, run_underlying ht, sizeOf, typeInfo, hi, Builtin.lenOf, Builtin.firstCells]
  · simp [Builtin.append_, run_underlying ht, sizeOf, typeInfo, hi, Builtin.lenOf, Builtin.firstCells, hnc, storeCells]

theorem run_append_rd (base : Nat) (t ty e : TypeId) (i : TypeInfo) (z : Value) (size bytes : Nat) (ht : P.underlying t = some (.slice e)) (hi : P.info? e = some i) (hz : i.zero = some z)
    (hsize : i.size = size) (hby : i.bytes = bytes) (hzs : z.cells.size = size) (hsz : 0 < size)
    (v : Value) (n : Nat) (xs : List Value) (hown : w.ownsRow base e size v n xs)
    (B : Nat) (A : Option Addr) (m c : Nat) (news : List Value) (hr : Rd w B size A m news) (h1 : ∀ u ∈ news, u.oneCell' = true)
    (h63 : n + m ≤ maxLen) (hbytes : (n + m) * bytes ≤ 140737488355328) (hbase : base ≤ w.heap.size) :
    ∃ v' w', (Builtin.append_ #[t, t] ty #[v, .slice A m c]).run P w = .ok v' w' ∧ w'.ownsRow base e size v' (n + m) (xs ++ news) ∧ w.grownBy w' v.ownBlock := by
  rcases A with _ | ad
  · have hm : m = 0 := by
      rcases Nat.eq_zero_or_pos m with h0 | h0
      · exact h0
      · obtain ⟨b, off, h, _⟩ := hr.2 h0
        cases h
    subst hm
    have hn : news = [] := List.eq_nil_of_length_eq_zero (by simpa using hr.1)
    subst hn
    exact ⟨v, w, run_append_nil' w base t ty e i size ht hi v n xs hown c, by simpa using hown, World.grownBy.refl w _⟩
  · have hcells : ∀ j u, news[j]? = some u → w.cell? (ad.add j) = some u := by
      intro j u hu
      rcases Nat.eq_zero_or_pos m with h0 | h0
      · subst h0
        have hn : news = [] := List.eq_nil_of_length_eq_zero (by simpa using hr.1)
        subst hn
        simp at hu
      · obtain ⟨b, off, h, _, hc⟩ := hr.2 h0
        injection h with h
        subst h
        have := hc j u hu
        by_cases hj : j = 0
        · subst hj; simpa [Addr.add] using this
        · simpa [Addr.add, hj] using this
    obtain ⟨v', w', hrun, h2, h3, _, h5⟩ := run_append_own_at (P := P) w base t ty e i z size bytes ht hi hz hsize hby hzs hsz v n xs hown ad m c news hr.1 hcells h1 h63 hbytes hbase
    exact ⟨v', w', hrun, h2, h3⟩

theorem wpList_append_rd {ops : Array Oper} {rest : List Oper} {o : Oper} {a : Act} {Q : Exit → Act → World → Prop} (hgd : o.guard = none) (s x : Operand) (t : TypeId)
    (ho : o.op = .call { callee := .builtin .append, args := #[s, x], argTypes := #[t, t] })
    (base : Nat) (e : TypeId) (i : TypeInfo) (z : Value) (size bytes : Nat) (ht : P.underlying t = some (.slice e)) (hi : P.info? e = some i) (hz : i.zero = some z)
    (hsize : i.size = size) (hby : i.bytes = bytes) (hzs : z.cells.size = size) (hsz : 0 < size)
    (v : Value) (n : Nat) (xs : List Value) (hs : a.eval s = v) (hown : w.ownsRow base e size v n xs)
    (B : Nat) (A : Option Addr) (m c : Nat) (news : List Value) (hx : a.eval x = .slice A m c) (hr : Rd w B size A m news) (h1 : ∀ u ∈ news, u.oneCell' = true)
    (h63 : n + m ≤ maxLen) (hbytes : (n + m) * bytes ≤ 140737488355328) (hbase : base ≤ w.heap.size)
    (h : ∀ A' c' w', w'.ownsRow base e size (.slice A' (n + m) c') (n + m) (xs ++ news) → (0 < n + m → ∃ g, A' = some ⟨g, 0, none⟩) → w.grownBy w' v.ownBlock → wpList P ops Q rest (a.put o.dst (.slice A' (n + m) c')) w') : wpList P ops Q (o :: rest) a w :=
  wpList_plain hgd fun _ hK => by
    obtain ⟨v', w', hrun, h2, h3⟩ := run_append_rd (P := P) w base t o.type e i z size bytes ht hi hz hsize hby hzs hsz v n xs hown B A m c news hr h1 h63 hbytes hbase
    obtain ⟨A', c', rfl, hf⟩ := own_form h2
    unfold Oper.wp execOp
    simp only [ho, resolve, invoke, builtin, Sem.run_bind, Sem.run_pure, Result.andThen_ok, List.map_toArray, List.map_cons, List.map_nil, hs, hx, hrun]
    exact hK _ _ (h A' c' w' h2 hf h3)

theorem wpListIn_append_rd {F : Fence} {N : Nat} {ops : Array Oper} {rest : List Oper} {o : Oper} {a : Act} {Q : Exit → Act → World → Prop} (hgd : o.guard = none) (s x : Operand) (t : TypeId)
    (ho : o.op = .call { callee := .builtin .append, args := #[s, x], argTypes := #[t, t] })
    (base : Nat) (e : TypeId) (i : TypeInfo) (z : Value) (size bytes : Nat) (ht : P.underlying t = some (.slice e)) (hi : P.info? e = some i) (hz : i.zero = some z)
    (hsize : i.size = size) (hby : i.bytes = bytes) (hzs : z.cells.size = size) (hsz : 0 < size)
    (v : Value) (n : Nat) (xs : List Value) (hs : a.eval s = v) (hown : w.ownsRow base e size v n xs)
    (B : Nat) (A : Option Addr) (m c : Nat) (news : List Value) (hx : a.eval x = .slice A m c) (hr : Rd w B size A m news) (h1 : ∀ u ∈ news, u.oneCell' = true)
    (h63 : n + m ≤ maxLen) (hbytes : (n + m) * bytes ≤ 140737488355328) (hbase : base ≤ w.heap.size)
    (h : ∀ A' c' w', w'.ownsRow base e size (.slice A' (n + m) c') (n + m) (xs ++ news) → (0 < n + m → ∃ g, A' = some ⟨g, 0, none⟩) → w.grownBy w' v.ownBlock → wpListIn F N P ops Q rest (a.put o.dst (.slice A' (n + m) c')) w') : wpListIn F N P ops Q (o :: rest) a w := by
  refine wpListIn_plain hgd fun K hK' => ?_
  obtain ⟨v', w', hrun, h2, h3⟩ := run_append_rd (P := P) w base t o.type e i z size bytes ht hi hz hsize hby hzs hsz v n xs hown B A m c news hr h1 h63 hbytes hbase
  obtain ⟨A', c', rfl, hf⟩ := own_form h2
  unfold Oper.wpIn
  refine ⟨?_, ?_⟩
  · simp [Oper.about, ho, resolve, Target.leads, Sem.run_pure]
  · rw [Oper.semAt_plain F _ _ (by rw [ho]; intro c hc'; cases hc')]
    simp [execOp, ho, resolve, invoke, builtin, hs, hx, hrun, Result.andThen]
    exact hK' _ _ (h A' c' w' h2 hf h3)
end
theorem one_ub (l : List UInt8) : ∀ u ∈ l.map ub, u.oneCell' = true := by
  intro u hu
  obtain ⟨c, _, rfl⟩ := List.mem_map.1 hu
  rfl
theorem one_u64 (l : List UInt64) : ∀ u ∈ l.map u64, u.oneCell' = true := by
  intro u hu
  obtain ⟨c, _, rfl⟩ := List.mem_map.1 hu
  rfl
end Go.Proofs.YtbgekgakamincaaDoor

/- append onto a row of the call's own, saying where the new row lies. -/
namespace Go.Proofs.YtbgekgakamincaaDoor
open Go.RowKit
set_option linter.unusedVariables false

section
variable {P : Program} (w : World)
theorem run_append_rd2 (base : Nat) (t ty e : TypeId) (i : TypeInfo) (z : Value) (size bytes : Nat) (ht : P.underlying t = some (.slice e)) (hi : P.info? e = some i) (hz : i.zero = some z)
    (hsize : i.size = size) (hby : i.bytes = bytes) (hzs : z.cells.size = size) (hsz : 0 < size)
    (v : Value) (n : Nat) (xs : List Value) (hown : w.ownsRow base e size v n xs)
    (B : Nat) (A : Option Addr) (m c : Nat) (news : List Value) (hr : Rd w B size A m news) (h1 : ∀ u ∈ news, u.oneCell' = true)
    (h63 : n + m ≤ maxLen) (hbytes : (n + m) * bytes ≤ 140737488355328) (hbase : base ≤ w.heap.size) :
    ∃ v' w', (Builtin.append_ #[t, t] ty #[v, .slice A m c]).run P w = .ok v' w' ∧ w'.ownsRow base e size v' (n + m) (xs ++ news) ∧ w.grownBy w' v.ownBlock ∧ (v'.ownBlock = v.ownBlock ∨ v'.ownBlock = some w.heap.size) := by
  rcases A with _ | ad
  · have hm : m = 0 := by
      rcases Nat.eq_zero_or_pos m with h0 | h0
      · exact h0
      · obtain ⟨b, off, h, _⟩ := hr.2 h0
        cases h
    subst hm
    have hn : news = [] := List.eq_nil_of_length_eq_zero (by simpa using hr.1)
    subst hn
    exact ⟨v, w, run_append_nil' w base t ty e i size ht hi v n xs hown c, by simpa using hown, World.grownBy.refl w _, .inl rfl⟩
  · have hcells : ∀ j u, news[j]? = some u → w.cell? (ad.add j) = some u := by
      intro j u hu
      rcases Nat.eq_zero_or_pos m with h0 | h0
      · subst h0
        have hn : news = [] := List.eq_nil_of_length_eq_zero (by simpa using hr.1)
        subst hn
        simp at hu
      · obtain ⟨b, off, h, _, hc⟩ := hr.2 h0
        injection h with h
        subst h
        have := hc j u hu
        by_cases hj : j = 0
        · subst hj; simpa [Addr.add] using this
        · simpa [Addr.add, hj] using this
    obtain ⟨v', w', hrun, h2, h3, _, h5⟩ := run_append_own_at (P := P) w base t ty e i z size bytes ht hi hz hsize hby hzs hsz v n xs hown ad m c news hr.1 hcells h1 h63 hbytes hbase
    exact ⟨v', w', hrun, h2, h3, h5⟩

theorem wpList_append_rd2 {ops : Array Oper} {rest : List Oper} {o : Oper} {a : Act} {Q : Exit → Act → World → Prop} (hgd : o.guard = none) (s x : Operand) (t : TypeId)
    (ho : o.op = .call { callee := .builtin .append, args := #[s, x], argTypes := #[t, t] })
    (base : Nat) (e : TypeId) (i : TypeInfo) (z : Value) (size bytes : Nat) (ht : P.underlying t = some (.slice e)) (hi : P.info? e = some i) (hz : i.zero = some z)
    (hsize : i.size = size) (hby : i.bytes = bytes) (hzs : z.cells.size = size) (hsz : 0 < size)
    (v : Value) (n : Nat) (xs : List Value) (hs : a.eval s = v) (hown : w.ownsRow base e size v n xs)
    (B : Nat) (A : Option Addr) (m c : Nat) (news : List Value) (hx : a.eval x = .slice A m c) (hr : Rd w B size A m news) (h1 : ∀ u ∈ news, u.oneCell' = true)
    (h63 : n + m ≤ maxLen) (hbytes : (n + m) * bytes ≤ 140737488355328) (hbase : base ≤ w.heap.size)
    (h : ∀ A' c' w', w'.ownsRow base e size (.slice A' (n + m) c') (n + m) (xs ++ news) → (0 < n + m → ∃ g, A' = some ⟨g, 0, none⟩) → w.grownBy w' v.ownBlock → ((Value.slice A' (n + m) c').ownBlock = v.ownBlock ∨ (Value.slice A' (n + m) c').ownBlock = some w.heap.size) → wpList P ops Q rest (a.put o.dst (.slice A' (n + m) c')) w') : wpList P ops Q (o :: rest) a w :=
  wpList_plain hgd fun _ hK => by
    obtain ⟨v', w', hrun, h2, h3, h5⟩ := run_append_rd2 (P := P) w base t o.type e i z size bytes ht hi hz hsize hby hzs hsz v n xs hown B A m c news hr h1 h63 hbytes hbase
    obtain ⟨A', c', rfl, hf⟩ := own_form h2
    unfold Oper.wp execOp
    simp only [ho, resolve, invoke, builtin, Sem.run_bind, Sem.run_pure, Result.andThen_ok, List.map_toArray, List.map_cons, List.map_nil, hs, hx, hrun]
    exact hK _ _ (h A' c' w' h2 hf h3 h5)

/-- At a step of a region that draws its order. -/
theorem step_append_rd2 {ops : Array Oper} {o : Oper} {a : Act} {K : Act → World → Prop} {Q : Exit → Act → World → Prop} {E : Prop} (hgd : o.guard = none) (s x : Operand) (t : TypeId)
    (ho : o.op = .call { callee := .builtin .append, args := #[s, x], argTypes := #[t, t] })
    (base : Nat) (e : TypeId) (i : TypeInfo) (z : Value) (size bytes : Nat) (ht : P.underlying t = some (.slice e)) (hi : P.info? e = some i) (hz : i.zero = some z)
    (hsize : i.size = size) (hby : i.bytes = bytes) (hzs : z.cells.size = size) (hsz : 0 < size)
    (v : Value) (n : Nat) (xs : List Value) (hs : a.eval s = v) (hown : w.ownsRow base e size v n xs)
    (B : Nat) (A : Option Addr) (m c : Nat) (news : List Value) (hx : a.eval x = .slice A m c) (hr : Rd w B size A m news) (h1 : ∀ u ∈ news, u.oneCell' = true)
    (h63 : n + m ≤ maxLen) (hbytes : (n + m) * bytes ≤ 140737488355328) (hbase : base ≤ w.heap.size)
    (h : ∀ A' c' w', w'.ownsRow base e size (.slice A' (n + m) c') (n + m) (xs ++ news) → (0 < n + m → ∃ g, A' = some ⟨g, 0, none⟩) → w.grownBy w' v.ownBlock → ((Value.slice A' (n + m) c').ownBlock = v.ownBlock ∨ (Value.slice A' (n + m) c').ownBlock = some w.heap.size) → K (a.put o.dst (.slice A' (n + m) c')) w') :
    if Region.wanted o (yielded ops a.tmps) = true then Oper.wp P o a w K Q else E := by
  have hw : Region.wanted o (yielded ops a.tmps) = true := by simp [Region.wanted, hgd]
  rw [if_pos hw]
  obtain ⟨v', w', hrun, h2, h3, h5⟩ := run_append_rd2 (P := P) w base t o.type e i z size bytes ht hi hz hsize hby hzs hsz v n xs hown B A m c news hr h1 h63 hbytes hbase
  obtain ⟨A', c', rfl, hf⟩ := own_form h2
  unfold Oper.wp execOp
  simp only [ho, resolve, invoke, builtin, Sem.run_bind, Sem.run_pure, Result.andThen_ok, List.map_toArray, List.map_cons, List.map_nil, hs, hx, hrun]
  exact h A' c' w' h2 hf h3 h5

end
/-- Two rows of a call's own that lie apart: one is appended to. -/
theorem own_other {w w' : World} {base base' size size' n n' : Nat} {e e' : TypeId} {v v' : Value} {xs xs' : List Value} (h : w.ownsRow base e size v n xs) (hne : v.ownBlock = none ∨ v.ownBlock ≠ v'.ownBlock) (hg : w.grownBy w' v'.ownBlock) : w'.ownsRow base e size v n xs := h.kept hg hne
end Go.Proofs.YtbgekgakamincaaDoor

/- Slices of structs: a list of decoded elements, one cell of it stored. -/
namespace Go.Proofs.YtbgekgakamincaaDoor
open Go.RowKit
set_option linter.unusedVariables false

theorem one_flat {α : Type} {dec : α → List Value} (h : ∀ a, ∀ u ∈ dec a, u.oneCell' = true) (l : List α) : ∀ u ∈ l.flatMap dec, u.oneCell' = true := by
  intro u hu
  obtain ⟨a, _, ha⟩ := List.mem_flatMap.1 hu
  exact h a u ha
theorem flat_set {α : Type} {dec : α → List Value} {s : Nat} (hd : ∀ a, (dec a).length = s) : ∀ (l : List α) (i t : Nat) (v : Value) (a : α) (hi : i < l.length), t < s → dec a = (dec l[i]).set t v → (l.flatMap dec).set (i * s + t) v = (l.set i a).flatMap dec
  | [], i, _, _, _, hi, _, _ => absurd hi (by simp)
  | b :: l, 0, t, v, a, _, ht, e => by
    simp only [List.getElem_cons_zero] at e
    rw [List.flatMap_cons, Nat.zero_mul, Nat.zero_add, List.set_append_left _ _ (by rw [hd]; exact ht), List.set_cons_zero, List.flatMap_cons, e]
  | b :: l, i + 1, t, v, a, hi, ht, e => by
    simp only [List.getElem_cons_succ] at e
    rw [List.flatMap_cons, List.set_append_right _ _ (by rw [hd, Nat.add_mul]; omega), hd, show (i + 1) * s + t - s = i * s + t by rw [Nat.add_mul]; omega, List.set_cons_succ, List.flatMap_cons, flat_set hd l i t v a (by simpa using hi) ht e]
theorem rd_blk {W : World} {g : Nat} {t : TypeId} {cs : Array Value} (h : Blk W g t cs) (size n : Nat) (xs : List Value) (hx : cs.toList = xs) (hs : cs.size = n * size) : Rd W W.heap.size size (some ⟨g, 0, none⟩) n xs := by
  subst hx
  exact ⟨by simpa using hs, fun _ => ⟨g, 0, rfl, h.lt, fun j u hu => by
    rw [Nat.zero_add, h.cell]
    simpa using hu⟩⟩
theorem rd_fresh (w : World) (t : TypeId) (cs : Array Value) (size n : Nat) (xs : List Value) (hx : cs.toList = xs) (h : cs.size = n * size) : Rd (w.alloc (.cells cs t)) (w.heap.size + 1) size (some ⟨w.heap.size, 0, none⟩) n xs := by
  subst hx
  have := Rd.new w t cs (0, 0) size n h
  rwa [World.size_alloc] at this
theorem own_keep {w w' : World} {base size n : Nat} {e : TypeId} {v : Value} {xs : List Value} (h : w.ownsRow base e size v n xs) (hb : Below w.heap.size w w') : w'.ownsRow base e size v n xs :=
  h.kept (row := none) ⟨hb.os, hb.tape, hb.output, hb.size, fun k hk _ => hb.block k hk⟩ (by cases v.ownBlock <;> simp)
theorem own_base {w : World} {b b' n s : Nat} {e : TypeId} {v : Value} {xs : List Value} (h : w.ownsRow b e s v n xs) (hb : b' ≤ b) : w.ownsRow b' e s v n xs :=
  ⟨h.1, h.2.elim .inl fun ⟨g, cap, cur, hv, hg, hr⟩ => .inr ⟨g, cap, cur, hv, by omega, hr⟩⟩
end Go.Proofs.YtbgekgakamincaaDoor

/- A region that draws its order in the round of a loop over a function: what is shown of it in the plain calculus holds in the round. -/
namespace Go.Proofs.YtbgekgakamincaaDoor
open Go.RowKit

section
variable {P : Program} {ops : Array Oper} {Q : Exit → Act → World → Prop} {md : Region.Mode} {l n : Nat}

theorem rowsIn_of_rows {row : String} {args : Array Value} {w : World} {R : Value → World → Prop} (h : Rows P row args w R) : RowsIn (Fence.wide.inRound l) n P row args w R := fun c cs _ => by
  obtain ⟨v, w', r, s⟩ := h c cs
  exact ⟨v, w', r, stepsIn_wide.2 s⟩

theorem uponIn_of_upon {o : Oper} {a : Act} {next : Act → World → Prop} {r : Result Next} (h : o.upon P a next Q r) : o.uponIn (Fence.wide.inRound l) n P a next Q r := by
  cases r with
  | ok x w' =>
    cases x <;> simp only [Oper.upon, Oper.uponIn] at h ⊢ <;>
      first
        | exact h
        | exact ⟨fun h => by simp [Fence.inRound, Fence.wide] at h, (callsIn_wide.2 h).inRound l⟩
        | exact ⟨fun h => by simp [Fence.inRound, Fence.wide] at h, rowsIn_of_rows h⟩
  | halt x w' => cases x <;> simp only [Oper.upon, Oper.uponIn] at h ⊢ <;> exact h

theorem wpIn_of_wp {o : Oper} {a : Act} {w : World} {next : Act → World → Prop} (hd : ∀ c, o.op ≠ .defer c) (h : o.wp P a w next Q) : o.wpIn (Fence.wide.inRound l) n P a w next Q :=
  ⟨fun _ _ => trivial, by rw [Oper.semAt_plain _ _ _ hd]; exact uponIn_of_upon h⟩

theorem wpOpIn_of_wpOp {i : Nat} {K : Act → World → Prop} {a : Act} {w : World} (hd : ∀ o ∈ ops, ∀ c, o.op ≠ .defer c) (hout : ¬ LetsOut Q) (h : wpOp P ops Q i K a w) : wpOpIn (Fence.wide.inRound l) n P ops Q i K a w := by
  unfold wpOp at h
  unfold wpOpIn
  split
  · simpa [*] using h
  · rename_i o ho
    simp only [ho] at h
    split
    · rename_i hw
      simp only [hw, if_true] at h
      rcases h with h | h
      · exact wpIn_of_wp (hd o (Array.mem_of_getElem? ho)) h
      · exact absurd h.2 hout
    · rename_i hw
      simp only [hw] at h
      exact ⟨fun _ _ => trivial, h⟩

theorem wpAnyIn_of_wpAny (hd : ∀ o ∈ ops, ∀ c, o.op ≠ .defer c) (hout : ¬ LetsOut Q) : ∀ (fuel : Nat) (listed : Array Bool) (a : Act) (w : World), wpAny P md ops Q fuel listed a w → wpAnyIn (Fence.wide.inRound l) n P md ops Q fuel listed a w
  | 0, _, _, _, h => h
  | fuel + 1, _, _, _, h => ⟨h.1, fun i hi => wpOpIn_mono (fun a w hh => wpAnyIn_of_wpAny hd hout fuel _ a w hh) (wpOpIn_of_wpOp hd hout (h.2 i hi))⟩

/-- THE TRANSFER. -/
theorem wpIn_region_of_any {id : Nat} {a : Act} {w : World} (hm : P.follows .mixedOrders = true) (hd : ∀ o ∈ ops, ∀ c, o.op ≠ .defer c) (hout : ¬ LetsOut Q)
    (h : wpAny P .any ops Q ops.size (Array.replicate ops.size false) a w.drew) : (Code.region id ops true).wpIn (Fence.wide.inRound l) n P Q a w :=
  wpIn_region_any hm (wpAnyIn_of_wpAny hd hout _ _ _ _ h)

def noDefer (ops : List Oper) : Bool := ops.all fun o => match o.op with | .defer _ => false | _ => true
theorem noDefer_spec {ops : List Oper} (h : noDefer ops = true) : ∀ o ∈ ops.toArray, ∀ c, o.op ≠ .defer c := fun o ho c e => by
  have := List.all_eq_true.1 h o (by simpa using ho)
  rw [e] at this
  cases this

/-- Reads and quiet calls, then a tail in one forced order: in a round. -/
theorem wpIn_region_still_tail {id : Nat} {a : Act} {w : World} {ls : List Oper} (k : Nat) (hm : P.follows .mixedOrders = true) (hnd : noDefer ls = true) (hout : ¬ LetsOut Q) (hB : Region.lexTailB .any ls.toArray k = true)
    (h : wpStill P ls.toArray w.drew (fun a' => wpList P ls.toArray Q (ls.drop k) a' w.drew) (ls.take k) a) : (Code.region id ls.toArray true).wpIn (Fence.wide.inRound l) n P Q a w := by
  refine wpIn_region_of_any hm (noDefer_spec hnd) hout ?_
  simp only [Region.lexTailB, Bool.and_eq_true, decide_eq_true_eq] at hB
  obtain ⟨⟨⟨⟨hsel, hn⟩, hs⟩, hc⟩, hlex⟩ := hB
  have hn' : k < ls.length := by simpa using hn
  have htl : (ls.take k).length = k := by simp; omega
  have hdl : (ls.drop k).length = ls.toArray.size - k := by simp
  have inv0 : HeadInv .any ls.toArray k (Array.replicate ls.toArray.size false) :=
    ⟨by simp, fun j oj _ hl => (by rw [getD_replicate_false] at hl; cases hl), fun t _ ht => getD_in (by simpa using ht) (getD_replicate_false _ _)⟩
  have H := wpAnyL_lex (md := .any) (g := ls.toArray.size - k) hsel hs hc hn (ls.take k) 0 _ a (fun j hj => by
    have hj' : j < k := by rw [htl] at hj; exact hj
    simp [hj']) (by simpa using htl) inv0 (by rw [htl]; exact hlex) h
  have := wpAny_of_head (Q' := Q) (g := ls.toArray.size - k) (fun listed a' hL => by
    have := wpAny_of_seq (md := .any) (Q' := Q) (ls.drop k) k listed a' w.drew (fun j => by simp [List.getElem?_drop]) (by rw [hdl]; exact hL.1) hL.2
    rwa [hdl] at this) _ _ _ H
  rw [htl, show k + (ls.toArray.size - k) = ls.toArray.size by omega] at this
  exact this
end

/-- The frame of a round: yield's values in their slots, then copies (slot, from slot). -/
def rfL (zs : List (Nat × Value)) (cp : List (Nat × Nat)) (ts : List Value) : List Value :=
  cp.foldl (fun t p => t.set p.1 (t.getD p.2 undef)) (zs.foldl (fun t p => t.set p.1 p.2) ts)

theorem wpIn_rf {P : Program} {n : Nat} {α : Type} (cp : List (Nat × Nat)) (zs : α → List (Nat × Value)) {g : Operand} {ps : Array Tmp} {assign body : Code} {Q : Exit → Act → World → Prop} {ts : List Value} {w : World}
    {gf : Nat} {lb : Array Value} (hg : Act.eval { tmps := ts.toArray, defers := [] } g = .func (.func gf) #[] lb) (eg : ∀ args w, (callFunc gf args).run P w = .ok (.enter gf args) w)
    {encs : α → Array Value} {Kp : World → World → Prop} {S Sp : List α → Prop} {N : Nat} (hseq : SeqStopsK Fence.wide n P gf lb encs Kp S Sp N w)
    (hKt : ∀ {A B C : World}, Kp A B → Kp B C → Kp A C) (hKb : ∀ (W : World) (l : Nat) (o o' : Obj), w.heap.size ≤ l → W.heap[l]? = some o → o.isCells = false → o.isWalk = false → Kp W (W.putObj l o')) (hps : ∀ x, (encs x).size = ps.size)
    (I : List α → World → Prop) (Ix : Code → List α → World → Prop) (hI : OwnFrom w.heap.size I) (hIx : ∀ c, OwnFrom w.heap.size (Ix c)) (h0 : I [] w)
    (hassign : ∀ (l : Nat) (x : α) (W : World) (K : Act → World → Prop), K { tmps := (rfL (zs x) cp ts).toArray, defers := [] } W →
      assign.wpIn (Fence.wide.inRound l) (n - 1) P (Exit.then K (fun _ _ _ => False)) { tmps := (ps.zip (encs x)).foldl (fun t (p, v) => t.setIfInBounds p v) ts.toArray, defers := [] } W)
    (hbody : ∀ (l : Nat) (pre : List α) (x : α) (W : World), I pre W → pre.length < N → body.wpIn (Fence.wide.inRound l) (n - 1) P (ownPostG w.heap.size Kp I Ix (pre ++ [x]) W) { tmps := (rfL (zs x) cp ts).toArray, defers := [] } W)
    (hdone : ∀ (D : Nat) (xs : List α) (W : World), w.heap.size ≤ D → S xs → I xs W → W.heap[D]? = some (.deferred (some [])) → Q .normal { tmps := ts.toArray, defers := [{ target := .collected D, args := #[] }] } W)
    (hstop : ∀ (D : Nat) (c : Code) (pre : List α) (W : World), w.heap.size ≤ D → Sp pre → Ix c pre W → W.heap[D]? = some (.deferred (some [])) → c.wpIn Fence.wide (n + 1) P Q { tmps := ts.toArray, defers := [{ target := .collected D, args := #[] }] } W) :
    (Code.rangeFunc g ps assign body).wpIn Fence.wide (n + 1) P Q { tmps := ts.toArray, defers := [] } w :=
  wpIn_rangeFunc_ownG (F := Fence.wide) (n := n + 1) rfl (by omega) hg trivial eg hseq (fun h k => hKt h k) hKb (Below.refl _ _) hps I Ix hI hIx h0 (fun x => { tmps := (rfL (zs x) cp ts).toArray, defers := [] }) hassign hbody hdone hstop
theorem keepsFrom_below {B : Nat} {W W' : World} (h : Below W.heap.size W W') : KeepsFrom B W W' :=
  ⟨h.size, fun k _ _ hk _ => (h.block k (Array.getElem?_eq_some_iff.1 hk).1).trans hk⟩
theorem keepsFrom_drew {B : Nat} (W : World) : KeepsFrom B W W.drew := (KeepsOthers.drew W).from B
theorem keepsFrom_set {B : Nat} (W : World) (p : Addr) (v : Value) : KeepsFrom B W (W.setCell p v) := (KeepsOthers.setCell _ _ _).from _
end Go.Proofs.YtbgekgakamincaaDoor

/- A region that draws its order, whose operations read and whose callees read or make memory: one walk, in a class of worlds that calls may extend. -/
namespace Go.Proofs.YtbgekgakamincaaDoor
open Go.RowKit

/-- A world with a fact. -/
structure WOf (Pd : World → Prop) where
  w : World
  ok : Pd w

section
variable {P : Program} {Q : Exit → Act → World → Prop}
theorem wp_region_ext (Pd : World → Prop) {id : Nat} {a : Act} {w : World} {l : List Oper} (h0 : Pd w) (hup : ∀ a b, Pd a → Below a.heap.size a b → Pd b) (hm : P.follows .mixedOrders = true) (hB : Region.lexB .any l.toArray = true)
    (h : Nonempty (WOf Pd) → wpQuiet P l.toArray (fun w' => ∃ s : WOf Pd, w' = s.w) (fun a' => ∀ w', (∃ s : WOf Pd, w' = s.w) → Q .normal a' w') l a) : (Code.region id l.toArray true).wp P Q a w :=
  wp_region_quiet (C := fun w' => ∃ s : WOf Pd, w' = s.w) hm hB ⟨⟨_, hup w w.drew h0 (Below.refl _ _).drew⟩, rfl⟩ (by simpa using h ⟨⟨w, h0⟩⟩)

theorem wpIn_region_ext (Pd : World → Prop) {r n : Nat} {id : Nat} {a : Act} {w : World} {l : List Oper} (h0 : Pd w) (hup : ∀ a b, Pd a → Below a.heap.size a b → Pd b) (hm : P.follows .mixedOrders = true) (hnd : noDefer l = true) (hout : ¬ LetsOut Q) (hB : Region.lexB .any l.toArray = true)
    (h : Nonempty (WOf Pd) → wpQuiet P l.toArray (fun w' => ∃ s : WOf Pd, w' = s.w) (fun a' => ∀ w', (∃ s : WOf Pd, w' = s.w) → Q .normal a' w') l a) : (Code.region id l.toArray true).wpIn (Fence.wide.inRound r) n P Q a w := by
  refine wpIn_region_of_any hm (noDefer_spec hnd) hout ?_
  simp only [Region.lexB, Bool.and_eq_true] at hB
  refine wpAny_of_quiet (C := fun w' => ∃ s : WOf Pd, w' = s.w) (Q := fun a' => ∀ w', (∃ s : WOf Pd, w' = s.w) → Q .normal a' w') (fun _ w' hw' h => h w' hw') _ _ _ _ ⟨⟨_, hup w w.drew h0 (Below.refl _ _).drew⟩, rfl⟩ ?_
  have := wpAnyQ_lex (C := fun w' => ∃ s : WOf Pd, w' = s.w) (md := .any) hB.1 l 0 (Array.replicate l.toArray.size false) a (by simp) (by simpa using hB.2) (h ⟨⟨w, h0⟩⟩)
  simpa using this

/-- A callee's contract, met in a world of the class. -/
theorem calls_ext {Pd : World → Prop} (hup : ∀ a b, Pd a → Below a.heap.size a b → Pd b) {f : FuncId} {args : Array Value} {s : WOf Pd} {v : Value}
    (h : Calls P f args s.w fun e w' => e = .returned v ∧ Below s.w.heap.size s.w w') : Calls P f args s.w fun e w'' => e = .returned v ∧ ∃ s' : WOf Pd, w'' = s'.w :=
  h.mono fun _ w' ⟨he, hb⟩ => ⟨he, ⟨w', hup _ _ s.ok hb⟩, rfl⟩
theorem calls_ext_same {Pd : World → Prop} {f : FuncId} {args : Array Value} {s : WOf Pd} {v : Value}
    (h : Calls P f args s.w fun e w' => e = .returned v ∧ s.w = w') : Calls P f args s.w fun e w'' => e = .returned v ∧ ∃ s' : WOf Pd, w'' = s'.w :=
  h.mono fun _ _ ⟨he, hb⟩ => ⟨he, s, hb.symm⟩
end
end Go.Proofs.YtbgekgakamincaaDoor

/- A region that draws its order: reads, and calls that may make memory, in whatever order; behind them a tail in one forced order. In the plain calculus, in the wide fence, in a round. -/
namespace Go.Proofs.YtbgekgakamincaaDoor
open Go.RowKit

/-- The wide fence, or a round of it. -/
def WideF (F : Fence) : Prop := F = Fence.wide ∨ ∃ l, F = Fence.wide.inRound l
theorem WideF.plain : WideF Fence.wide := .inl rfl
theorem WideF.round (l : Nat) : WideF (Fence.wide.inRound l) := .inr ⟨l, rfl⟩

section
variable {P : Program} {ops : Array Oper} {md : Region.Mode} {C : World → Prop} {Q : Exit → Act → World → Prop} {F : Fence} {n : Nat}

theorem rowsIn_of_rows_wide {row : String} {args : Array Value} {w : World} {R : Value → World → Prop} (h : Rows P row args w R) : RowsIn Fence.wide n P row args w R := fun c cs _ => by
  obtain ⟨v, w', r, s⟩ := h c cs
  exact ⟨v, w', r, stepsIn_wide.2 s⟩
theorem uponIn_of_upon_wide {o : Oper} {a : Act} {next : Act → World → Prop} {r : Result Next} (h : o.upon P a next Q r) : o.uponIn Fence.wide n P a next Q r := by
  cases r with
  | ok x w' =>
    cases x <;> simp only [Oper.upon, Oper.uponIn] at h ⊢ <;>
      first
        | exact h
        | exact ⟨fun h => by simp [Fence.wide] at h, callsIn_wide.2 h⟩
        | exact ⟨fun h => by simp [Fence.wide] at h, rowsIn_of_rows_wide h⟩
  | halt x w' => cases x <;> simp only [Oper.upon, Oper.uponIn] at h ⊢ <;> exact h
theorem wpIn_of_wp_wf (hF : WideF F) {o : Oper} {a : Act} {w : World} {next : Act → World → Prop} (hd : ∀ c, o.op ≠ .defer c) (h : o.wp P a w next Q) : o.wpIn F n P a w next Q := by
  rcases hF with rfl | ⟨l, rfl⟩
  · exact ⟨fun _ _ => trivial, by rw [show Fence.wide.round = none from rfl, Oper.semAt_none]; exact uponIn_of_upon_wide h⟩
  · exact wpIn_of_wp hd h
theorem WideF.fn (hF : WideF F) (f : FuncId) : F.fn f := by
  rcases hF with rfl | ⟨l, rfl⟩ <;> trivial

theorem wpOpIn_of_qOp (hF : WideF F) {i : Nat} {a : Act} {K : Act → Prop} {K' : Act → World → Prop} {w : World} (hd : ∀ o ∈ ops, ∀ c, o.op ≠ .defer c) (hC : C w) (h : ∀ a w', C w' → K a → K' a w') (hh : qOp P ops C i K a) : wpOpIn F n P ops Q i K' a w := by
  unfold qOp at hh
  unfold wpOpIn
  split
  · rename_i ho; simp only [ho] at hh; exact h _ _ hC hh
  · rename_i o ho
    simp only [ho] at hh
    split
    · rename_i hw; simp only [hw, if_true] at hh; exact wpIn_of_wp_wf hF (hd o (Array.mem_of_getElem? ho)) (Oper.wp_of_quiet hC h hh)
    · rename_i hw; simp only [hw] at hh; exact ⟨fun f _ => hF.fn f, h _ _ hC hh⟩

/-- Whatever order is picked for the head. -/
def wpAnyQL (P : Program) (md : Region.Mode) (ops : Array Oper) (C : World → Prop) (k : Nat) (L : Array Bool → Act → Prop) : Nat → Array Bool → Act → Prop
  | 0, listed, a => L listed a
  | f + 1, listed, a =>
    Region.ready md ops listed ≠ [] ∧ ∀ i ∈ Region.ready md ops listed, i < k ∧ qOp P ops C i (wpAnyQL P md ops C k L f (listed.setIfInBounds i true)) a

theorem wpAny_of_headQ {k g : Nat} {L : Array Bool → Act → Prop} (hL : ∀ listed a w, C w → L listed a → wpAny P md ops Q g listed a w) :
    ∀ (f : Nat) (listed : Array Bool) (a : Act) (w : World), C w → wpAnyQL P md ops C k L f listed a → wpAny P md ops Q (f + g) listed a w
  | 0, listed, a, w, hw, h => by rw [Nat.zero_add]; exact hL _ _ _ hw h
  | f + 1, listed, a, w, hw, h => by
    rw [show f + 1 + g = (f + g) + 1 by omega]
    exact ⟨fun h0 => absurd h0 h.1, fun i hi => wpOp_of_qOp hw (fun a' w' hw' h' => wpAny_of_headQ hL f _ a' w' hw' h') (h.2 i hi).2⟩
theorem wpAnyIn_of_headQ (hF : WideF F) (hd : ∀ o ∈ ops, ∀ c, o.op ≠ .defer c) {k g : Nat} {L : Array Bool → Act → Prop} (hL : ∀ listed a w, C w → L listed a → wpAnyIn F n P md ops Q g listed a w) :
    ∀ (f : Nat) (listed : Array Bool) (a : Act) (w : World), C w → wpAnyQL P md ops C k L f listed a → wpAnyIn F n P md ops Q (f + g) listed a w
  | 0, listed, a, w, hw, h => by rw [Nat.zero_add]; exact hL _ _ _ hw h
  | f + 1, listed, a, w, hw, h => by
    rw [show f + 1 + g = (f + g) + 1 by omega]
    exact ⟨fun h0 => absurd h0 h.1, fun i hi => wpOpIn_of_qOp hF hd hw (fun a' w' hw' h' => wpAnyIn_of_headQ hF hd hL f _ a' w' hw' h') (h.2 i hi).2⟩

theorem wpAnyQL_first {k i : Nat} {oi : Oper} {v : Value} {L : Array Bool → Act → Prop} (hi : ops[i]? = some oi) (hsel : ∀ (j : Nat) (o : Oper) cs b, ops[j]? = some o → o.op ≠ .select cs b)
    (hs : Region.sinkB md ops k = true) (hc : Region.chainB md ops k = true) (hk : k < ops.size) (hik : i < k)
    (hdone : ∀ listed a, L listed a → ∀ j ∈ Region.ready md ops listed, k ≤ j) :
    ∀ (f : Nat) (listed : Array Bool) (a : Act), HeadInv md ops k listed →
      (∀ j oj, ops[j]? = some oj → j ≠ i → listed.getD j true = false → (∀ e ∈ oj.after, Region.binds md e = true → e.on ≠ i) → oi.apart ops oj = true) →
      i ∈ Region.ready md ops listed → YieldsIn P ops C oi v a →
      wpAnyQL P md ops C k L f (listed.setIfInBounds i true) (a.put oi.dst v) → wpAnyQL P md ops C k L (f + 1) listed a := by
  intro f
  induction f with
  | zero =>
    intro listed a inv _ hr hy H
    have hun := (mem_ready.1 hr).1
    refine ⟨fun h => (by rw [h] at hr; cases hr), fun j hj => ?_⟩
    have hjn : j < k := by
      rcases Nat.lt_or_ge j k with h | h
      · exact h
      · exact absurd hj (tail_waits hs hc hk inv _ i rfl hik hun j h)
    refine ⟨hjn, ?_⟩
    by_cases hji : j = i
    · subst hji; exact hy.qOp hi H
    · have := hdone _ _ H j (ready_mono hj hji)
      omega
  | succ f ih =>
    intro listed a inv hfree hr hy H
    have hun := (mem_ready.1 hr).1
    refine ⟨fun h => (by rw [h] at hr; cases hr), fun j hj => ?_⟩
    have hjn : j < k := by
      rcases Nat.lt_or_ge j k with h | h
      · exact h
      · exact absurd hj (tail_waits hs hc hk inv _ i rfl hik hun j h)
    refine ⟨hjn, ?_⟩
    by_cases hji : j = i
    · subst hji; exact hy.qOp hi H
    · have h1 := (H.2 j (ready_mono hj hji)).2
      obtain ⟨hjun, oj, hoj, hall⟩ := mem_ready.1 hj
      have hnot : ∀ e ∈ oj.after, Region.binds md e = true → e.on ≠ i := fun e he hb heq => by
        have h1 := hall e he hb
        rw [heq, getD_both hun] at h1
        cases h1
      have h2 := qOp_put hoj (hfree j oj hoj hji hjun hnot) (fun cs b => hsel i oi cs b hi) (fun cs b => hsel j oj cs b hoj) hy h1
      have hfree' : ∀ m om, ops[m]? = some om → m ≠ i → (listed.setIfInBounds j true).getD m true = false →
          (∀ e ∈ om.after, Region.binds md e = true → e.on ≠ i) → oi.apart ops om = true := fun m om hom hmi hun hno => by
        refine hfree m om hom hmi ?_ hno
        by_cases hjm : j = m
        · subst hjm; exact hjun
        · rw [getD_set_ne true hjm] at hun; exact hun
      refine qOp_mono (fun a' h3 => ih (listed.setIfInBounds j true) a' (inv.set hj hjn) hfree' (ready_mono hr (Ne.symm hji)) h3.1 ?_) h2
      rw [Array.setIfInBounds_comm _ _ hji]
      exact h3.2

theorem wpAnyQL_lex {k g : Nat} {Lq : Act → Prop} (hsel : Region.noSelect ops = true) (hs : Region.sinkB md ops k = true) (hc : Region.chainB md ops k = true) (hk : k < ops.size) :
    ∀ (l : List Oper) (m : Nat) (listed : Array Bool) (a : Act), (∀ j, j < l.length → l[j]? = ops[m + j]?) → m + l.length = k → HeadInv md ops k listed →
    Region.lexHead md ops g l.length m listed = true → wpQuiet P ops C Lq l a →
    wpAnyQL P md ops C k (fun listed' a' => Region.seqB md ops g k listed' = true ∧ Lq a') l.length listed a
  | [], m, listed, a, _, hm, _, hB, h => by
    have : m = k := by simpa using hm
    subst this
    exact ⟨by simpa [Region.lexHead] using hB, h⟩
  | o :: l, m, listed, a, hl, hm, inv, hB, h => by
    have h0 : ops[m]? = some o := by simpa using (hl 0 (by simp)).symm
    simp only [List.length_cons, Region.lexHead, Bool.and_eq_true] at hB
    obtain ⟨⟨hr, hf⟩, hB'⟩ := hB
    have hmk : m < k := by simp only [List.length_cons] at hm; omega
    have hr' : m ∈ Region.ready md ops listed := by simpa using hr
    have hst : qOp P ops C m (wpQuiet P ops C Lq l) a := by unfold qOp; simp only [h0]; exact h
    obtain ⟨v, hy, hK⟩ := yieldsIn_of_qOp h0 hst
    exact wpAnyQL_first h0 (Region.noSelect_spec hsel) hs hc hk hmk (fun listed' a' hL => seqB_ready hL.1) l.length listed a inv (Region.free_spec h0 hf) hr' hy
      (wpAnyQL_lex hsel hs hc hk l (m + 1) _ _ (fun j hj => by have := hl (j + 1) (by simp; omega); simpa [Nat.add_assoc, Nat.add_comm 1 j] using this) (by simp only [List.length_cons] at hm; omega) (inv.set hr' hmk) hB' hK)

theorem wpAnyIn_of_seq : ∀ (l : List Oper) (k : Nat) (listed : Array Bool) (a : Act) (w : World), (∀ j, l[j]? = ops[k + j]?) →
    Region.seqB md ops l.length k listed = true → wpListIn F n P ops Q l a w → wpAnyIn F n P md ops Q l.length listed a w
  | [], _, _, _, _, _, hB, h => ⟨by simpa [Region.seqB] using hB, h⟩
  | o :: l, k, listed, a, w, hl, hB, h => by
    have h0 : ops[k]? = some o := by simpa using (hl 0).symm
    simp only [List.length_cons, Region.seqB, Bool.and_eq_true, decide_eq_true_eq] at hB
    refine ⟨fun h1 => (by rw [hB.1] at h1; cases h1), fun i hi => ?_⟩
    rw [hB.1] at hi
    have hik : i = k := by simpa using hi
    subst hik
    have hw : wpOpIn F n P ops Q i (wpListIn F n P ops Q l) a w := by unfold wpOpIn; simp only [h0]; exact h
    exact wpOpIn_mono (fun a' w' h' => wpAnyIn_of_seq l (i + 1) _ a' w' (fun j => by have := hl (j + 1); simpa [Nat.add_assoc, Nat.add_comm 1 j] using this) hB.2 h') hw

theorem qt_inv {l : List Oper} {k : Nat} : HeadInv .any l.toArray k (Array.replicate l.toArray.size false) :=
  ⟨by simp, fun j oj _ hl => (by rw [getD_replicate_false] at hl; cases hl), fun t _ ht => getD_in (by simpa using ht) (getD_replicate_false _ _)⟩

/-- In the plain calculus. -/
theorem wp_region_qt (Pd : World → Prop) {id : Nat} {a : Act} {w : World} {l : List Oper} (k : Nat) (h0 : Pd w) (hup : ∀ a b, Pd a → Below a.heap.size a b → Pd b) (hm : P.follows .mixedOrders = true) (hB : Region.lexTailB .any l.toArray k = true)
    (h : Nonempty (WOf Pd) → wpQuiet P l.toArray (fun w' => ∃ s : WOf Pd, w' = s.w) (fun a' => ∀ s : WOf Pd, wpList P l.toArray Q (l.drop k) a' s.w) (l.take k) a) : (Code.region id l.toArray true).wp P Q a w := by
  simp only [Region.lexTailB, Bool.and_eq_true, decide_eq_true_eq] at hB
  obtain ⟨⟨⟨⟨hsel, hn⟩, hs⟩, hc⟩, hlex⟩ := hB
  have hn' : k < l.length := by simpa using hn
  have htl : (l.take k).length = k := by simp; omega
  have hdl : (l.drop k).length = l.toArray.size - k := by simp
  have H := wpAnyQL_lex (md := .any) (C := fun w' => ∃ s : WOf Pd, w' = s.w) (g := l.toArray.size - k) hsel hs hc hn (l.take k) 0 _ a (fun j hj => by
    have hj' : j < k := by rw [htl] at hj; exact hj
    simp [hj']) (by simpa using htl) qt_inv (by rw [htl]; exact hlex) (h ⟨⟨w, h0⟩⟩)
  refine wp_region_any hm ?_
  have := wpAny_of_headQ (Q := Q) (g := l.toArray.size - k) (fun listed a' w' hw' hL => by
    obtain ⟨s, rfl⟩ := hw'
    have := wpAny_of_seq (md := .any) (Q' := Q) (l.drop k) k listed a' s.w (fun j => by simp [List.getElem?_drop]) (by rw [hdl]; exact hL.1) (hL.2 s)
    rwa [hdl] at this) _ _ _ _ ⟨⟨_, hup w w.drew h0 (Below.refl _ _).drew⟩, rfl⟩ H
  rw [htl, show k + (l.toArray.size - k) = l.toArray.size by omega] at this
  exact this

/-- In the wide fence or a round of it. -/
theorem wpIn_region_qt (hF : WideF F) (Pd : World → Prop) {id : Nat} {a : Act} {w : World} {l : List Oper} (k : Nat) (h0 : Pd w) (hup : ∀ a b, Pd a → Below a.heap.size a b → Pd b) (hm : P.follows .mixedOrders = true) (hnd : noDefer l = true) (hB : Region.lexTailB .any l.toArray k = true)
    (h : Nonempty (WOf Pd) → wpQuiet P l.toArray (fun w' => ∃ s : WOf Pd, w' = s.w) (fun a' => ∀ s : WOf Pd, wpListIn F n P l.toArray Q (l.drop k) a' s.w) (l.take k) a) : (Code.region id l.toArray true).wpIn F n P Q a w := by
  simp only [Region.lexTailB, Bool.and_eq_true, decide_eq_true_eq] at hB
  obtain ⟨⟨⟨⟨hsel, hn⟩, hs⟩, hc⟩, hlex⟩ := hB
  have hn' : k < l.length := by simpa using hn
  have htl : (l.take k).length = k := by simp; omega
  have hdl : (l.drop k).length = l.toArray.size - k := by simp
  have H := wpAnyQL_lex (md := .any) (C := fun w' => ∃ s : WOf Pd, w' = s.w) (g := l.toArray.size - k) hsel hs hc hn (l.take k) 0 _ a (fun j hj => by
    have hj' : j < k := by rw [htl] at hj; exact hj
    simp [hj']) (by simpa using htl) qt_inv (by rw [htl]; exact hlex) (h ⟨⟨w, h0⟩⟩)
  refine wpIn_region_any hm ?_
  have := wpAnyIn_of_headQ (n := n) hF (noDefer_spec hnd) (Q := Q) (g := l.toArray.size - k) (fun listed a' w' hw' hL => by
    obtain ⟨s, rfl⟩ := hw'
    have := wpAnyIn_of_seq (md := .any) (Q := Q) (l.drop k) k listed a' s.w (fun j => by simp [List.getElem?_drop]) (by rw [hdl]; exact hL.1) (hL.2 s)
    rwa [hdl] at this) _ _ _ _ ⟨⟨_, hup w w.drew h0 (Below.refl _ _).drew⟩, rfl⟩ H
  rw [htl, show k + (l.toArray.size - k) = l.toArray.size by omega] at this
  exact this

theorem wpAnyIn_of_quiet (hF : WideF F) (hd : ∀ o ∈ ops, ∀ c, o.op ≠ .defer c) {K : Act → Prop} (hQ : ∀ a w, C w → K a → Q .normal a w) : ∀ (fuel : Nat) (listed : Array Bool) (a : Act) (w : World), C w →
    wpAnyQ P md ops C K fuel listed a → wpAnyIn F n P md ops Q fuel listed a w
  | 0, _, _, _, hw, h => ⟨h.1, hQ _ _ hw h.2⟩
  | fuel + 1, _, _, _, hw, h => ⟨fun h0 => hQ _ _ hw (h.1 h0), fun i hi => wpOpIn_of_qOp hF hd hw (fun a' w' hw' => wpAnyIn_of_quiet hF hd hQ fuel _ a' w' hw') (h.2 i hi)⟩

/-- No tail. -/
theorem wpIn_region_ext' (hF : WideF F) (Pd : World → Prop) {id : Nat} {a : Act} {w : World} {l : List Oper} (h0 : Pd w) (hup : ∀ a b, Pd a → Below a.heap.size a b → Pd b) (hm : P.follows .mixedOrders = true) (hnd : noDefer l = true) (hB : Region.lexB .any l.toArray = true)
    (h : Nonempty (WOf Pd) → wpQuiet P l.toArray (fun w' => ∃ s : WOf Pd, w' = s.w) (fun a' => ∀ w', (∃ s : WOf Pd, w' = s.w) → Q .normal a' w') l a) : (Code.region id l.toArray true).wpIn F n P Q a w := by
  simp only [Region.lexB, Bool.and_eq_true] at hB
  refine wpIn_region_any hm (wpAnyIn_of_quiet (C := fun w' => ∃ s : WOf Pd, w' = s.w) (K := fun a' => ∀ w', (∃ s : WOf Pd, w' = s.w) → Q .normal a' w') hF (noDefer_spec hnd) (fun _ w' hw' h => h w' hw') _ _ _ _ ⟨⟨_, hup w w.drew h0 (Below.refl _ _).drew⟩, rfl⟩ ?_)
  have := wpAnyQ_lex (C := fun w' => ∃ s : WOf Pd, w' = s.w) (md := .any) hB.1 l 0 (Array.replicate l.toArray.size false) a (by simp) (by simpa using hB.2) (h ⟨⟨w, h0⟩⟩)
  simpa using this
end
end Go.Proofs.YtbgekgakamincaaDoor
