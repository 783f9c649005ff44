/- Arguments opened: a slice that came in, as a list of decoded elements. -/
import Derived.ProofKit
import Derived.OpenShut
import Derived.ShutString
import Derived.ChangeOld
import Derived.Deep.Slices
import Derived.Test.YtmdogklgbifacaaDoorCom
namespace Go.Proofs.YtmdogklgbifacaaDoor
open Go.RowKit Go.ChangeShapes Go.WideShapes Go.Deep
open Go.ChangeMaps (open_string shut_string)

theorem choose_list {α : Type} (R : Nat → α → Prop) : ∀ n, (∀ i, i < n → ∃ a, R i a) → ∃ l : List α, l.length = n ∧ ∀ i a, l[i]? = some a → R i a
  | 0, _ => ⟨[], rfl, fun i a h => by simp at h⟩
  | n + 1, h => by
    obtain ⟨l, hl, hr⟩ := choose_list R n (fun i hi => h i (by omega))
    obtain ⟨a, ha⟩ := h n (by omega)
    refine ⟨l ++ [a], by simp [hl], fun i b hb => ?_⟩
    rcases Nat.lt_or_ge i n with hlt | hge
    · exact hr i b (by rwa [List.getElem?_append_left (by omega)] at hb)
    · rw [List.getElem?_append_right (by omega)] at hb
      have h0 : i = n := by
        have := (List.getElem?_eq_some_iff.1 hb).1
        simp at this; omega
      subst h0
      simp [hl] at hb
      exact hb ▸ ha

theorem flat_len {α β : Type} {dec : α → List β} {k : Nat} (hd : ∀ a, (dec a).length = k) (l : List α) : (l.flatMap dec).length = l.length * k := by
  induction l with
  | nil => simp
  | cons a l ih => simp [List.flatMap_cons, hd, ih, Nat.add_mul, Nat.add_comm]
theorem flat_get {α β : Type} {dec : α → List β} {k : Nat} (hd : ∀ a, (dec a).length = k) : ∀ (l : List α) (i j : Nat) (a : α), l[i]? = some a → j < k → (l.flatMap dec)[i * k + j]? = (dec a)[j]?
  | [], i, j, a, h, _ => by simp at h
  | b :: l, 0, j, a, h, hj => by
    simp at h; subst h
    rw [List.flatMap_cons, Nat.zero_mul, Nat.zero_add, List.getElem?_append_left (by rw [hd]; exact hj)]
  | b :: l, i + 1, j, a, h, hj => by
    rw [List.flatMap_cons, List.getElem?_append_right (by rw [hd, Nat.add_mul]; omega), hd, show (i + 1) * k + j - k = i * k + j by rw [Nat.add_mul]; omega]
    exact flat_get hd l i j a (by simpa using h) hj

/-- The cells of the element number i of a slice of structs. -/
theorem rd_el {α : Type} {dec : α → List Value} {s : Nat} (hd : ∀ a, (dec a).length = s) {w : World} {B : Nat} {A : Option Addr} {n : Nat} {l : List α} (h : Rd w B s A n (l.flatMap dec)) (hl : l.length = n) {i : Nat} (hi : i < l.length) :
    ∃ b off, A = some ⟨b, off, none⟩ ∧ b < B ∧ ∀ j u, (dec l[i])[j]? = some u → w.cell? ⟨b, off + i * s + j, none⟩ = some u := by
  obtain ⟨b, off, e, hb, hc⟩ := h.2 (by omega)
  refine ⟨b, off, e, hb, fun j u hu => ?_⟩
  rw [Nat.add_assoc]
  refine hc _ u ?_
  have hj : j < s := by have := (List.getElem?_eq_some_iff.1 hu).1; rwa [hd] at this
  rw [flat_get hd l i j _ (List.getElem?_eq_getElem hi) hj]
  exact hu

/-- A slice of n elements, each of k cells: it reads as the decoded list l. -/
def IsList {α : Type} (dec : α → List Value) (k : Nat) (G : α → Prop) (w : World) (A : Option Addr) (n c : Nat) (l : List α) : Prop :=
  l.length = n ∧ Rd w w.heap.size k A n (l.flatMap dec) ∧ n ≤ c ∧ c ≤ maxLen ∧ (∀ a ∈ l, G a)

section
variable {H : Type} {enc : TypeId × Value → H} {P : Program} {w : World} {spare : Nat → Bool} {held : Bool}
theorem cell_lt {w : World} {a : Addr} {v : Value} (h : w.cell? a = some v) : a.block < w.heap.size := by
  rcases Nat.lt_or_ge a.block w.heap.size with hlt | hge
  · exact hlt
  · simp [World.cell?, Array.getElem?_eq_none hge] at h

theorem open_list {α : Type} (dec : α → List Value) (k : Nat) (G : α → Prop) {t e : TypeId} {r : Reach} {b0 : Nat} {v : Value} {d : DataW H} {p : List MemPlace}
    (ht : P.underlying t = some (.slice e)) (hk : P.cellsOf e = k) (hk0 : 0 < k) (hd : ∀ a, (dec a).length = k)
    (hel : ∀ (n : Nat) (cs : List Value) (y : DataW H × List MemPlace), DataW.trod enc P w 0 spare held n e cs = some y → ∃ a, cs = dec a ∧ G a)
    (hv : Value.okWide P w r b0 t v) (h : DataW.Trod enc P w 0 spare held t v d p) : ∃ A n c l, v = .slice A n c ∧ IsList dec k G w A n c l := by
  obtain ⟨A, n, c, rfl⟩ := okWide_slice ht hv
  refine ⟨A, n, c, ?_⟩
  obtain ⟨fuel, hf⟩ := h
  rcases open_slice ht hf with ⟨hcs, _⟩ | ⟨a, len, cap, m, n', D, Pl, hcs, _, hl, hm, hmm, hx, hi⟩
  · simp [Value.cells] at hcs
    obtain ⟨rfl, rfl, rfl⟩ := hcs
    exact ⟨[], rfl, rfl, Rd.nil_, Nat.le_refl _, by decide, fun a ha => by cases ha⟩
  · simp [Value.cells] at hcs
    obtain ⟨rfl, rfl, rfl⟩ := hcs
    have hlm : n ≤ m := by rw [hmm]; split <;> omega
    obtain ⟨l, hll, hr⟩ := choose_list (fun i x => G x ∧ ∀ j, j < k → w.cell? (a.add (i * k + j)) = (dec x)[j]?) n (fun i hin => by
      obtain ⟨cs', hc, htr⟩ := hi i (by omega)
      obtain ⟨x, rfl, hg⟩ := hel _ _ _ htr
      obtain ⟨_, hcl, hat⟩ := World.cells?_some hc
      rw [hk] at hat
      exact ⟨x, hg, fun j hj => by rw [← Go.Deep.add_add]; exact hat j hj⟩)
    refine ⟨l, rfl, hll, ⟨by rw [flat_len hd, hll], fun hn => ?_⟩, hl, hm, fun x hx => ?_⟩
    · obtain ⟨x0, hx0⟩ : ∃ x0, l[0]? = some x0 := ⟨_, List.getElem?_eq_getElem (by omega)⟩
      have h0 := (hr 0 x0 hx0).2 0 hk0
      have hd0 : ∃ u, (dec x0)[0]? = some u := ⟨_, List.getElem?_eq_getElem (by rw [hd]; exact hk0)⟩
      obtain ⟨u0, hu0⟩ := hd0
      rw [hu0] at h0
      have hs := World.cell?_spot h0
      obtain ⟨b, off, spot⟩ := a
      have hspot : spot = none := by simpa [Addr.add] using hs
      subst hspot
      refine ⟨b, off, rfl, by simpa [Addr.add] using cell_lt h0, fun j u hu => ?_⟩
      have hj : j < n * k := by
        have := (List.getElem?_eq_some_iff.1 hu).1
        rwa [flat_len hd, hll] at this
      have hq : j / k < l.length := by rw [hll]; exact (Nat.div_lt_iff_lt_mul hk0).2 hj
      have hdm : j / k * k + j % k = j := by rw [Nat.mul_comm]; exact Nat.div_add_mod j k
      have h1 := flat_get hd l (j / k) (j % k) _ (List.getElem?_eq_getElem hq) (Nat.mod_lt _ hk0)
      have h2 := (hr (j / k) _ (List.getElem?_eq_getElem hq)).2 (j % k) (Nat.mod_lt _ hk0)
      rw [hdm] at h1 h2
      rw [← h1, hu] at h2
      rw [← h2]
      by_cases hj0 : j = 0
      · subst hj0; simp [Addr.add]
      · simp [Addr.add, hj0]
    · obtain ⟨i, hix⟩ := List.getElem?_of_mem hx
      exact (hr i x hix).1

/-- One integer of kind k. -/
theorem open_el_int {e : TypeId} {k : IntKind} (he : P.underlying e = some (.int k)) (n : Nat) (cs : List Value) (y : DataW H × List MemPlace) (h : DataW.trod enc P w 0 spare held n e cs = some y) :
    ∃ z : Int, cs = [.int k z] ∧ (Lit.int k z).wf = true := by
  obtain ⟨z, h1, _, h2⟩ := DataW.trod_int he h
  exact ⟨z, h1, h2⟩
theorem open_el_byte {e : TypeId} (he : P.underlying e = some (.int .u8)) (n : Nat) (cs : List Value) (y : DataW H × List MemPlace) (h : DataW.trod enc P w 0 spare held n e cs = some y) :
    ∃ c : UInt8, cs = [ub c] ∧ True := by
  obtain ⟨z, rfl, hw⟩ := open_el_int he n cs y h
  obtain ⟨c, rfl⟩ := u8_of_wf hw
  exact ⟨c, rfl, trivial⟩
theorem open_el_u64 {e : TypeId} (he : P.underlying e = some (.int .u64)) (n : Nat) (cs : List Value) (y : DataW H × List MemPlace) (h : DataW.trod enc P w 0 spare held n e cs = some y) :
    ∃ c : UInt64, cs = [u64 c] ∧ True := by
  obtain ⟨z, rfl, hw⟩ := open_el_int he n cs y h
  obtain ⟨c, rfl⟩ := u64_of_wf hw
  exact ⟨c, rfl, trivial⟩
theorem flat_one {α β : Type} (f : α → β) (l : List α) : l.flatMap (fun a => [f a]) = l.map f := by induction l <;> simp_all

/-- A []byte that came in. -/
def IsBytes (w : World) (A : Option Addr) (n c : Nat) (l : List UInt8) : Prop := l.length = n ∧ Rd w w.heap.size 1 A n (l.map ub) ∧ n ≤ c ∧ c ≤ maxLen
theorem open_bytes {t e : TypeId} {r : Reach} {b0 : Nat} {v : Value} {d : DataW H} {p : List MemPlace} (ht : P.underlying t = some (.slice e)) (he : P.underlying e = some (.int .u8)) (hk : P.cellsOf e = 1)
    (hv : Value.okWide P w r b0 t v) (h : DataW.Trod enc P w 0 spare held t v d p) : ∃ A n c l, v = .slice A n c ∧ IsBytes w A n c l := by
  obtain ⟨A, n, c, l, rfl, h1, h2, h3, h4, _⟩ := open_list (fun c : UInt8 => [ub c]) 1 (fun _ => True) ht hk (by decide) (fun _ => rfl) (open_el_byte he) hv h
  rw [flat_one] at h2
  exact ⟨A, n, c, l, rfl, h1, h2, h3, h4⟩
/-- A []uint64 that came in. -/
def IsU64s (w : World) (A : Option Addr) (n c : Nat) (l : List UInt64) : Prop := l.length = n ∧ Rd w w.heap.size 1 A n (l.map u64) ∧ n ≤ c ∧ c ≤ maxLen
theorem open_u64s {t e : TypeId} {r : Reach} {b0 : Nat} {v : Value} {d : DataW H} {p : List MemPlace} (ht : P.underlying t = some (.slice e)) (he : P.underlying e = some (.int .u64)) (hk : P.cellsOf e = 1)
    (hv : Value.okWide P w r b0 t v) (h : DataW.Trod enc P w 0 spare held t v d p) : ∃ A n c l, v = .slice A n c ∧ IsU64s w A n c l := by
  obtain ⟨A, n, c, l, rfl, h1, h2, h3, h4, _⟩ := open_list (fun c : UInt64 => [u64 c]) 1 (fun _ => True) ht hk (by decide) (fun _ => rfl) (open_el_u64 he) hv h
  rw [flat_one] at h2
  exact ⟨A, n, c, l, rfl, h1, h2, h3, h4⟩
theorem open_u64 {t : TypeId} {r : Reach} {b0 : Nat} {v : Value} {d : DataW H} {p : List MemPlace} (ht : P.underlying t = some (.int .u64)) (hv : Value.okWide P w r b0 t v) (h : DataW.Trod enc P w 0 spare held t v d p) : ∃ x : UInt64, v = u64 x := by
  obtain ⟨z, rfl, rfl, rfl, hw⟩ := open_int ht hv h
  obtain ⟨x, rfl⟩ := u64_of_wf hw
  exact ⟨x, rfl⟩
theorem open_u8 {t : TypeId} {r : Reach} {b0 : Nat} {v : Value} {d : DataW H} {p : List MemPlace} (ht : P.underlying t = some (.int .u8)) (hv : Value.okWide P w r b0 t v) (h : DataW.Trod enc P w 0 spare held t v d p) : ∃ x : UInt8, v = ub x := by
  obtain ⟨z, rfl, rfl, rfl, hw⟩ := open_int ht hv h
  obtain ⟨x, rfl⟩ := u8_of_wf hw
  exact ⟨x, rfl⟩
theorem open_i {t : TypeId} {k : IntKind} {r : Reach} {b0 : Nat} {v : Value} {d : DataW H} {p : List MemPlace} (ht : P.underlying t = some (.int k)) (hv : Value.okWide P w r b0 t v) (h : DataW.Trod enc P w 0 spare held t v d p) : ∃ x : Int, v = .int k x ∧ (Lit.int k x).wf = true := by
  obtain ⟨z, rfl, rfl, rfl, hw⟩ := open_int ht hv h
  exact ⟨z, rfl, hw⟩
end
end Go.Proofs.YtmdogklgbifacaaDoor
