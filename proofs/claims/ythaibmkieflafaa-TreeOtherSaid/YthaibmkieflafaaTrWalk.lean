/- The small walks of package tree and of its reference. -/
import Derived.Test.YthaibmkieflafaaDigHead
import Derived.Test.YthaibmkieflafaaApp
import Derived.Test.YthaibmkieflafaaTrPlain2
namespace Go.Proofs.Ythaibmkieflafaa.Tr
open Go.RowKit Go.Proofs.Ythaibmkieflafaa.Dig
set_option linter.unusedVariables false

abbrev i64 (x : Int) : Value := .int .i64 x
/-- A page as a value: where it lies, how long it is, and its bytes. -/
structure Pg where
  A : Option Addr
  n : Nat
  c : Nat
  b : List UInt8
def Pg.v (p : Pg) : Value := .slice p.A p.n p.c
/-- A page lies below block B. -/
def Pg.In (w : World) (B : Nat) (p : Pg) : Prop := Rd w B 1 p.A p.n (p.b.map ub) ∧ p.n ≤ maxLen
/-- A slice of pages. -/
def Pgs (w : World) (B : Nat) (A : Option Addr) (n : Nat) (l : List Pg) : Prop := Rd w B 1 A n (l.map Pg.v) ∧ ∀ p ∈ l, p.In w B
theorem Pg.In.len {w : World} {B : Nat} {p : Pg} (h : p.In w B) : p.b.length = p.n := by simpa using h.1.1
theorem Pg.In.below' {w w' : World} {B B' : Nat} {p : Pg} (h : p.In w B) (hb : Below B' w w') (hB : B ≤ B') : p.In w' B := ⟨h.1.below' hb hB, h.2⟩
theorem Pg.In.more {w : World} {B B' : Nat} {p : Pg} (h : p.In w B) (hB : B ≤ B') : p.In w B' := ⟨h.1.more hB, h.2⟩
theorem Pgs.len {w : World} {B : Nat} {A : Option Addr} {n : Nat} {l : List Pg} (h : Pgs w B A n l) : l.length = n := by simpa using h.1.1
theorem Pgs.below' {w w' : World} {B B' : Nat} {A : Option Addr} {n : Nat} {l : List Pg} (h : Pgs w B A n l) (hb : Below B' w w') (hB : B ≤ B') : Pgs w' B A n l := ⟨h.1.below' hb hB, fun p hp => (h.2 p hp).below' hb hB⟩
theorem Pgs.more {w : World} {B B' : Nat} {A : Option Addr} {n : Nat} {l : List Pg} (h : Pgs w B A n l) (hB : B ≤ B') : Pgs w B' A n l := ⟨h.1.more hB, fun p hp => (h.2 p hp).more hB⟩
theorem Pgs.up {w w' : World} {A : Option Addr} {n : Nat} {l : List Pg} (h : Pgs w w.heap.size A n l) (hb : Below w.heap.size w w') : Pgs w' w'.heap.size A n l := (h.below' hb (Nat.le_refl _)).more hb.size
theorem Pgs.at_ {w : World} {B : Nat} {A : Option Addr} {n : Nat} {l : List Pg} (h : Pgs w B A n l) {k : Nat} (hk : k < n) : ∃ b off, A = some ⟨b, off, none⟩ ∧ b < B ∧ ∃ hl : k < l.length, w.cell? ⟨b, off + k, none⟩ = some (.slice l[k].A l[k].n l[k].c) := by
  obtain ⟨b, off, u, e, hb, hx, hc⟩ := h.1.at_ hk
  have hl : k < l.length := by rw [h.len]; exact hk
  refine ⟨b, off, e, hb, hl, ?_⟩
  rw [List.getElem?_map, List.getElem?_eq_getElem hl] at hx
  rw [hc, ← hx]; rfl
/-- Whether strings are pages. -/
def okp (l : List Pg) : Bool := decide (1 ≤ l.length) && (decide (l.length ≤ 16) && l.all fun p => decide (p.n ≤ 256))
def lvs (l : List Pg) : List UInt64 := l.map fun p => leaf p.b
theorem lvs_length (l : List Pg) : (lvs l).length = l.length := by simp [lvs]

theorem pages1_val (A : Option Addr) (n c : Nat) (v : Bool) (hv : decide (n ≤ 256) = v) (w : World) :
    Calls Try.prog 51 #[.slice A n c] w fun e w' => e = .returned (.bool (!v)) ∧ w = w' := by
  have HV := Lib.hid hv; clear hv
  go_enter Try.func51, Try.ntmps51
  go_wp2_with fail
  go_ret
  refine ⟨rb ?_, rfl⟩
  rw [← HV.out, ← decide_not]
  congr 1
  apply propext
  omega

def sm (p : Pg) : Bool := decide (p.n ≤ 256)
theorem all_take {l : List Pg} {k : Nat} (hk : k < l.length) : (l.take (k + 1)).all sm = ((l.take k).all sm && sm l[k]) := by
  rw [List.take_succ_eq_append_getElem hk, List.all_append]
  simp
theorem all_of {l : List Pg} {k : Nat} (hk : k < l.length) (h : sm l[k] = false) : l.all sm = false := by
  rw [List.all_eq_false]
  exact ⟨_, List.getElem_mem hk, by simp [h]⟩

theorem idxPage_val (A : Option Addr) (n c B : Nat) (l : List Pg) (v : Bool) (hv : l.all sm = v) (w : World) (hR : Pgs w B A n l) (hn : n ≤ maxLen) :
    Calls Try.prog 55 #[.slice A n c, .func (.func 51) #[] #[]] w fun e w' => ∃ z : Int, e = .returned (i64 z) ∧ (if v then z < 0 else 0 ≤ z) ∧ w = w' := by
  unfold maxLen at hn
  have HV := Lib.hid hv; clear hv
  have HR := Lib.hid hR; clear hR
  go_enter Try.func55, Try.ntmps55
  go_wp2_with fail
  go_loopw [8] (fun i wr => ∃ k : Nat, k ≤ n ∧ i = .int .i64 k ∧ Hid ((l.take k).all sm = true) ∧ w = wr) (fun i _ => n - (intOf i).toNat)
  case atStart => exact ⟨0, Nat.zero_le _, rfl, rfl, rfl⟩
  case round =>
    obtain ⟨k, hk, rfl, HJ, rfl⟩ := hrel
    by_cases hlt : k < n
    · obtain ⟨b, off, rfl, hbB, hkl, hc⟩ := HR.out.at_ hlt
      cases hj : sm l[k]
      · have hv : v = false := by rw [← HV.out]; exact all_of hkl hj
        subst hv
        have Hj := Lib.hid hj; clear hj
        go_wp2_with fail
        refine (pages1_val _ _ _ _ Hj.out _).mono ?_
        rintro e w1 ⟨rfl, rfl⟩
        go_wp2_with fail
        go_ret
        exact ⟨_, rfl, by simp, rfl⟩
      · have HK : Hid ((l.take (k + 1)).all sm = true) := by
          have := HJ.out
          show _ = _
          rw [all_take hkl, this, hj]; rfl
        have Hj := Lib.hid hj; clear hj
        go_wp2_with fail
        refine (pages1_val _ _ _ _ Hj.out _).mono ?_
        rintro e w1 ⟨rfl, rfl⟩
        go_wp2_with fail
        go_roundw
        case rel => exact ⟨k + 1, by omega, by go_num, HK, trivial⟩
        case measure => simp [intOf]; omega
    · have hv : v = true := by
        rw [← HV.out, ← HJ.out]
        have : k = l.length := by have := HR.out.len; omega
        rw [this, List.take_length]
      subst hv
      go_wp2_with fail
      go_ret
      exact ⟨_, rfl, by simp, rfl⟩

theorem containsPage_val (A : Option Addr) (n c B : Nat) (l : List Pg) (v : Bool) (hv : l.all sm = v) (w : World) (hR : Pgs w B A n l) (hn : n ≤ maxLen) :
    Calls Try.prog 50 #[.slice A n c, .func (.func 51) #[] #[]] w fun e w' => e = .returned (.bool (!v)) ∧ w = w' := by
  have H := Lib.hid (idxPage_val A n c B l v hv w hR hn)
  clear hv hR
  go_enter Try.func50, Try.ntmps50
  go_wp2_with fail
  refine H.out.mono ?_
  rintro e w1 ⟨z, rfl, hz, rfl⟩
  cases v
  · have hz : 0 ≤ z := by simpa using hz
    go_wp2_with fail
    go_ret
    exact ⟨rb (by simp), rfl⟩
  · have hz : z < 0 := by simpa using hz
    go_wp2_with fail
    go_ret
    exact ⟨rb (by simp; omega), rfl⟩

theorem arePages_val (A : Option Addr) (n c B : Nat) (l : List Pg) (v : Bool) (hv : okp l = v) (w : World) (hR : Pgs w B A n l) (hn : n ≤ maxLen) :
    Calls Try.prog 40 #[.slice A n c] w fun e w' => e = .returned (.bool v) ∧ w = w' := by
  have hl := hR.len
  have H := Lib.hid (containsPage_val A n c B l (l.all sm) rfl w hR hn)
  have hv' : v = (decide (1 ≤ n) && (decide (n ≤ 16) && l.all sm)) := by rw [← hv, ← hl]; rfl
  clear hv
  generalize l.all sm = a at *
  clear hl hR
  by_cases h0 : 1 ≤ n
  · by_cases h1 : n ≤ 16
    · obtain rfl : v = a := by rw [hv']; simp [h0, h1]
      clear hv'
      go_enter Try.func40, Try.ntmps40
      go_wp2_with fail
      refine H.out.mono ?_
      rintro e w1 ⟨rfl, rfl⟩
      go_wp2_with fail
      go_ret
      exact ⟨rb (by simp), rfl⟩
    · obtain rfl : v = false := by rw [hv']; simp [h1]
      clear hv' H
      go_enter Try.func40, Try.ntmps40
      go_wp2_with fail
      go_ret
      exact ⟨rfl, rfl⟩
  · obtain rfl : v = false := by rw [hv']; simp [h0]
    clear hv' H
    obtain rfl : n = 0 := by omega
    go_enter Try.func40, Try.ntmps40
    go_wp2_with fail
    go_ret
    exact ⟨rfl, rfl⟩

theorem refPages_val (A : Option Addr) (n c B : Nat) (l : List Pg) (v : Bool) (hv : okp l = v) (w : World) (hR : Pgs w B A n l) (hn : n ≤ maxLen) :
    Calls Try.prog 36 #[.slice A n c] w fun e w' => e = .returned (.bool v) ∧ w = w' := by
  have HV : Hid (v = (decide (1 ≤ n) && (decide (n ≤ 16) && l.all sm))) := by show _ = _; rw [← hv, ← hR.len]; rfl
  clear hv
  unfold maxLen at hn
  have HR := Lib.hid hR; clear hR
  by_cases h0 : 1 ≤ n
  · by_cases h1 : n ≤ 16
    · go_enter Try.func36, Try.ntmps36
      go_wp2_with fail
      go_loop [3] (fun i => ∃ k : Nat, k ≤ n ∧ i = .int .i64 k ∧ Hid ((l.take k).all sm = true)) (fun i => n - (intOf i).toNat)
      case atStart => exact ⟨0, Nat.zero_le _, rfl, rfl⟩
      case round =>
        obtain ⟨k, hk, rfl, HJ⟩ := hrel
        by_cases hlt : k < n
        · obtain ⟨b, off, rfl, hbB, hkl, hc⟩ := HR.out.at_ hlt
          cases hj : sm l[k]
          · have hv : v = false := by rw [HV.out, all_of hkl hj]; simp
            subst hv
            have h2 : ¬ l[k].n ≤ 256 := of_decide_eq_false hj
            clear hj
            have h3 : (256 : Int) < l[k].n := by omega
            go_wp2_with fail
            go_ret
            exact ⟨rfl, rfl⟩
          · have HK : Hid ((l.take (k + 1)).all sm = true) := by
              have := HJ.out
              show _ = _
              rw [all_take hkl, this, hj]; rfl
            have h2 : l[k].n ≤ 256 := of_decide_eq_true hj
            clear hj
            go_wp2_with fail
            go_round
            case rel => exact ⟨k + 1, by omega, by go_num, HK⟩
            case measure => simp [intOf]; omega
        · have hv : v = true := by
            rw [HV.out]
            have : k = l.length := by have := HR.out.len; omega
            have h2 := HJ.out
            rw [this, List.take_length] at h2
            simp [h0, h1, h2]
          subst hv
          go_wp2_with fail
          go_ret
          exact ⟨rfl, rfl⟩
    · obtain rfl : v = false := by rw [HV.out]; simp [h1]
      go_enter Try.func36, Try.ntmps36
      go_wp2_with fail
      go_ret
      exact ⟨rfl, rfl⟩
  · obtain rfl : v = false := by rw [HV.out]; simp [h0]
    obtain rfl : n = 0 := by omega
    go_enter Try.func36, Try.ntmps36
    go_wp2_with fail
    go_ret
    exact ⟨rfl, rfl⟩

theorem sum0 (w : World) : Calls Try.prog 20 #[.slice (some ⟨w.heap.size, 0, none⟩) 1 1] (w.alloc (.cells #[ub 0] 5)) fun e w' => e = .returned (u64 (dsum [0])) ∧ Below w.heap.size w w' :=
  (sum_any _ 1 1 [0] _ (Rd.new w _ _ _ 1 1 rfl) (by decide)).mono fun _ _ ⟨h, hb⟩ => ⟨h, ext1 (Below.refl _ w) _ hb⟩
theorem refSum0 (w : World) : Calls Try.prog 21 #[.slice (some ⟨w.heap.size, 0, none⟩) 1 1] (w.alloc (.cells #[ub 0] 5)) fun e w' => e = .returned (u64 (dsum [0])) ∧ Below w.heap.size w w' :=
  (ref_sum_any _ 1 1 _ [0] _ (Rd.new w _ _ _ 1 1 rfl) (by decide)).mono fun _ _ ⟨h, hb⟩ => ⟨h, by rw [← hb]; exact (Below.refl _ w).alloc (Nat.le_refl _) _⟩
theorem leafOf (p : List UInt8) : dadd (dsum [0]) p = leaf p := rfl

theorem lawLeaf_val (A : Option Addr) (n c : Nat) (p : List UInt8) (w : World) (hR : Rd w w.heap.size 1 A n (p.map ub)) (hn : n ≤ maxLen) :
    Calls Try.prog 35 #[.slice A n c] w fun e w' => e = .returned (u64 (leaf p)) ∧ Below w.heap.size w w' := by
  go_enter Try.func35, Try.ntmps35
  go_wp2_with fail
  refine (sum0 w).mono ?_
  rintro e w1 ⟨rfl, hb1⟩
  go_wp2_with fail
  refine (add_any _ _ _ _ p _ (hR.up hb1) hn).mono ?_
  rintro e w2 ⟨rfl, hb2⟩
  go_wp2_with fail
  go_ret
  exact ⟨rfl, below_trans' hb1 hb2⟩
theorem refLeaf_val (A : Option Addr) (n c B : Nat) (p : List UInt8) (w : World) (hR : Rd w B 1 A n (p.map ub)) (hB : B ≤ w.heap.size) (hn : n ≤ maxLen) :
    Calls Try.prog 48 #[.slice A n c] w fun e w' => e = .returned (u64 (leaf p)) ∧ Below w.heap.size w w' := by
  go_enter Try.func48, Try.ntmps48
  go_wp2_with fail
  refine (refSum0 w).mono ?_
  rintro e w1 ⟨rfl, hb1⟩
  go_wp2_with fail
  refine (ref_add_any _ _ _ _ B p _ (hR.below' hb1 hB) hn).mono ?_
  rintro e w2 ⟨rfl, rfl⟩
  go_wp2_with fail
  go_ret
  exact ⟨rfl, hb1⟩

theorem leaf_val (P A : Option Addr) (n c d B : Nat) (p : List UInt8) (w : World) (hP : Rd w B 1 P 1 [.slice A n c]) (hR : Rd w B 1 A n (p.map ub)) (hB : B ≤ w.heap.size) (hn : n ≤ maxLen) :
    Calls Try.prog 45 #[.slice P 1 d] w fun e w' => e = .returned (u64 (leaf p)) ∧ Below w.heap.size w w' := by
  go_enter Try.func45, Try.ntmps45
  go_wp2_with fail
  refine (sum0 w).mono ?_
  rintro e w1 ⟨rfl, hb1⟩
  go_wp2_with fail
  go_loopw [3, 10] (fun x i wr => ((i = i64 0 ∧ x = u64 (dsum [0])) ∨ (i = i64 1 ∧ x = u64 (leaf p))) ∧ Below w.heap.size w wr) (fun _ i _ => 1 - (intOf i).toNat)
  case atStart => exact ⟨.inl ⟨rfl, rfl⟩, hb1⟩
  case round =>
    obtain ⟨⟨rfl, rfl⟩ | ⟨rfl, rfl⟩, hb⟩ := hrel
    · obtain ⟨b, off, u, rfl, hb', hx, hc⟩ := (hP.below' hb hB).at_ (k := 0) (by omega)
      obtain rfl : Value.slice A n c = u := by simpa using hx
      clear hx
      rw [Nat.add_zero] at hc
      go_wp2_with fail
      refine (add_any _ _ _ _ p _ ((hR.below' hb hB).more (Nat.le_trans hB hb.size)) hn).mono ?_
      rintro e w2 ⟨rfl, hb2⟩
      go_wp2_with fail
      go_roundw
      case rel => exact ⟨.inr ⟨rfl, rfl⟩, below_trans' hb hb2⟩
      case measure => simp [intOf]
    · go_wp2_with fail
      go_ret
      exact ⟨rfl, hb⟩
end Go.Proofs.Ythaibmkieflafaa.Tr
