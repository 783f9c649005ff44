/- The walks over lists of places: slices.ContainsFunc with the test of a place; the reference's Places; the tables' comparison. -/
import Derived.Test.YteeloebhjmmpdaaPlWalk
namespace Go.Proofs.Yteeloebhjmmpdaa.Pl
open Go.RowKit

theorem hears1_val (x y : Int) (v : Bool) (hv : vp (x, y) = v) (w : World) :
    Calls Try.prog 37 #[.agg #[i64 x, i64 y]] w fun e w' => e = .returned (.bool (!v)) ∧ Below w.heap.size w w' := by
  have hB := (Below.refl w.heap.size w).alloc (Nat.le_refl _) (.cells #[i64 x, i64 y] 25)
  have HV := Lib.hid hv; clear hv
  go_enter Try.func37, Try.ntmps37
  go_wp2_with fail
  refine (isPlace_val _ _ _ HV.out _).mono ?_
  rintro e w1 ⟨rfl, hb⟩
  go_wp2_with fail
  go_ret
  exact ⟨rfl, hB.trans (hb.mono (by simp))⟩

theorem all_take {l : List Pt} {k : Nat} (hk : k < l.length) : (l.take (k + 1)).all vp = ((l.take k).all vp && vp l[k]) := by
  rw [List.take_succ_eq_append_getElem hk, List.all_append]
  simp
theorem all_of {l : List Pt} {k : Nat} (hk : k < l.length) (h : vp l[k] = false) : l.all vp = false := by
  rw [List.all_eq_false]
  exact ⟨_, List.getElem_mem hk, by simp [h]⟩

theorem idxPlace_val (A : Option Addr) (n c B : Nat) (l : List Pt) (v : Bool) (hv : l.all vp = v) (w : World) (hR : Rd w B 2 A n (l.flatMap decP)) (hB : B ≤ w.heap.size) (hl : l.length = n) (hn : n ≤ maxLen) :
    Calls Try.prog 48 #[.slice A n c, .func (.func 37) #[] #[]] w fun e w' => ∃ z : Int, e = .returned (i64 z) ∧ (if v then z < 0 else 0 ≤ z) ∧ Below w.heap.size w w' := by
  unfold maxLen at hn
  have HV := Lib.hid hv; clear hv
  have HL := Lib.hid hl; clear hl
  go_enter Try.func48, Try.ntmps48
  go_wp2_with fail
  go_loopw [8] (fun i wr => ∃ k : Nat, k ≤ n ∧ i = .int .i64 k ∧ Hid ((l.take k).all vp = true) ∧ Below w.heap.size w wr) (fun i _ => n - (intOf i).toNat)
  case atStart => exact ⟨0, Nat.zero_le _, rfl, rfl, Below.refl _ _⟩
  case round =>
    obtain ⟨k, hk, rfl, HJ, hb⟩ := hrel
    by_cases hlt : k < n
    · have hkl : k < l.length := by have := HL.out; omega
      obtain ⟨b, off, rfl, hbB, hc⟩ := rd_el (dec := decP) (fun _ => rfl) (hR.below' hb hB) HL.out hkl
      have c0 : wr.cell? ⟨b, off + k * 2, none⟩ = some (i64 l[k].1) := hc 0 _ rfl
      have c1 : wr.cell? ⟨b, off + k * 2 + 1, none⟩ = some (i64 l[k].2) := hc 1 _ rfl
      clear hc
      cases hj : vp l[k]
      · have hv : v = false := by rw [← HV.out]; exact all_of hkl hj
        subst hv
        have Hj := Lib.hid hj; clear hj
        go_wp2_with fail
        refine (hears1_val _ _ _ Hj.out _).mono ?_
        rintro e w1 ⟨rfl, hb1⟩
        have hb2 := below_trans' hb hb1
        go_wp2_with fail
        go_ret
        exact ⟨_, rfl, by simp, hb2⟩
      · have HK : Hid ((l.take (k + 1)).all vp = true) := by
          have := HJ.out
          show _ = _
          rw [all_take hkl, this, hj]; rfl
        have Hj := Lib.hid hj; clear hj
        go_wp2_with fail
        refine (hears1_val _ _ _ Hj.out _).mono ?_
        rintro e w1 ⟨rfl, hb1⟩
        have hb2 := below_trans' hb hb1
        go_wp2_with fail
        go_roundw
        case rel => exact ⟨k + 1, by omega, by go_num, HK, hb2⟩
        case measure => simp [intOf]; omega
    · have hv : v = true := by
        rw [← HV.out, ← HJ.out]
        have : k = l.length := by have := HL.out; omega
        rw [this, List.take_length]
      subst hv
      go_wp2_with fail
      go_ret
      exact ⟨_, rfl, by simp, hb⟩

theorem containsPlace_val (A : Option Addr) (n c B : Nat) (l : List Pt) (v : Bool) (hv : l.all vp = v) (w : World) (hR : Rd w B 2 A n (l.flatMap decP)) (hB : B ≤ w.heap.size) (hl : l.length = n) (hn : n ≤ maxLen) :
    Calls Try.prog 36 #[.slice A n c, .func (.func 37) #[] #[]] w fun e w' => e = .returned (.bool (!v)) ∧ Below w.heap.size w w' := by
  have H := Lib.hid (idxPlace_val A n c B l v hv w hR hB hl hn)
  clear hv hR hl
  go_enter Try.func36, Try.ntmps36
  go_wp2_with fail
  refine H.out.mono ?_
  rintro e w1 ⟨z, rfl, hz, hb⟩
  cases v
  · have hz : 0 ≤ z := by simpa using hz
    go_wp2_with fail
    go_ret
    exact ⟨rb (by simp), hb⟩
  · have hz : z < 0 := by simpa using hz
    go_wp2_with fail
    go_ret
    exact ⟨rb (by simp; omega), hb⟩

/-- The reference's Places. -/
theorem refPlaces_val (A : Option Addr) (n c B : Nat) (l : List Pt) (r : Int) (v : Bool) (hv : okp l r = v) (w : World) (hR : Rd w B 2 A n (l.flatMap decP)) (hB : B ≤ w.heap.size) (hl : l.length = n) (hn : n ≤ maxLen) :
    Calls Try.prog 27 #[.slice A n c, i64 r] w fun e w' => e = .returned (.bool v) ∧ Below w.heap.size w w' := by
  unfold maxLen at hn
  have HV := Lib.hid hv; clear hv
  have HL := Lib.hid hl; clear hl
  go_enter Try.func27, Try.ntmps27
  go_wp2_with fail
  go_loopw [5] (fun i wr => ∃ k : Nat, k ≤ n ∧ i = .int .i64 k ∧ Hid ((l.take k).all vp = true) ∧ Below w.heap.size w wr) (fun i _ => n - (intOf i).toNat)
  case atStart => exact ⟨0, Nat.zero_le _, rfl, rfl, Below.refl _ _⟩
  case round =>
    obtain ⟨k, hk, rfl, HJ, hb⟩ := hrel
    by_cases hlt : k < n
    · have hkl : k < l.length := by have := HL.out; omega
      obtain ⟨b, off, rfl, hbB, hc⟩ := rd_el (dec := decP) (fun _ => rfl) (hR.below' hb hB) HL.out hkl
      have c0 : wr.cell? ⟨b, off + k * 2, none⟩ = some (i64 l[k].1) := hc 0 _ rfl
      have c1 : wr.cell? ⟨b, off + k * 2 + 1, none⟩ = some (i64 l[k].2) := hc 1 _ rfl
      clear hc
      cases hj : vp l[k]
      · have hv : v = false := by rw [← HV.out]; unfold okp; rw [all_of hkl hj]; simp
        subst hv
        have Hj := Lib.hid hj; clear hj
        go_wp2_with fail
        refine (refValid_val _ _ _ Hj.out _).mono ?_
        rintro e w1 ⟨rfl, hb1⟩
        have hb2 := below_trans' hb hb1
        go_wp2_with fail
        go_ret
        exact ⟨rfl, hb2⟩
      · have HK : Hid ((l.take (k + 1)).all vp = true) := by
          have := HJ.out
          show _ = _
          rw [all_take hkl, this, hj]; rfl
        have Hj := Lib.hid hj; clear hj
        go_wp2_with fail
        refine (refValid_val _ _ _ Hj.out _).mono ?_
        rintro e w1 ⟨rfl, hb1⟩
        have hb2 := below_trans' hb hb1
        go_wp2_with fail
        go_roundw
        case rel => exact ⟨k + 1, by omega, by go_num, HK, hb2⟩
        case measure => simp [intOf]; omega
    · have hv : v = (decide (n ≤ 60) && (decide (0 ≤ r) && decide (r ≤ 20000))) := by
        have hkl : k = l.length := by have := HL.out; omega
        have ha : l.all vp = true := by rw [← HJ.out, hkl, List.take_length]
        have := HL.out
        rw [← HV.out]
        unfold okp inr
        rw [ha, this]
        simp
      have HV2 := Lib.hid hv; clear hv HV
      by_cases h1 : n ≤ 60
      · by_cases h2 : 0 ≤ r
        · go_wp2_with fail
          go_ret
          exact ⟨rb (by rw [HV2.out]; simp [h1, h2]), hb⟩
        · go_wp2_with fail
          go_ret
          exact ⟨rb (by rw [HV2.out]; simp; intros; omega), hb⟩
      · go_wp2_with fail
        go_ret
        exact ⟨rb (by rw [HV2.out]; simp [h1]), hb⟩

/-- A table of truth values: each row a slice of its own. -/
def Tab (w : World) (B : Nat) (A : Option Addr) (n : Nat) (L : List (List Bool)) : Prop :=
  L.length = n ∧ ∃ R : Nat → Option Addr × Nat, Rd w B 1 A n ((List.range n).map fun i => Value.slice (R i).1 (L.getD i []).length (R i).2) ∧
    ∀ i, i < n → (L.getD i []).length ≤ maxLen ∧ Rd w B 1 (R i).1 (L.getD i []).length ((L.getD i []).map Value.bool)
theorem Tab.up {w w' : World} {A : Option Addr} {n : Nat} {L : List (List Bool)} (h : Tab w w.heap.size A n L) (hb : Below w.heap.size w w') : Tab w' w'.heap.size A n L := by
  obtain ⟨h1, R, h2, h3⟩ := h
  exact ⟨h1, R, h2.up hb, fun i hi => ⟨(h3 i hi).1, (h3 i hi).2.up hb⟩⟩
theorem tab_nil (w : World) (B : Nat) : Tab w B none 0 [] := ⟨rfl, fun _ => (none, 0), Rd.nil_, fun i hi => by omega⟩
theorem Tab.row {w : World} {B : Nat} {A : Option Addr} {n : Nat} {L : List (List Bool)} (h : Tab w B A n L) {i : Nat} (hi : i < n) :
    ∃ (row : List Bool) (b off : Nat) (Ai : Option Addr) (ci : Nat), Hid (L.getD i [] = row) ∧ A = some ⟨b, off, none⟩ ∧ w.cell? ⟨b, off + i, none⟩ = some (.slice Ai row.length ci) ∧ row.length ≤ maxLen ∧ Rd w B 1 Ai row.length (row.map Value.bool) := by
  obtain ⟨h1, R, h2, h3⟩ := h
  obtain ⟨b, off, u, e, hb, hu, hc⟩ := h2.at_ hi
  rw [List.getElem?_map, List.getElem?_range hi] at hu
  simp only [Option.map_some, Option.some.injEq] at hu
  subst hu
  exact ⟨_, b, off, _, _, rfl, e, hc, (h3 i hi).1, (h3 i hi).2⟩
theorem row_at {w : World} {B : Nat} {A : Option Addr} {row : List Bool} (h : Rd w B 1 A row.length (row.map Value.bool)) {k : Nat} (hk : k < row.length) :
    ∃ b off, A = some ⟨b, off, none⟩ ∧ w.cell? ⟨b, off + k, none⟩ = some (.bool row[k]) := by
  obtain ⟨b, off, u, e, hb, hu, hc⟩ := h.at_ hk
  rw [List.getElem?_map, List.getElem?_eq_getElem hk] at hu
  simp only [Option.map_some, Option.some.injEq] at hu
  subst hu
  exact ⟨b, off, e, hc⟩

theorem refSame_val (A1 : Option Addr) (n1 c1 B1 : Nat) (L1 : List (List Bool)) (A2 : Option Addr) (n2 c2 B2 : Nat) (L2 : List (List Bool)) (v : Bool) (hv : decide (L1 = L2) = v) (w : World) (T1 : Tab w B1 A1 n1 L1) (T2 : Tab w B2 A2 n2 L2) (hn1 : n1 ≤ maxLen) (hn2 : n2 ≤ maxLen) :
    Calls Try.prog 20 #[.slice A1 n1 c1, .slice A2 n2 c2] w fun e w' => e = .returned (.bool v) ∧ Below w.heap.size w w' := by
  unfold maxLen at hn1 hn2
  have HV := Lib.hid hv; clear hv
  have HT1 := Lib.hid T1; clear T1
  have HT2 := Lib.hid T2; clear T2
  by_cases hne : n1 = n2
  · subst hne
    go_enter Try.func20, Try.ntmps20
    go_wp2_with fail
    go_loopw [5] (fun i wr => ∃ k d : Nat, k ≤ n1 ∧ i = .int .i64 k ∧ Hid (∀ j, j < k → L1.getD j [] = L2.getD j []) ∧ Hid (wr = w.drewN d)) (fun i _ => n1 - (intOf i).toNat)
    case atStart => exact ⟨0, 0, Nat.zero_le _, rfl, fun j hj => absurd hj (by omega), rfl⟩
    case round =>
      obtain ⟨i, d, hi, rfl, HJ, HW⟩ := hrel
      obtain rfl := HW.out
      clear HW
      by_cases hlt : i < n1
      · obtain ⟨x1, b1, o1, P1, q1, E1, rfl, e1, m1, r1⟩ := HT1.out.row hlt
        obtain ⟨x2, b2, o2, P2, q2, E2, rfl, e2, m2, r2⟩ := HT2.out.row hlt
        unfold maxLen at m1 m2
        have H1 := Lib.hid r1; clear r1
        have H2 := Lib.hid r2; clear r2
        by_cases hlen : x1.length = x2.length
        · have hl : ((x1.length : Int) != (x2.length : Int)) = false := by rw [hlen]; simp
          have HN := Lib.hid hlen; clear hlen
          go_wp2_with fail
          go_quiet (fail)
          go_wp2_with fail
          go_loopw [6] (fun i wr => ∃ k d : Nat, k ≤ x1.length ∧ i = .int .i64 k ∧ Hid (x1.take k = x2.take k) ∧ Hid (wr = w.drewN d)) (fun i _ => x1.length - (intOf i).toNat)
          case atStart => exact ⟨0, _, Nat.zero_le _, rfl, rfl, World.drewN_drewN _ _ _⟩
          case round =>
            obtain ⟨k, d3, hk, rfl, HK, HW⟩ := hrel
            obtain rfl := HW.out
            clear HW
            by_cases hk1 : k < x1.length
            · have hk2 : k < x2.length := by have := HN.out; omega
              obtain ⟨s1, p1, rfl, c1⟩ := row_at H1.out hk1
              obtain ⟨s2, p2, rfl, c2⟩ := row_at H2.out hk2
              by_cases hel : x1[k] = x2[k]
              · have he : (x1[k] == x2[k]) = true := by rw [hel]; simp
                have HK2 : Hid (x1.take (k + 1) = x2.take (k + 1)) := by
                  have := HK.out
                  show _ = _
                  rw [List.take_succ_eq_append_getElem hk1, List.take_succ_eq_append_getElem hk2, this, hel]
                clear hel
                go_wp2_with fail
                go_quiet (fail)
                go_wp2_with fail
                go_roundw
                case rel => exact ⟨k + 1, _, by omega, by go_num, HK2, rfl⟩
                case measure => simp [intOf]; omega
              · have he : (x1[k] == x2[k]) = false := by simpa using hel
                have hv : v = false := by
                  rw [← HV.out]
                  refine decide_eq_false (fun e => hel ?_)
                  have h1 := E1.out
                  have h2 := E2.out
                  rw [e, h2] at h1
                  simp [h1]
                subst hv
                clear hel
                go_wp2_with fail
                go_quiet (fail)
                go_wp2_with fail
                go_ret
                exact ⟨rfl, below_drewN' (below_drewN' (Below.refl _ _) _) _⟩
            · have HJ2 : Hid (∀ j, j < i + 1 → L1.getD j [] = L2.getD j []) := fun j hj => by
                by_cases hji : j < i
                · exact HJ.out j hji
                · obtain rfl : j = i := by omega
                  rw [E1.out, E2.out]
                  have h1 := HK.out
                  have h2 := HN.out
                  rwa [List.take_of_length_le (by omega), List.take_of_length_le (by omega)] at h1
              go_wp2_with fail
              go_roundw
              case rel => exact ⟨i + 1, _, by omega, by go_num, HJ2, rfl⟩
              case measure => simp [intOf]; omega
        · have hl : ((x1.length : Int) != (x2.length : Int)) = true := by rw [bne_iff_ne]; omega
          have hv : v = false := by
            rw [← HV.out]
            refine decide_eq_false (fun e => hlen ?_)
            rw [← E1.out, ← E2.out, e]
          subst hv
          clear hlen
          go_wp2_with fail
          go_quiet (fail)
          go_wp2_with fail
          go_ret
          exact ⟨rfl, below_drewN' (below_drewN' (Below.refl _ _) _) _⟩
      · have hv : v = true := by
          rw [← HV.out]
          refine decide_eq_true ?_
          have h1 := HT1.out.1
          have h2 := HT2.out.1
          have h3 := HJ.out
          refine List.ext_getElem (by omega) (fun j hj1 hj2 => ?_)
          have := h3 j (by omega)
          simpa [List.getD, hj1, hj2] using this
        subst hv
        go_wp2_with fail
        go_ret
        exact ⟨rfl, below_drewN' (Below.refl _ _) _⟩
  · have hl : ((n1 : Int) != (n2 : Int)) = true := by rw [bne_iff_ne]; omega
    have hv : v = false := by
      rw [← HV.out]
      refine decide_eq_false (fun e => hne ?_)
      rw [← HT1.out.1, ← HT2.out.1, e]
    subst hv
    clear hne
    go_enter Try.func20, Try.ntmps20
    go_wp2_with fail
    go_ret
    exact ⟨rfl, Below.refl _ _⟩

/-- square: as many rows and columns as a number. -/
theorem square_val (A : Option Addr) (n c B : Nat) (L : List (List Bool)) (m : Nat) (hm : m = n) (hsq : ∀ i, i < n → (L.getD i []).length = m) (w : World) (T : Tab w B A n L) (hn : n ≤ maxLen) :
    Calls Try.prog 25 #[.slice A n c, i64 m] w fun e w' => e = .returned (.bool true) ∧ w = w' := by
  unfold maxLen at hn
  subst hm
  have HT := Lib.hid T; clear T
  have HS := Lib.hid hsq; clear hsq
  go_enter Try.func25, Try.ntmps25
  go_wp2_with fail
  go_loop [5] (fun i => ∃ k : Nat, k ≤ m ∧ i = .int .i64 k) (fun i => m - (intOf i).toNat)
  case atStart => exact ⟨0, Nat.zero_le _, rfl⟩
  case round =>
    obtain ⟨i, hi, rfl⟩ := hrel
    by_cases hlt : i < m
    · obtain ⟨x1, b1, o1, P1, q1, E1, rfl, e1, m1, r1⟩ := HT.out.row hlt
      have hx := HS.out i hlt
      rw [E1.out] at hx
      have hl : ((x1.length : Int) != (m : Int)) = false := by rw [hx]; simp
      clear hx r1
      go_wp2_with fail
      go_round
      case rel => exact ⟨i + 1, by omega, by go_num⟩
      case measure => simp [intOf]; omega
    · go_wp2_with fail
      go_ret
      exact ⟨rfl, rfl⟩
end Go.Proofs.Yteeloebhjmmpdaa.Pl
