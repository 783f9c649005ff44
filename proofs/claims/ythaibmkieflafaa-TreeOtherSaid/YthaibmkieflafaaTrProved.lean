/- few and proved; pages that came in. -/
import Derived.Test.YthaibmkieflafaaOpen
import Derived.Test.YthaibmkieflafaaTrHead
namespace Go.Proofs.Ythaibmkieflafaa.Tr
open Go.RowKit Go.Proofs.Ythaibmkieflafaa.Dig Go.ChangeShapes Go.WideShapes Go.Deep
set_option linter.unusedVariables false

theorem few_val (A : Option Addr) (n c B : Nat) (l : List Pg) (w : World) (hR : Pgs w B A n l) (hn : n ≤ maxLen) :
    Calls Try.prog 26 #[.slice A n c] w fun e w' => ∃ b : Bool, e = .returned (.bool b) ∧ w = w' := by
  unfold maxLen at hn
  have HR := Lib.hid hR; clear hR
  go_enter Try.func26, Try.ntmps26
  go_wp2_with fail
  go_loop [3, 8] (fun s i => ∃ (k : Nat) (z : Int), k ≤ n ∧ i = .int .i64 k ∧ s = i64 z) (fun _ i => n - (intOf i).toNat)
  case atStart => exact ⟨0, 0, Nat.zero_le _, rfl, rfl⟩
  case round =>
    obtain ⟨k, z, hk, rfl, rfl⟩ := hrel
    by_cases hlt : k < n
    · obtain ⟨b, off, rfl, hbB, hkl, hc⟩ := HR.out.at_ hlt
      go_wp2_with fail
      go_round
      case rel => exact ⟨k + 1, _, by omega, by go_num, rfl⟩
      case measure => simp [intOf]; omega
    · go_wp2_with fail
      all_goals
        go_ret
        refine ⟨?_, rfl⟩
        first
          | exact .inl rfl
          | (by_cases h5 : z ≤ 5000
             · exact .inr (rb (by simp [h5]))
             · exact .inl (rb (by simp [h5])))

theorem results4 {P : Program} {fn : Func} {a b c d : Tmp} (h : fn.results = #[.tmp a, .tmp b, .tmp c, .tmp d]) (tmps : Array Value) (w : World) :
    (results fn tmps).run P w = .ok (.tuple #[tmps.getD a undef, tmps.getD b undef, tmps.getD c undef, tmps.getD d undef]) w := by
  simp [results, h, go_sem]

set_option maxHeartbeats 1000000 in
/-- proved: what it returns. -/
theorem proved_val (A : Option Addr) (n c : Nat) (l : List Pg) (pick : UInt8) (w : World) (hR : Pgs w w.heap.size A n l) (hn : n ≤ maxLen) :
    Calls Try.prog 34 #[.slice A n c, ub pick] w fun e w' => Below w.heap.size w w' ∧
      (e = .returned (.tuple #[u64 0, i64 0, .slice none 0 0, .bool false]) ∨
       (okp l = true ∧ ∃ X m k, e = .returned (.tuple #[u64 (top (lvs l)), i64 (pick.toNat % n : Nat), .slice X m k, .bool true]) ∧ m = (prf (lvs l) (pick.toNat % n)).length ∧ Rd w' w'.heap.size 1 X m ((prf (lvs l) (pick.toNat % n)).map u64) ∧ m ≤ k ∧ k ≤ maxLen)) := by
  have HF := Lib.hid (few_val A n c _ l w hR hn)
  cases hok : okp l with
  | false =>
    have HP := Lib.hid (refPages_val A n c _ l false hok w hR hn)
    go_enter Try.func34, Try.ntmps34
    go_wp2_with fail
    refine HF.out.mono ?_
    rintro e w1 ⟨fb, rfl, rfl⟩
    cases fb with
    | false =>
      go_wp2_with fail
      exact bodyPost_ret (results4 rfl _ _) rfl ⟨Below.refl _ _, .inl rfl⟩
    | true =>
      go_wp2_with fail
      refine HP.out.mono ?_
      rintro e w1 ⟨rfl, rfl⟩
      go_wp2_with fail
      exact bodyPost_ret (results4 rfl _ _) rfl ⟨Below.refl _ _, .inl rfl⟩
  | true =>
    obtain ⟨hn1, hn16⟩ := okp_le hok
    rw [hR.len] at hn1 hn16
    have hpl := UInt8.toNat_lt pick
    have hmod : ((pick.toNat : Int) % (n : Int)) = ((pick.toNat % n : Nat) : Int) := by simp
    have HMod := Lib.hid hmod
    clear hmod
    have hlt : pick.toNat % n < n := Nat.mod_lt _ (by omega)
    have hn0 : ((n : Int) == 0) = false := by rw [beq_eq_false_iff_ne]; omega
    have HP := Lib.hid (refPages_val A n c _ l true hok w hR hn)
    go_enter Try.func34, Try.ntmps34
    go_wp2_with fail
    refine HF.out.mono ?_
    rintro e w1 ⟨fb, rfl, rfl⟩
    cases fb with
    | false =>
      go_wp2_with fail
      exact bodyPost_ret (results4 rfl _ _) rfl ⟨Below.refl _ _, .inl rfl⟩
    | true =>
      go_wp2_with fail
      refine HP.out.mono ?_
      rintro e w1 ⟨rfl, rfl⟩
      go_wp2_with fail
      obtain ⟨i, hi⟩ : ∃ i, pick.toNat % n = i := ⟨_, rfl⟩
      rw [HMod.out, hi]
      rw [hi] at hlt
      have HI := Lib.hid hi
      clear hi
      refine (root_good A n c l hok w hR hn).mono ?_
      rintro e w1 ⟨rfl, hb1⟩
      go_wp2_with fail
      refine (proof_good A n c l i hok hlt w1 (hR.up hb1) hn).mono ?_
      rintro e w2 ⟨X, m, k, rfl, hm, hX, hk1, hk2, hb2⟩
      have HX := Lib.hid hX; clear hX
      have HM := Lib.hid hm; clear hm
      go_wp2_with fail
      exact bodyPost_ret (results4 rfl _ _) rfl ⟨below_trans' hb1 hb2, .inr ⟨by trivial, X, m, k, by rw [HI.out]; rfl, by rw [HI.out]; exact HM.out, by rw [HI.out]; exact HX.out, hk1, hk2⟩⟩

section
variable {H : Type} {enc : TypeId × Value → H} {P : Program} {w : World} {spare : Nat → Bool} {held : Bool}
/-- One page of a slice of pages that came in. -/
theorem open_el_page {t e : TypeId} (ht : P.underlying t = some (.slice e)) (he : P.underlying e = some (.int .u8)) (hk : P.cellsOf e = 1) (n0 : Nat) (cs : List Value) (y : DataW H × List MemPlace) (hf : DataW.trod enc P w 0 spare held n0 t cs = some y) :
    ∃ p : Pg, cs = [p.v] ∧ (p.In w w.heap.size ∧ p.n ≤ p.c ∧ p.c ≤ maxLen) := by
  rcases open_slice ht hf with ⟨hcs, _⟩ | ⟨a, len, cap, m, n', D, Pl, hcs, _, hl, hm, hmm, hx, hi⟩
  · exact ⟨⟨none, 0, 0, []⟩, hcs, ⟨⟨Rd.nil_, by show 0 ≤ maxLen; decide⟩, Nat.le_refl _, by show 0 ≤ maxLen; decide⟩⟩
  · have hlm : len ≤ m := by rw [hmm]; split <;> omega
    obtain ⟨l, hll, hr⟩ := choose_list (fun i (x : UInt8) => ∀ j, j < 1 → w.cell? (a.add (i * 1 + j)) = [ub x][j]?) len (fun i hin => by
      obtain ⟨cs', hc, htr⟩ := hi i (by omega)
      obtain ⟨x, rfl, _⟩ := open_el_byte he _ _ _ htr
      obtain ⟨_, hcl, hat⟩ := World.cells?_some hc
      rw [hk] at hat
      exact ⟨x, fun j hj => by rw [← Go.Deep.add_add]; exact hat j hj⟩)
    refine ⟨⟨some a, len, cap, l⟩, hcs, ⟨⟨⟨by simp [hll], fun hn => ?_⟩, ?_⟩, hl, hm⟩⟩
    · obtain ⟨x0, hx0⟩ : ∃ x0, l[0]? = some x0 := ⟨_, List.getElem?_eq_getElem (by have : 0 < len := hn; omega)⟩
      have h0 := hr 0 x0 hx0 0 (by omega)
      have hs := World.cell?_spot h0
      obtain ⟨b, off, spot⟩ := a
      have hspot : spot = none := by simpa [Addr.add] using hs
      subst hspot
      refine ⟨b, off, rfl, by simpa [Addr.add] using cell_lt h0, fun j u hu => ?_⟩
      rw [List.getElem?_map] at hu
      obtain ⟨x, hx2, rfl⟩ := Option.map_eq_some_iff.1 hu
      have := hr j x hx2 0 (by omega)
      by_cases hj0 : j = 0
      · subst hj0; simpa [Addr.add] using this
      · simpa [Addr.add, hj0] using this
    · exact Nat.le_trans hl hm
/-- A [][]byte that came in. -/
def IsPages (w : World) (A : Option Addr) (n c : Nat) (l : List Pg) : Prop := Pgs w w.heap.size A n l ∧ n ≤ c ∧ c ≤ maxLen ∧ ∀ p ∈ l, p.n ≤ p.c ∧ p.c ≤ maxLen
theorem open_pages {t e e2 : TypeId} {r : Reach} {b0 : Nat} {v : Value} {d : DataW H} {p : List MemPlace} (ht : P.underlying t = some (.slice e)) (hk : P.cellsOf e = 1) (he : P.underlying e = some (.slice e2)) (hk2 : P.cellsOf e2 = 1) (he2 : P.underlying e2 = some (.int .u8))
    (hv : Value.okWide P w r b0 t v) (h : DataW.Trod enc P w 0 spare held t v d p) : ∃ A n c l, v = .slice A n c ∧ IsPages w A n c l := by
  obtain ⟨A, n, c, l, rfl, h1, h2, h3, h4, h5⟩ := open_list (fun p : Pg => [p.v]) 1 (fun p => p.In w w.heap.size ∧ p.n ≤ p.c ∧ p.c ≤ maxLen) ht hk (by decide) (fun _ => rfl) (open_el_page he he2 hk2) hv h
  rw [flat_one] at h2
  exact ⟨A, n, c, l, rfl, ⟨h2, fun p hp => (h5 p hp).1⟩, h3, h4, fun p hp => (h5 p hp).2⟩
end
end Go.Proofs.Ythaibmkieflafaa.Tr
