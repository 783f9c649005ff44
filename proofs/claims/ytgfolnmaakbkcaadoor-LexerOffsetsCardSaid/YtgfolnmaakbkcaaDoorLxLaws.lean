/- The law LexerMatchesReference. -/
import Derived.Test.YtgfolnmaakbkcaaDoorLxHead
import Derived.Test.YtgfolnmaakbkcaaDoorLxRefLex
namespace Go.Proofs.YtgfolnmaakbkcaaDoor.Lx
open Go.RowKit
set_option linter.unusedVariables false

theorem spans_pos : ∀ (n : Nat) (l : List UInt8) (p : Nat), l.length ≤ n → ∀ x ∈ spans l p, p ≤ x.pos ∧ x.pos < p + l.length
  | n, [], p, _, x, hx => by rw [spans_nil] at hx; cases hx
  | 0, c :: r, p, h, _, _ => absurd h (by simp)
  | n + 1, c :: r, p, h, x, hx => by
    have h1 := spanLen_pos c r
    have h2 := spanLen_le (c :: r)
    rw [spans_cons] at hx
    rcases List.mem_cons.1 hx with rfl | hx
    · simp only [List.length_cons]; omega
    · have := spans_pos n _ _ (by rw [List.length_drop]; simp only [List.length_cons] at *; omega) x hx
      rw [List.length_drop] at this
      omega
/-- A token that the lexer gives: its offset, its number. -/
def okT (m : Nat) (t : Tok) : Prop := t.pos < m ∧ t.n ≤ 1000000000
theorem tokenOf_ok {k : Nat} {l : List UInt8} {t : Tok} (h : tokenOf k l = .ok t) : t.n ≤ 1000000000 := by
  unfold tokenOf at h
  split at h
  · split at h
    · cases h
    · injection h with h; subst h; exact Nat.zero_le _
  · split at h
    · split at h
      · cases h
      · split at h
        · cases h
        · injection h with h; subst h; show num l ≤ _; omega
    · injection h with h; subst h; exact Nat.zero_le _
theorem lexE_ok {m : Nat} : ∀ (xs : List Span) (acc ts : List Tok), (∀ x ∈ xs, x.pos < m) → (∀ t ∈ acc, okT m t) → lexE acc xs = .ok ts → ∀ t ∈ ts, okT m t
  | [], acc, ts, _, ha, h => by
    simp only [lexE] at h
    injection h with h
    subst h
    exact ha
  | x :: xs, acc, ts, hx, ha, h => by
    simp only [lexE] at h
    cases hs : stepS acc x with
    | error e => rw [hs] at h; cases h
    | ok a =>
      rw [hs] at h
      refine lexE_ok xs a ts (fun y hy => hx y (List.mem_cons_of_mem _ hy)) ?_ h
      unfold stepS at hs
      split at hs
      · injection hs with hs; subst hs; exact ha
      · split at hs
        · cases hs
        · split at hs
          · cases hs
          · split at hs
            · cases hs
            · rename_i t ht
              injection hs with hs
              subst hs
              intro u hu
              rcases List.mem_append.1 hu with hu | hu
              · exact ha u hu
              · simp only [List.mem_singleton] at hu
                subst hu
                have h1 := tokenOf_ok ht
                exact ⟨hx x (List.mem_cons_self ..), h1⟩
theorem lexE_len : ∀ (xs : List Span) (acc ts : List Tok), acc.length ≤ 2000 → lexE acc xs = .ok ts → ts.length ≤ 2000
  | [], acc, ts, ha, h => by
    simp only [lexE] at h
    injection h with h
    subst h
    exact ha
  | x :: xs, acc, ts, ha, h => by
    simp only [lexE] at h
    cases hs : stepS acc x with
    | error e => rw [hs] at h; cases h
    | ok a =>
      rw [hs] at h
      exact lexE_len xs a ts (stepS_len hs ha) h
theorem LEX_ok (l : List UInt8) : ∀ t ∈ (LEX l).toks, okT l.length t := by
  unfold LEX
  split
  · intro t ht; cases ht
  · cases h : lexE [] (spans l 0) with
    | error e => intro t ht; cases ht
    | ok ts =>
      exact lexE_ok (spans l 0) [] ts (fun x hx => by have := spans_pos _ l 0 (Nat.le_refl _) x hx; omega) (fun t ht => by cases ht) h
theorem LEX_len (l : List UInt8) : (LEX l).toks.length ≤ 2000 := by
  unfold LEX
  split
  · simp
  · cases h : lexE [] (spans l 0) with
    | error e => exact Nat.zero_le _
    | ok ts => exact lexE_len (spans l 0) [] ts (Nat.zero_le _) h
theorem LEX_long {l : List UInt8} (h : (LEX l).err = 0) : l.length ≤ 8000 := by
  unfold LEX at h
  split at h
  · cases h
  · omega

set_option maxRecDepth 100000 in
theorem lexerMatchesReference_walk (s : ByteArray) (w : World) (hs : s.size ≤ maxLen) (_hz : s.size ≤ 140737488351232) (hw : Vars w) :
    Calls Tryd.prog 3 #[.string s] w fun e w' => e = .returned (.bool true) ∧ Below w.heap.size w w' := by
  have hl : s.data.toList.length = s.size := Array.length_toList
  have HH := Lib.hid (head_val w hw)
  have HW := Lib.hid hw
  by_cases hbig : 10000 < s.size
  · have hb : (10000 : Int) < (s.size : Int) := by omega
    clear hbig hl hw
    go_enter Tryd.func3, Tryd.ntmps3
    go_wp2_with fail
    refine HH.out.mono ?_
    rintro e w1 ⟨rfl, hb1⟩
    go_wp2_with fail
    go_ret
    exact ⟨rfl, hb1⟩
  · have hb : ¬ (10000 : Int) < (s.size : Int) := by omega
    have HL1 := Lib.hid (lex_val s hs)
    have HL2 := Lib.hid (rlex_val s hs)
    obtain ⟨r, hr⟩ : ∃ r, LEX s.data.toList = r := ⟨_, rfl⟩
    have hok : ∀ t ∈ r.toks, t.pos ≤ 20000 := fun t ht => by
      rw [← hr] at ht
      have := (LEX_ok _ t ht).1
      rw [hl] at this
      omega
    rw [hr] at HL1 HL2
    have HO := Lib.hid hok
    obtain ⟨ts, er, po⟩ := r
    clear hl hr hok hw hbig
    go_enter Tryd.func3, Tryd.ntmps3
    go_wp2_with fail
    refine HH.out.mono ?_
    rintro e w1 ⟨rfl, hb1⟩
    have HB1 := Lib.hid hb1
    clear hb1
    go_wp2_with fail
    refine (HL1.out _ (HW.out.up HB1.out)).mono ?_
    rintro e w2 ⟨A, n, c, rfl, hT1, hb2⟩
    have HB2 := Lib.hid (below_trans' HB1.out hb2)
    have HT1 := Lib.hid hT1
    clear hT1 hb2
    go_wp2_with fail
    refine (HL2.out _).mono ?_
    rintro e w3 ⟨B, m, d, rfl, hT2, hb3⟩
    have HB3 := Lib.hid (below_trans' HB2.out hb3)
    have hS := same_val A n c ts B m d ts 0 (by decide) HO.out w3 (HT1.out.up hb3) hT2
    rw [sameB_refl] at hS
    have HS := Lib.hid hS
    clear hT2 hb3 hS
    go_wp2_with fail
    refine HS.out.mono ?_
    rintro e w4 ⟨rfl, hb4⟩
    have HB4 := Lib.hid (below_trans' HB3.out hb4)
    clear hb4
    go_wp2_with fail
    go_ret
    exact ⟨rfl, HB4.out⟩
end Go.Proofs.YtgfolnmaakbkcaaDoor.Lx
