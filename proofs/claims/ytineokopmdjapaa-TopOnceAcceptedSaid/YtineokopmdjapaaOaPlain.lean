/- Windows of counters: the plain laws. -/
import Derived.Test.YtineokopmdjapaaCom
namespace Go.Proofs.Ytineokopmdjapaa.Oa
set_option linter.unusedVariables false

/-- A window is valid: its top and its bits. -/
def vw (t b : Nat) : Prop := (t = 0 ∧ b = 0) ∨ (1 ≤ t ∧ t ≤ 1000000000 ∧ b % 2 = 1 ∧ (t < 64 → b < 2 ^ t))
/-- The bits moved up. -/
def upb (b d : Nat) : Nat := if 64 ≤ d then 0 else (b * 2 ^ d) % 2 ^ 64
/-- The bits when a new greatest counter n is noted. -/
def nb (t b n : Nat) : Nat := upb b (n - t) ||| 1

theorem or_one (y : Nat) : 2 * y ||| 1 = 2 * y + 1 := by
  have := Nat.shiftLeft_add_eq_or_of_lt (b := 1) (i := 1) (by decide) y
  rw [Nat.shiftLeft_eq, Nat.pow_one, Nat.mul_comm y 2] at this
  exact this.symm
theorem upb_even (b d : Nat) (hd : 1 ≤ d) : ∃ y, upb b d = 2 * y := by
  unfold upb
  split
  · exact ⟨0, rfl⟩
  · obtain ⟨e, rfl⟩ : ∃ e, d = e + 1 := ⟨d - 1, by omega⟩
    refine ⟨(b * 2 ^ (e + 1)) % 2 ^ 64 / 2, ?_⟩
    have h2 : (b * 2 ^ (e + 1)) % 2 ^ 64 % 2 = 0 := by
      rw [Nat.mod_mod_of_dvd _ (by decide : 2 ∣ 2 ^ 64), Nat.pow_succ, ← Nat.mul_assoc]
      omega
    omega
theorem upb_lt (b d : Nat) : upb b d < 2 ^ 64 := by
  unfold upb
  split
  · decide
  · exact Nat.mod_lt _ (by decide)
theorem nb_lt (t b n : Nat) (h : t < n) : nb t b n < 2 ^ 64 := by
  obtain ⟨y, hy⟩ := upb_even b (n - t) (by omega)
  have := upb_lt b (n - t)
  unfold nb
  rw [hy, or_one]
  omega
theorem nb_odd (t b n : Nat) (h : t < n) : nb t b n % 2 = 1 := by
  obtain ⟨y, hy⟩ := upb_even b (n - t) (by omega)
  unfold nb
  rw [hy, or_one]
  omega
theorem vw_nb {t b n : Nat} (h : vw t b) (hn : t < n) (hm : n ≤ 1000000000) : vw n (nb t b n) := by
  refine .inr ⟨by omega, hm, nb_odd t b n hn, fun h64 => ?_⟩
  have hb : b < 2 ^ t := by
    rcases h with ⟨rfl, rfl⟩ | ⟨_, _, _, h4⟩
    · decide
    · exact h4 (by omega)
  have h1 : b * 2 ^ (n - t) < 2 ^ n := by
    have h2 : 2 ^ n = 2 ^ t * 2 ^ (n - t) := by rw [← Nat.pow_add]; congr 1; omega
    rw [h2]
    exact Nat.mul_lt_mul_of_pos_right hb (Nat.pow_pos (by decide))
  have h3 : (2 : Nat) ^ n ≤ 2 ^ 64 := Nat.pow_le_pow_right (by decide) (by omega)
  obtain ⟨y, hy⟩ := upb_even b (n - t) (by omega)
  have hu : upb b (n - t) = b * 2 ^ (n - t) := by
    unfold upb
    rw [if_neg (by omega), Nat.mod_eq_of_lt (by omega)]
  unfold nb
  rw [hy, or_one, ← hy, hu]
  obtain ⟨m, rfl⟩ : ∃ m, n = m + 1 := ⟨n - 1, by omega⟩
  rw [hu] at hy
  rw [Nat.pow_succ] at h1 ⊢
  omega
theorem vw_zero : vw 0 0 := .inl ⟨rfl, rfl⟩
end Go.Proofs.Ytineokopmdjapaa.Oa
