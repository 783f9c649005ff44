/- The plain laws of the plane: who is near whom; no program in sight. -/
namespace Go.Proofs.Yteeloebhjmmpdaa.Pl
abbrev Pt := Int × Int
def vp (p : Pt) : Bool := decide (0 ≤ p.1 ∧ p.1 ≤ 10000 ∧ 0 ≤ p.2 ∧ p.2 ≤ 10000)
def inr (r : Int) : Bool := decide (0 ≤ r ∧ r ≤ 20000)
def d2 (a b : Pt) : Int := (a.1 - b.1) * (a.1 - b.1) + (a.2 - b.2) * (a.2 - b.2)
def near (a b : Pt) (r : Int) : Bool := vp a && vp b && inr r && decide (d2 a b ≤ r * r)

theorem vp_iff {p : Pt} : vp p = true ↔ 0 ≤ p.1 ∧ p.1 ≤ 10000 ∧ 0 ≤ p.2 ∧ p.2 ≤ 10000 := by unfold vp; simp
theorem inr_iff {r : Int} : inr r = true ↔ 0 ≤ r ∧ r ≤ 20000 := by unfold inr; simp
theorem near_iff {a b : Pt} {r : Int} : near a b r = true ↔ vp a = true ∧ vp b = true ∧ inr r = true ∧ d2 a b ≤ r * r := by
  unfold near; simp [and_assoc]
theorem sq_nonneg (x : Int) : 0 ≤ x * x := by
  rcases Int.le_total 0 x with h | h
  · exact Int.mul_nonneg h h
  · have := Int.mul_nonneg (a := -x) (b := -x) (by omega) (by omega)
    rwa [Int.neg_mul_neg] at this
theorem sq_le {x b : Int} (h1 : -b ≤ x) (h2 : x ≤ b) : x * x ≤ b * b := by
  rcases Int.le_total 0 x with h | h
  · exact Int.mul_le_mul h2 h2 h (by omega)
  · have := Int.mul_le_mul (a := -x) (b := -x) (c := b) (d := b) (by omega) (by omega) (by omega) (by omega)
    rwa [Int.neg_mul_neg] at this
theorem sq_mono {x y : Int} (h0 : 0 ≤ x) (h : x ≤ y) : x * x ≤ y * y := Int.mul_le_mul h h h0 (by omega)
theorem d2_symm (a b : Pt) : d2 a b = d2 b a := by unfold d2; grind
theorem d2_self (a : Pt) : d2 a a = 0 := by unfold d2; simp
theorem d2_nonneg (a b : Pt) : 0 ≤ d2 a b := by unfold d2; have := sq_nonneg (a.1 - b.1); have := sq_nonneg (a.2 - b.2); omega
theorem sq_zero {x : Int} (h : x * x ≤ 0) : x = 0 := by
  have := sq_nonneg x
  have h0 : x * x = 0 := by omega
  rcases Int.mul_eq_zero.1 h0 with h | h <;> exact h
theorem d2_zero {a b : Pt} (h : d2 a b ≤ 0) : a = b := by
  unfold d2 at h
  have h1 := sq_nonneg (a.1 - b.1)
  have h2 := sq_nonneg (a.2 - b.2)
  have e1 := sq_zero (x := a.1 - b.1) (by omega)
  have e2 := sq_zero (x := a.2 - b.2) (by omega)
  obtain ⟨a1, a2⟩ := a
  obtain ⟨b1, b2⟩ := b
  simp at e1 e2 ⊢
  omega
theorem near_symm (a b : Pt) (r : Int) : near a b r = near b a r := by
  rw [Bool.eq_iff_iff, near_iff, near_iff, d2_symm a b]
  exact ⟨fun ⟨h1, h2, h3⟩ => ⟨h2, h1, h3⟩, fun ⟨h1, h2, h3⟩ => ⟨h2, h1, h3⟩⟩
theorem near_self {a : Pt} {r : Int} (ha : vp a = true) (hr : inr r = true) : near a a r = true :=
  near_iff.2 ⟨ha, ha, hr, by rw [d2_self]; exact sq_nonneg r⟩
theorem near_mono {a b : Pt} {r s : Int} (h : near a b r = true) (hs : inr (r + s) = true) (h0 : 0 ≤ s) : near a b (r + s) = true := by
  obtain ⟨h1, h2, h3, h4⟩ := near_iff.1 h
  exact near_iff.2 ⟨h1, h2, hs, Int.le_trans h4 (sq_mono (inr_iff.1 h3).1 (by omega))⟩
theorem near_zero {a b : Pt} (ha : vp a = true) (hb : vp b = true) : near a b 0 = decide (a = b) := by
  rw [Bool.eq_iff_iff, near_iff, decide_eq_true_iff]
  exact ⟨fun ⟨_, _, _, h⟩ => d2_zero (by simpa using h), fun h => ⟨ha, hb, by decide, by rw [h, d2_self]; decide⟩⟩
theorem d2_max {a b : Pt} (ha : vp a = true) (hb : vp b = true) : d2 a b ≤ 200000000 := by
  obtain ⟨a1, a2, a3, a4⟩ := vp_iff.1 ha
  obtain ⟨b1, b2, b3, b4⟩ := vp_iff.1 hb
  unfold d2
  have h1 := sq_le (x := a.1 - b.1) (b := 10000) (by omega) (by omega)
  have h2 := sq_le (x := a.2 - b.2) (b := 10000) (by omega) (by omega)
  omega
theorem near_far {a b : Pt} (ha : vp a = true) (hb : vp b = true) : near a b 15000 = true :=
  near_iff.2 ⟨ha, hb, by decide, by have := d2_max ha hb; omega⟩
theorem cauchy {x1 y1 x2 y2 r s : Int} (hr : 0 ≤ r) (hs : 0 ≤ s) (h1 : x1 * x1 + y1 * y1 ≤ r * r) (h2 : x2 * x2 + y2 * y2 ≤ s * s) : x1 * x2 + y1 * y2 ≤ r * s := by
  have hrs := Int.mul_nonneg hr hs
  have hA : 0 ≤ x1 * x1 + y1 * y1 := by have := sq_nonneg x1; have := sq_nonneg y1; omega
  have hB : 0 ≤ x2 * x2 + y2 * y2 := by have := sq_nonneg x2; have := sq_nonneg y2; omega
  have hAB : (x1 * x1 + y1 * y1) * (x2 * x2 + y2 * y2) ≤ (r * r) * (s * s) := Int.mul_le_mul h1 h2 hB (by have := sq_nonneg r; omega)
  have hid : (x1 * x1 + y1 * y1) * (x2 * x2 + y2 * y2) = (x1 * x2 + y1 * y2) * (x1 * x2 + y1 * y2) + (x1 * y2 - x2 * y1) * (x1 * y2 - x2 * y1) := by grind
  have hsq := sq_nonneg (x1 * y2 - x2 * y1)
  have hrr : (r * r) * (s * s) = (r * s) * (r * s) := by grind
  by_cases h : r * s < x1 * x2 + y1 * y2
  · have h3 : (r * s + 1) * (r * s + 1) ≤ (x1 * x2 + y1 * y2) * (x1 * x2 + y1 * y2) := sq_mono (by omega) (by omega)
    have h4 : (r * s + 1) * (r * s + 1) = (r * s) * (r * s) + 2 * (r * s) + 1 := by grind
    omega
  · omega
theorem near_triangle {a b c : Pt} {r s : Int} (h1 : near a b r = true) (h2 : near b c s = true) (hrs : r + s ≤ 20000) : near a c (r + s) = true := by
  obtain ⟨ha, hb, hr, e1⟩ := near_iff.1 h1
  obtain ⟨_, hc, hs, e2⟩ := near_iff.1 h2
  obtain ⟨r0, r1⟩ := inr_iff.1 hr
  obtain ⟨s0, s1⟩ := inr_iff.1 hs
  refine near_iff.2 ⟨ha, hc, inr_iff.2 ⟨by omega, hrs⟩, ?_⟩
  have h3 := cauchy r0 s0 e1 e2
  unfold d2 at *
  have e3 : (a.1 - c.1) * (a.1 - c.1) + (a.2 - c.2) * (a.2 - c.2) = ((a.1 - b.1) * (a.1 - b.1) + (a.2 - b.2) * (a.2 - b.2)) + ((b.1 - c.1) * (b.1 - c.1) + (b.2 - c.2) * (b.2 - c.2)) + 2 * ((a.1 - b.1) * (b.1 - c.1) + (a.2 - b.2) * (b.2 - c.2)) := by grind
  have e4 : (r + s) * (r + s) = r * r + s * s + 2 * (r * s) := by grind
  omega
def mv (x y : Int) (p : Pt) : Pt := (p.1 + x, p.2 + y)
def sw (p : Pt) : Pt := (p.2, p.1)
theorem vp_sw (p : Pt) : vp (sw p) = vp p := by
  rw [Bool.eq_iff_iff, vp_iff, vp_iff]; unfold sw; simp only; omega
theorem near_sw (a b : Pt) (r : Int) : near (sw a) (sw b) r = near a b r := by
  rw [Bool.eq_iff_iff, near_iff, near_iff, vp_sw, vp_sw]
  have : d2 (sw a) (sw b) = d2 a b := by unfold d2 sw; simp only; omega
  rw [this]
theorem near_mv {a b : Pt} {x y : Int} (ha : vp a = true) (hb : vp b = true) (ha' : vp (mv x y a) = true) (hb' : vp (mv x y b) = true) (r : Int) : near (mv x y a) (mv x y b) r = near a b r := by
  have : d2 (mv x y a) (mv x y b) = d2 a b := by
    unfold d2 mv
    simp only
    rw [show a.1 + x - (b.1 + x) = a.1 - b.1 by omega, show a.2 + y - (b.2 + y) = a.2 - b.2 by omega]
  rw [Bool.eq_iff_iff, near_iff, near_iff, this, ha, hb, ha', hb']

/-- The places and a radius are valid. -/
def okp (l : List Pt) (r : Int) : Bool := decide (l.length ≤ 60) && inr r && l.all vp
def hear (l : List Pt) (r : Int) (i k : Nat) : Bool := decide (i ≠ k) && near (l.getD i (0, 0)) (l.getD k (0, 0)) r
theorem hear_symm (l : List Pt) (r : Int) (i k : Nat) : hear l r i k = hear l r k i := by
  unfold hear
  rw [near_symm, show decide (i ≠ k) = decide (k ≠ i) by simp [eq_comm]]
theorem hear_self (l : List Pt) (r : Int) (i : Nat) : hear l r i i = false := by simp [hear]

/-- A jammer: its place, its radius, its channel, until when. -/
structure Jm where
  p : Pt
  r : Int
  ch : Int
  til : Int
def jams (j : Jm) (p : Pt) (ch asn : Int) : Bool := decide (j.ch = ch) && (decide (asn < j.til) && near j.p p j.r)
def jammed (l : List Jm) (p : Pt) (ch asn : Int) : Bool := l.any fun j => jams j p ch asn
end Go.Proofs.Yteeloebhjmmpdaa.Pl
