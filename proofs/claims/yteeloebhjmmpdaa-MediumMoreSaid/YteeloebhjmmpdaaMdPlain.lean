/- The plain laws of the medium: who catches whom; no program in sight. -/
import Derived.Test.YteeloebhjmmpdaaPlPlain
namespace Go.Proofs.Yteeloebhjmmpdaa.Md
open Go.Proofs.Yteeloebhjmmpdaa.Pl

/-- An action: what the radio does, its channel, when it begins, the window. -/
structure Ac where
  act : Int
  ch : Int
  st : Int
  lo : Int
  hi : Int
abbrev z0 : Ac := ⟨0, 0, 0, 0, 0⟩
abbrev p0 : Pt := (0, 0)
/-- s sends, on the channel of l, near it. -/
def hrs (s l : Ac) (p q : Pt) (r : Int) : Bool := decide (s.act = 2) && (decide (s.ch = l.ch) && near p q r)
/-- l listens besides. -/
def hrd (s l : Ac) (p q : Pt) (r : Int) : Bool := decide (s.act = 2) && (decide (l.act = 1) && (decide (s.ch = l.ch) && near p q r))
theorem hrd_of {s l : Ac} (h : l.act = 1) (p q : Pt) (r : Int) : hrd s l p q r = hrs s l p q r := by unfold hrd hrs; simp [h]
theorem hrd_no {s l : Ac} (h : l.act ≠ 1) (p q : Pt) (r : Int) : hrd s l p q r = false := by unfold hrd; simp [h]
def hk (ra : List Ac) (ps : List Pt) (r : Int) (i k : Nat) : Bool := hrs (ra.getD k z0) (ra.getD i z0) (ps.getD k p0) (ps.getD i p0) r
def hkd (ra : List Ac) (ps : List Pt) (r : Int) (i k : Nat) : Bool := hrd (ra.getD k z0) (ra.getD i z0) (ps.getD k p0) (ps.getD i p0) r
/-- Those below m that i hears. -/
def Hm (ra : List Ac) (ps : List Pt) (r : Int) (i m : Nat) : List Nat := (List.range m).filter (hk ra ps r i)
def opn (s l : Ac) : Bool := decide (l.lo ≤ s.st) && decide (s.st ≤ l.hi)
def pick (ra : List Ac) (i : Nat) : List Nat → Int
  | [] => -1
  | [k] => if opn (ra.getD k z0) (ra.getD i z0) then (k : Int) else -1
  | _ :: _ :: _ => -2
def cat (ra : List Ac) (ps : List Pt) (r : Int) (js : List Jm) (asn : Int) (i : Nat) : Int :=
  if (ra.getD i z0).act = 1 then if jammed js (ps.getD i p0) (ra.getD i z0).ch asn then -2 else pick ra i (Hm ra ps r i ra.length) else -1
def catl (ra : List Ac) (ps : List Pt) (r : Int) (js : List Jm) (asn : Int) : List Int := (List.range ra.length).map (cat ra ps r js asn)
theorem catl_len (ra : List Ac) (ps : List Pt) (r : Int) (js : List Jm) (asn : Int) : (catl ra ps r js asn).length = ra.length := by simp [catl]
theorem catl_get {ra : List Ac} {ps : List Pt} {r : Int} {js : List Jm} {asn : Int} {i : Nat} (hi : i < ra.length) : (catl ra ps r js asn)[i]? = some (cat ra ps r js asn i) := by
  simp [catl, hi]

theorem Hm_zero (ra : List Ac) (ps : List Pt) (r : Int) (i : Nat) : Hm ra ps r i 0 = [] := rfl
theorem Hm_succ (ra : List Ac) (ps : List Pt) (r : Int) (i m : Nat) : Hm ra ps r i (m + 1) = Hm ra ps r i m ++ if hk ra ps r i m then [m] else [] := by
  unfold Hm
  rw [List.range_succ, List.filter_append]
  by_cases h : hk ra ps r i m <;> simp [h]
theorem mem_Hm {ra : List Ac} {ps : List Pt} {r : Int} {i m k : Nat} : k ∈ Hm ra ps r i m ↔ k < m ∧ hk ra ps r i k = true := by
  unfold Hm; simp
theorem nodup_Hm (ra : List Ac) (ps : List Pt) (r : Int) (i m : Nat) : (Hm ra ps r i m).Nodup := List.nodup_range.filter _

/-- Valid radios. -/
def okA (a : Ac) : Bool := decide (a.act = 0) || (decide (a.act = 1) || decide (a.act = 2)) && (decide (0 ≤ a.ch) && decide (a.ch < 16))
def okR (ra : List Ac) (ps : List Pt) (i : Nat) : Bool := okA (ra.getD i z0) && vp (ps.getD i p0)
def okm (ra : List Ac) (ps : List Pt) (r asn : Int) : Bool :=
  decide (ra.length = ps.length) && decide (ra.length ≤ 200) && decide (0 ≤ r ∧ r ≤ 20000) && decide (0 ≤ asn ∧ asn ≤ 1000000000) && (List.range ra.length).all (okR ra ps)

/- How pick goes by what is heard. -/
theorem pick_none {ra : List Ac} {i : Nat} {l : List Nat} (h : ∀ k, k ∉ l) : pick ra i l = -1 := by
  cases l with
  | nil => rfl
  | cons k t => exact absurd (List.mem_cons_self ..) (h k)
theorem pick_one {ra : List Ac} {i k : Nat} {l : List Nat} (hn : l.Nodup) (h : ∀ j, j ∈ l ↔ j = k) : pick ra i l = if opn (ra.getD k z0) (ra.getD i z0) then (k : Int) else -1 := by
  match l, hn, h with
  | [], _, h => exact absurd ((h k).2 rfl) (by simp)
  | [x], _, h => rw [(h x).1 (by simp)]; rfl
  | x :: y :: t, hn, h =>
    have e1 := (h x).1 (by simp)
    have e2 := (h y).1 (by simp)
    subst e1 e2
    simp at hn
theorem pick_many {ra : List Ac} {i j k : Nat} {l : List Nat} (hj : j ∈ l) (hk : k ∈ l) (hne : j ≠ k) : pick ra i l = -2 := by
  match l, hj, hk with
  | [x], hj, hk => simp at hj hk; omega
  | _ :: _ :: _, _, _ => rfl
theorem pick_cases (ra : List Ac) (i : Nat) (l : List Nat) (hn : l.Nodup) :
    ((∀ k, k ∉ l) ∧ pick ra i l = -1) ∨ (∃ k, (∀ j, j ∈ l ↔ j = k) ∧ pick ra i l = if opn (ra.getD k z0) (ra.getD i z0) then (k : Int) else -1) ∨ (∃ j k, j ∈ l ∧ k ∈ l ∧ j ≠ k ∧ pick ra i l = -2) := by
  match l, hn with
  | [], _ => exact .inl ⟨by simp, rfl⟩
  | [x], _ => exact .inr (.inl ⟨x, by simp, rfl⟩)
  | x :: y :: t, hn => exact .inr (.inr ⟨x, y, by simp, by simp, by simp at hn; exact hn.1.1, rfl⟩)
end Go.Proofs.Yteeloebhjmmpdaa.Md
