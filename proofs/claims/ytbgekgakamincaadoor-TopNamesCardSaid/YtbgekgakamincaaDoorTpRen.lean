/- Commands renamed, in plain Lean: their canonical text changes in the names alone. -/
import Derived.Test.YtbgekgakamincaaDoorTpHead
namespace Go.Proofs.YtbgekgakamincaaDoor.Tp
open Go.RowKit Go.Proofs.YtbgekgakamincaaDoor.Lx Go.Proofs.YtbgekgakamincaaDoor.Pr Go.Proofs.YtbgekgakamincaaDoor.Ps
set_option linter.unusedVariables false

def renC (x : Cm) : Cm := { x with name := renB x.name }
inductive All2 {α β : Type} (R : α → β → Prop) : List α → List β → Prop
  | nil : All2 R [] []
  | cons {a : α} {b : β} {l : List α} {m : List β} : R a b → All2 R l m → All2 R (a :: l) (b :: m)
theorem All2.append {α β : Type} {R : α → β → Prop} {l l' : List α} {m m' : List β} (h : All2 R l m) (g : All2 R l' m') : All2 R (l ++ l') (m ++ m') := by
  induction h with
  | nil => exact g
  | cons h1 _ ih => exact .cons h1 ih
theorem All2.len {α β : Type} {R : α → β → Prop} {l : List α} {m : List β} (h : All2 R l m) : l.length = m.length := by
  induction h with
  | nil => rfl
  | cons _ _ ih => rw [List.length_cons, List.length_cons, ih]
theorem All2.get {α β : Type} {R : α → β → Prop} {l : List α} {m : List β} (h : All2 R l m) : ∀ k (h1 : k < l.length) (h2 : k < m.length), R l[k] m[k] := by
  induction h with
  | nil => intro k h1; exact absurd h1 (by simp)
  | cons h0 _ ih =>
    intro k h1 h2
    cases k with
    | zero => exact h0
    | succ k => exact ih k (by simpa using h1) (by simpa using h2)
/-- A token and the one with the new name. -/
structure RK (t u : Tok) : Prop where
  n : t.n = u.n
  len : (textL t).length = (textL u).length
  text : t.text = u.text ∨ u.text = renB t.text
theorem RK.refl (t : Tok) : RK t t := ⟨rfl, rfl, .inl rfl⟩
theorem RK.name (nm : List UInt8) : RK (nameT nm) (nameT (nm.map swp)) := ⟨rfl, by rw [textL_name, textL_name, List.length_map], .inr rfl⟩
theorem rel_wds (nm : List UInt8) : ∀ (ps : List (List UInt8)) (ns : List Int), All2 RK (wds nm ps ns) (wds (nm.map swp) ps ns)
  | [], _ => .nil
  | p :: r, ns => by
    simp only [wds]
    by_cases h1 : p = [78]
    · rw [if_pos h1, if_pos h1]; exact .cons (RK.name nm) (rel_wds nm r ns)
    · rw [if_neg h1, if_neg h1]
      by_cases h2 : p = [37]
      · rw [if_pos h2, if_pos h2]; exact .cons (RK.refl _) (.cons (RK.refl _) (rel_wds nm r ns.tail))
      · rw [if_neg h2, if_neg h2]
        by_cases h3 : p = [35]
        · rw [if_pos h3, if_pos h3]; exact .cons (RK.refl _) (rel_wds nm r ns.tail)
        · rw [if_neg h3, if_neg h3]; exact .cons (RK.refl _) (rel_wds nm r ns)
def RI (x y : Tok × List UInt8) : Prop := x.2 = y.2 ∧ RK x.1 y.1
theorem rel_items : ∀ {ts us : List Tok}, All2 RK ts us → All2 RI (itemsOf ts) (itemsOf us)
  | _, _, .nil => .cons ⟨rfl, RK.refl _⟩ .nil
  | _, _, .cons h .nil => .cons ⟨rfl, h⟩ (.cons ⟨rfl, RK.refl _⟩ .nil)
  | _, _, .cons h (.cons h2 h3) => .cons ⟨rfl, h⟩ (rel_items (.cons h2 h3))
theorem rel_out : ∀ (l : List Cm), All2 RI (itemsL l) (itemsL (l.map renC))
  | [] => .nil
  | x :: l => by
    rw [List.map_cons, itemsL_cons, itemsL_cons]
    exact (rel_items (rel_wds _ _ _)).append (rel_out l)
theorem rel_gtx {r q : List (Tok × List UInt8)} (h : All2 RI r q) : (gtx r).length = (gtx q).length := by
  induction h with
  | nil => rfl
  | cons h1 _ ih =>
    simp only [gtx, List.length_append]
    rw [h1.2.len, h1.1, ih]
def RT (t u : Tok) : Prop := t.n = u.n ∧ t.pos = u.pos ∧ (t.text = u.text ∨ u.text = renB t.text)
theorem rel_tks {r q : List (Tok × List UInt8)} (h : All2 RI r q) : ∀ p, All2 RT (tksAt p r) (tksAt p q) := by
  induction h with
  | nil => intro p; exact .nil
  | cons h1 _ ih =>
    intro p
    simp only [tksAt]
    refine .cons ⟨h1.2.n, rfl, h1.2.text⟩ ?_
    rw [h1.2.len, h1.1]
    exact ih _
/-- Names replaced one for one: the canonical text. -/
theorem names_law {l : List Cm} (hv : validB l = true) (h8 : (outL l).length ≤ 8000) (h2 : tokL l ≤ 2000) (hm : validB (l.map renC) = true) :
    printL (l.map renC) = (outL (l.map renC), 0) ∧ (outL (l.map renC)).length = (outL l).length ∧ PARSE (outL (l.map renC)) = (cmdsAt 0 (l.map renC), []) ∧
    ∃ ts us, LEX (outL l) = ⟨ts, 0, 0⟩ ∧ LEX (outL (l.map renC)) = ⟨us, 0, 0⟩ ∧ All2 RT ts us := by
  obtain ⟨_, a1⟩ := valid_all hv
  obtain ⟨_, a2⟩ := valid_all hm
  have hr := rel_out l
  have e1 : (outL (l.map renC)).length = (outL l).length := by rw [← gtx_items l a1, ← gtx_items _ a2, rel_gtx hr]
  have e2 : tokL (l.map renC) = tokL l := by rw [← items_tok l a1, ← items_tok _ a2, hr.len]
  refine ⟨?_, e1, parse_out hm (by omega) (by omega), _, _, (lex_out a1).1 h8 h2, (lex_out a2).1 (by omega) (by omega), rel_tks hr 0⟩
  rw [print_law]
  rcases rprint_cases (l.map renC) with ⟨q, _⟩ | ⟨_, q, _⟩ | ⟨_, _, _, q⟩
  · rw [hm] at q; cases q
  · omega
  · exact q
theorem lex_isT (s : ByteArray) (hs : s.size ≤ maxLen) (r : LexR) (hr : LEX s.data.toList = r) (w : World) (hv : Lx.Vars w) : Calls Tryd.prog 9 #[.string s] w (LexPost w r) := by
  rw [← hr]; exact lex_val s hs w hv
end Go.Proofs.YtbgekgakamincaaDoor.Tp
