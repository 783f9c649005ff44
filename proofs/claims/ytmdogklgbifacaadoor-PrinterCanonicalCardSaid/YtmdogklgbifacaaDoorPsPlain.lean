/- The parser in plain Lean. -/
import Derived.Test.YtmdogklgbifacaaDoorPrA
namespace Go.Proofs.YtmdogklgbifacaaDoor.Ps
open Go.RowKit Go.Proofs.YtmdogklgbifacaaDoor.Lx Go.Proofs.YtmdogklgbifacaaDoor.Pr
set_option linter.unusedVariables false

/-- A command that was read. -/
structure PC where
  kind : Nat
  name : ByteArray
  ns : List Int
  pos : Nat
def bFast : List UInt8 := [102, 97, 115, 116]
def bSlow : List UInt8 := [115, 108, 111, 119]
def bAt : List UInt8 := [97, 116]
/-- Does a token fit a part of a form? -/
def fitsB (t : Tok) (p : List UInt8) : Bool :=
  if p = [35] then decide (t.kind = 2)
  else if p = [110] then decide (t.kind = 1) && nameB t.text
  else if p = [100] then decide (t.kind = 1) && (t.text.data.toList == bFast || t.text.data.toList == bSlow)
  else decide (t.kind ≠ 2) && t.text.data.toList == p
/-- How many tokens fit. -/
def matchB : List Tok → List (List UInt8) → Nat
  | t :: ts, p :: ps => if fitsB t p then 1 + matchB ts ps else 0
  | _, _ => 0
def nsB : Bool → List Tok → List (List UInt8) → List Int
  | neg, t :: ts, p :: ps => if p = [35] then (if neg then -(t.n : Int) else (t.n : Int)) :: nsB false ts ps else nsB (decide (p = [100]) && t.text.data.toList == bSlow) ts ps
  | _, _, _ => []
def nmB : ByteArray → List Tok → List (List UInt8) → ByteArray
  | nm, t :: ts, p :: ps => nmB (if p = [110] then t.text else nm) ts ps
  | nm, _, _ => nm
def posB (t : Option Tok) (e : Nat) : Nat := match t with | some t => t.pos | none => e
def builtB (k : Nat) (ts : List Tok) : PC := ⟨k, nmB ⟨#[]⟩ ts (expL k), nsB false ts (expL k), posB ts.head? 0⟩
def txtB (t : Option Tok) : List UInt8 := match t with | some t => t.text.data.toList | none => []
def cmdTab : List (List UInt8 × Nat) := [([109, 101, 115, 104], 1), ([114, 111, 111, 116], 2), ([110, 111, 100, 101], 3), ([114, 117, 110], 11)]
def evTab : List (List UInt8 × Nat) := [([109, 111, 118, 101], 4), ([102, 97, 105, 108], 5), ([115, 116, 97, 114, 116], 6), ([114, 101, 97, 100], 7), ([106, 97, 109], 8), ([114, 101, 112, 108, 97, 121], 9), ([112, 114, 111, 103, 114, 97, 109], 10)]
def lookB (l : List (List UInt8 × Nat)) (w : List UInt8) : Option Nat := (l.find? fun x => x.1 == w).map (·.2)
/-- The kind of the command that begins here, or how many tokens fit none. -/
def selB (ts : List Tok) : Except Nat Nat :=
  if txtB ts.head? = bAt then
    (if (ts[1]?.map (·.kind)) = some 2 then (match lookB evTab (txtB ts[2]?) with | some k => .ok k | none => .error 2) else .error 1)
  else match lookB cmdTab (txtB ts.head?) with | some k => .ok k | none => .error 0
/-- One command read: it, and how many tokens it has; or how many tokens fit. -/
def rdB (ts : List Tok) : Option PC × Nat :=
  match selB ts with
  | .error n => (none, n)
  | .ok k => if matchB ts (expL k) = (expL k).length then (some (builtB k ts), (expL k).length) else (none, matchB ts (expL k))
theorem matchB_le : ∀ (ts : List Tok) (ps : List (List UInt8)), matchB ts ps ≤ ps.length ∧ matchB ts ps ≤ ts.length
  | t :: ts, p :: ps => by
    have := matchB_le ts ps
    simp only [matchB, List.length_cons]
    split <;> omega
  | [], ps => by simp [matchB]
  | t :: ts, [] => by simp [matchB]
/-- Behind the next semicolon. -/
def skipB (ts : List Tok) : List Tok := (ts.dropWhile fun t => decide (t.kind ≠ 3)).tail
theorem skipB_len (ts : List Tok) : (skipB ts).length ≤ ts.length - 1 := by
  unfold skipB
  rw [List.length_tail]
  have := (List.dropWhile_sublist (fun t : Tok => decide (t.kind ≠ 3)) (l := ts)).length_le
  omega
/-- Commands and the offsets of diagnostics. -/
structure PR where
  out : List PC
  dgs : List Nat
/-- The parser's loop over tokens; e: the script's end. -/
def loopB (e : Nat) : Nat → List Tok → PR → PR
  | 0, _, r => r
  | f + 1, ts, r =>
    if ts = [] ∨ r.dgs.length = 20 then r
    else match rdB ts with
      | (some c, n) => loopB e f (ts.drop n) ⟨r.out ++ [c], r.dgs⟩
      | (none, n) => loopB e f (skipB (ts.drop n)) ⟨r.out, r.dgs ++ [posB (ts.drop n).head? e]⟩
/-- What Parse answers: commands, diagnostics (the error's number, the offset). -/
def finB (r : PR) : List PC × List (Nat × Nat) :=
  if r.dgs ≠ [] then ([], r.dgs.map fun p => (7, p))
  else if h : 300 < r.out.length then ([], [(2, (r.out[300]'h).pos)]) else (r.out, [])
def PARSE (l : List UInt8) : List PC × List (Nat × Nat) :=
  let r := LEX l
  if r.err ≠ 0 then ([], [(r.err, r.pos)]) else finB (loopB l.length (r.toks.length + 1) r.toks ⟨[], []⟩)
end Go.Proofs.YtmdogklgbifacaaDoor.Ps
