/- The head of the laws of chapter 1: fixed examples. -/
import Derived.KernelRfl
import Derived.Test.YtgfolnmaakbkcaaDoorLxSame
namespace Go.Proofs.YtgfolnmaakbkcaaDoor.Lx
open Go.RowKit
set_option linter.unusedVariables false

def spansF : Nat → List UInt8 → Nat → List Span
  | 0, _, _ => []
  | _ + 1, [], _ => []
  | n + 1, c :: r, p => ⟨p, cls c, ⟨((c :: r).take (spanLen (c :: r))).toArray⟩⟩ :: spansF n ((c :: r).drop (spanLen (c :: r))) (p + spanLen (c :: r))
theorem spansF_eq : ∀ (n : Nat) (l : List UInt8) (p : Nat), l.length ≤ n → spans l p = spansF n l p
  | 0, l, p, h => by
    obtain rfl : l = [] := List.eq_nil_of_length_eq_zero (by omega)
    rw [spans_nil]; rfl
  | n + 1, [], p, h => by rw [spans_nil]; rfl
  | n + 1, c :: r, p, h => by
    have h1 := spanLen_pos c r
    rw [spans_cons, spansF_eq n _ _ (by rw [List.length_drop]; simp only [List.length_cons] at *; omega)]
    rfl
def LEXF (l : List UInt8) : LexR := if 8000 < l.length then ⟨[], 2, 0⟩ else resOf (lexE [] (spansF l.length l 0))
theorem LEX_F (l : List UInt8) : LEX l = LEXF l := by
  unfold LEX LEXF
  rw [spansF_eq l.length l 0 (Nat.le_refl _)]

theorem fails_true (s : ByteArray) (e p : Nat) (hs : s.size ≤ 100) (he : LEX s.data.toList = ⟨[], e, p⟩) (w : World) (hw : Vars w) :
    Calls Tryd.prog 18 #[.string s, i64 (e : Nat), i64 (p : Nat)] w fun e w' => e = .returned (.bool true) ∧ Below w.heap.size w w' := by
  have hL := lex_val s (by unfold maxLen; omega) w hw
  rw [he] at hL
  have HL := Lib.hid hL
  clear hL he
  go_enter Tryd.func18, Tryd.ntmps18
  go_wp2_with fail
  refine HL.out.mono ?_
  rintro e w1 ⟨A, n, c, rfl, ⟨_, hn, _⟩, hb⟩
  obtain rfl : n = 0 := hn.symm
  go_wp2_with fail
  go_ret
  exact ⟨rfl, hb⟩

def s1 : ByteArray := ⟨#[97, 116, 32, 55, 48, 32, 114, 101, 97, 100, 32, 110, 49, 59]⟩
def s2 : ByteArray := ⟨#[49, 50, 97, 98, 59, 35, 32, 120]⟩
def t1 : List Tok := [⟨1, ⟨#[97, 116]⟩, 0, 0⟩, ⟨2, ⟨#[]⟩, 70, 3⟩, ⟨1, ⟨#[114, 101, 97, 100]⟩, 0, 6⟩, ⟨1, ⟨#[110, 49]⟩, 0, 11⟩, ⟨3, ⟨#[59]⟩, 0, 13⟩]
def t2 : List Tok := [⟨2, ⟨#[]⟩, 12, 0⟩, ⟨1, ⟨#[97, 98]⟩, 0, 2⟩, ⟨3, ⟨#[59]⟩, 0, 4⟩]
theorem lex_s1 : LEX s1.data.toList = ⟨t1, 0, 0⟩ := by rw [LEX_F]; kernel_rfl
theorem lex_s2 : LEX s2.data.toList = ⟨t2, 0, 0⟩ := by rw [LEX_F]; kernel_rfl
theorem lex_f1 : LEX (⟨#[114, 117, 110, 32, 48, 48, 55]⟩ : ByteArray).data.toList = ⟨[], 7, 4⟩ := by rw [LEX_F]; kernel_rfl
theorem lex_f2 : LEX (⟨#[114, 117, 110, 32, 49, 48, 48, 48, 48, 48, 48, 48, 48, 49]⟩ : ByteArray).data.toList = ⟨[], 3, 4⟩ := by rw [LEX_F]; kernel_rfl
theorem lex_f3 : LEX (⟨#[109, 101, 115, 104, 44, 32]⟩ : ByteArray).data.toList = ⟨[], 7, 4⟩ := by rw [LEX_F]; kernel_rfl
theorem lex_f4 : LEX (⟨#[97, 32, 97, 98, 99, 100, 101, 102, 103, 104, 105, 106, 107, 108, 109]⟩ : ByteArray).data.toList = ⟨[], 3, 2⟩ := by rw [LEX_F]; kernel_rfl

theorem eqT_refl (x : Tok) : eqT 0 x x = true := by unfold eqT; simp
theorem sameB_refl : ∀ (l : List Tok), sameB 0 l l = true
  | [] => rfl
  | x :: l => by simp only [sameB]; rw [eqT_refl, sameB_refl l]; rfl

def A1 : Array Value := #[i64 1, .string ⟨#[97, 116]⟩, i64 0, i64 0, i64 2, .string ⟨#[]⟩, i64 70, i64 3, i64 1, .string ⟨#[114, 101, 97, 100]⟩, i64 0, i64 6, i64 1, .string ⟨#[110, 49]⟩, i64 0, i64 11, i64 3, .string ⟨#[59]⟩, i64 0, i64 13]
def A2 : Array Value := #[i64 2, .string ⟨#[]⟩, i64 12, i64 0, i64 1, .string ⟨#[97, 98]⟩, i64 0, i64 2, i64 3, .string ⟨#[59]⟩, i64 0, i64 4]
set_option maxRecDepth 100000 in
set_option maxHeartbeats 2000000 in
theorem head_val (w : World) (hw : Vars w) :
    Calls Tryd.prog 9 #[] w fun e w' => e = .returned (.bool true) ∧ Below w.heap.size w w' := by
  have H1 : Hid (∀ w, Vars w → Calls Tryd.prog 10 #[.string s1] w (LexPost w ⟨t1, 0, 0⟩)) := Lib.hid (fun w hw => by rw [← lex_s1]; exact lex_val s1 (by decide) w hw)
  have H2 : Hid (∀ w, Vars w → Calls Tryd.prog 10 #[.string s2] w (LexPost w ⟨t2, 0, 0⟩)) := Lib.hid (fun w hw => by rw [← lex_s2]; exact lex_val s2 (by decide) w hw)
  have F1 := Lib.hid (fun w hw => fails_true _ 7 4 (by decide) lex_f1 w hw)
  have F2 := Lib.hid (fun w hw => fails_true _ 3 4 (by decide) lex_f2 w hw)
  have F3 := Lib.hid (fun w hw => fails_true _ 7 4 (by decide) lex_f3 w hw)
  have F4 := Lib.hid (fun w hw => fails_true _ 3 2 (by decide) lex_f4 w hw)
  unfold s1 at H1
  unfold s2 at H2
  have HW := Lib.hid hw
  clear hw
  go_enter Tryd.func9, Tryd.ntmps9
  go_wp2_with fail
  refine (H1.out _ HW.out).mono ?_
  rintro e w1 ⟨X1, n1, c1, rfl, hT1, hb1⟩
  obtain rfl : n1 = 5 := hT1.2.1.symm
  have HT1 := Lib.hid hT1
  have HB1 := Lib.hid hb1
  clear hT1 hb1
  go_wp2_with fail
  refine (H2.out _ (HW.out.up HB1.out)).mono ?_
  rintro e w2 ⟨X2, n2, c2, rfl, hT2, hb2⟩
  obtain rfl : n2 = 3 := hT2.2.1.symm
  have HT2 := Lib.hid hT2
  have HT1 := Lib.hid (HT1.out.up hb2)
  have HB2 := Lib.hid (below_trans' HB1.out hb2)
  clear hT2 hb2
  go_wp2_with fail
  refine (F1.out _ (HW.out.up HB2.out)).mono ?_
  rintro e w3 ⟨rfl, hb3⟩
  have HB3 := Lib.hid (below_trans' HB2.out hb3)
  have HT1 := Lib.hid (HT1.out.up hb3)
  have HT2 := Lib.hid (HT2.out.up hb3)
  clear hb3
  go_wp2_with fail
  refine (F2.out _ (HW.out.up HB3.out)).mono ?_
  rintro e w4 ⟨rfl, hb4⟩
  have HB4 := Lib.hid (below_trans' HB3.out hb4)
  have HT1 := Lib.hid (HT1.out.up hb4)
  have HT2 := Lib.hid (HT2.out.up hb4)
  clear hb4
  go_wp2_with fail
  refine (F3.out _ (HW.out.up HB4.out)).mono ?_
  rintro e w5 ⟨rfl, hb5⟩
  have HB5 := Lib.hid (below_trans' HB4.out hb5)
  have HT1 := Lib.hid (HT1.out.up hb5)
  have HT2 := Lib.hid (HT2.out.up hb5)
  clear hb5
  go_wp2_with fail
  refine (F4.out _ (HW.out.up HB5.out)).mono ?_
  rintro e w6 ⟨rfl, hb6⟩
  have HB6 := Lib.hid (below_trans' HB5.out hb6)
  have HT1 := Lib.hid (HT1.out.up hb6)
  have HT2 := Lib.hid (HT2.out.up hb6)
  clear hb6
  have hba : Below w6.heap.size w6 (w6.alloc (.cells A1 31)) := (Below.refl _ w6).alloc (Nat.le_refl _) _
  have hTA : Toks (w6.alloc (.cells A1 31)) (some ⟨w6.heap.size, 0, none⟩) 5 5 t1 := ⟨rd_blk (Blk.new w6 _ _) 4 5 _ rfl rfl, rfl, Nat.le_refl _, by decide⟩
  have hS1 := same_val X1 5 c1 t1 (some ⟨w6.heap.size, 0, none⟩) 5 5 t1 0 (by decide) (by decide) _ (HT1.out.up hba) hTA
  rw [sameB_refl] at hS1
  unfold A1 at hS1 hba
  have HS1 := Lib.hid hS1
  have HT2 := Lib.hid (HT2.out.up hba)
  have HBa := Lib.hid (below_trans' HB6.out hba)
  clear hS1 hTA hba
  go_wp2_with fail
  refine HS1.out.mono ?_
  rintro e w7 ⟨rfl, hb7⟩
  have HB7 := Lib.hid (below_trans' HBa.out hb7)
  have HT2 := Lib.hid (HT2.out.up hb7)
  clear hb7
  have hba : Below w7.heap.size w7 (w7.alloc (.cells A2 31)) := (Below.refl _ w7).alloc (Nat.le_refl _) _
  have hTA : Toks (w7.alloc (.cells A2 31)) (some ⟨w7.heap.size, 0, none⟩) 3 3 t2 := ⟨rd_blk (Blk.new w7 _ _) 4 3 _ rfl rfl, rfl, Nat.le_refl _, by decide⟩
  have hS2 := same_val X2 3 c2 t2 (some ⟨w7.heap.size, 0, none⟩) 3 3 t2 0 (by decide) (by decide) _ (HT2.out.up hba) hTA
  rw [sameB_refl] at hS2
  unfold A2 at hS2 hba
  have HS2 := Lib.hid hS2
  have HBb := Lib.hid (below_trans' HB7.out hba)
  clear hS2 hTA hba
  go_wp2_with fail
  refine HS2.out.mono ?_
  rintro e w8 ⟨rfl, hb8⟩
  have HB8 := Lib.hid (below_trans' HBb.out hb8)
  clear hb8
  go_wp2_with fail
  go_ret
  exact ⟨rfl, HB8.out⟩
end Go.Proofs.YtgfolnmaakbkcaaDoor.Lx
