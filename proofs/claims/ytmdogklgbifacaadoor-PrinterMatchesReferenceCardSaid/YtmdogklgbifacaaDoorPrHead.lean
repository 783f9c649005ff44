/- The head of the printer's statements. -/
import Derived.Test.YtmdogklgbifacaaDoorPrLex
import Derived.Test.YtmdogklgbifacaaDoorFlat
namespace Go.Proofs.YtmdogklgbifacaaDoor.Pr
open Go.RowKit Go.Proofs.YtmdogklgbifacaaDoor.Lx
set_option linter.unusedVariables false

theorem cms_blk {W : World} {g : Nat} {cs : Array Value} {l : List Cm} {n : Nat} (h : Blk W g 46 cs) (hx : cs.toList = l.flatMap decC) (hn : l.length = n) (hm : n ≤ maxLen) (hg : ∀ x ∈ l, Cm.In W x) : IsCms W (some ⟨g, 0, none⟩) n n l :=
  ⟨hn, rd_blk h 4 n _ hx (by rw [← Array.length_toList, hx, flat_len (k := 4) (fun _ => rfl), hn]), Nat.le_refl _, hm, hg⟩
def k1 (A : Option Addr) : Cm := ⟨3, ⟨#[97]⟩, A, 4, 4, [1, 2, -30, 9], 0⟩
def k2 (A : Option Addr) : Cm := ⟨5, ⟨#[97]⟩, A, 1, 1, [7], 0⟩
def k3 (A : Option Addr) : Cm := ⟨8, ⟨#[]⟩, A, 6, 6, [5, 1, 2, 300, 4, 50], 0⟩
def k4 (A : Option Addr) : Cm := ⟨5, ⟨#[114, 117, 110]⟩, A, 1, 1, [7], 0⟩
def txt1 : List UInt8 := [110, 111, 100, 101, 32, 97, 32, 97, 116, 32, 49, 32, 50, 32, 115, 108, 111, 119, 32, 51, 48, 32, 98, 97, 116, 116, 101, 114, 121, 32, 57, 59, 10, 97, 116, 32, 55, 32, 102, 97, 105, 108, 32, 97, 59, 10, 97, 116, 32, 53, 32, 106, 97, 109, 32, 49, 32, 50, 32, 114, 97, 100, 105, 117, 115, 32, 51, 48, 48, 32, 99, 104, 97, 110, 110, 101, 108, 32, 52, 32, 102, 111, 114, 32, 53, 48, 59, 10]
theorem h_valid (A B C : Option Addr) : validB [k1 A, k2 B, k3 C] = true := by kernel_rfl
theorem h_out (A B C : Option Addr) : outL [k1 A, k2 B, k3 C] = txt1 := by kernel_rfl
theorem h_tok (A B C : Option Addr) : tokL [k1 A, k2 B, k3 C] = 27 := by kernel_rfl
theorem h_bad (A : Option Addr) : validB [k4 A] = false := by kernel_rfl
theorem h_one (A B C : Option Addr) : printL [k1 A, k2 B, k3 C] = (txt1, 0) := by
  rw [print_law]
  unfold rprintL
  rw [h_valid, if_neg (by decide), h_out, h_tok, if_neg (by decide)]
theorem h_none : printL [] = ([], 0) := by
  rw [print_law]
  unfold rprintL
  rw [show validB [] = true from rfl, if_neg (by decide)]
  rfl
theorem h_four (A : Option Addr) : printL [k4 A] = ([], 1) := by unfold printL; rw [if_pos (h_bad A)]

theorem in_int {W : World} {g n : Nat} {cs : Array Value} {ns : List Int} (h : Blk W g 3 cs) (hx : cs.toList = ns.map iv) (hn : ns.length = n) : Rd W W.heap.size 1 (some ⟨g, 0, none⟩) n (ns.map iv) :=
  rd_blk h 1 n _ hx (by rw [← Array.length_toList, hx, List.length_map, hn, Nat.mul_one])
theorem k1_in {W : World} {A : Option Addr} (h : Rd W W.heap.size 1 A 4 (([1, 2, -30, 9] : List Int).map iv)) : Cm.In W (k1 A) :=
  ⟨show w64 3 by decide, show (⟨#[97]⟩ : ByteArray).size ≤ maxLen by decide, h, rfl, Nat.le_refl _, show 4 ≤ maxLen by decide, show ∀ v ∈ ([1, 2, -30, 9] : List Int), w64 v by decide, show w64 0 by decide⟩
theorem k2_in {W : World} {A : Option Addr} (h : Rd W W.heap.size 1 A 1 (([7] : List Int).map iv)) : Cm.In W (k2 A) :=
  ⟨show w64 5 by decide, show (⟨#[97]⟩ : ByteArray).size ≤ maxLen by decide, h, rfl, Nat.le_refl _, show 1 ≤ maxLen by decide, show ∀ v ∈ ([7] : List Int), w64 v by decide, show w64 0 by decide⟩
theorem k3_in {W : World} {A : Option Addr} (h : Rd W W.heap.size 1 A 6 (([5, 1, 2, 300, 4, 50] : List Int).map iv)) : Cm.In W (k3 A) :=
  ⟨show w64 8 by decide, show (⟨#[]⟩ : ByteArray).size ≤ maxLen by decide, h, rfl, Nat.le_refl _, show 6 ≤ maxLen by decide, show ∀ v ∈ ([5, 1, 2, 300, 4, 50] : List Int), w64 v by decide, show w64 0 by decide⟩
theorem k4_in {W : World} {A : Option Addr} (h : Rd W W.heap.size 1 A 1 (([7] : List Int).map iv)) : Cm.In W (k4 A) :=
  ⟨show w64 5 by decide, show (⟨#[114, 117, 110]⟩ : ByteArray).size ≤ maxLen by decide, h, rfl, Nat.le_refl _, show 1 ≤ maxLen by decide, show ∀ v ∈ ([7] : List Int), w64 v by decide, show w64 0 by decide⟩
def hw1 (w : World) : World := ((w.alloc (.cells #[.int .i64 1, .int .i64 2, .int .i64 (-30), .int .i64 9] 3)).alloc (.cells #[.int .i64 7] 3)).alloc (.cells #[.int .i64 5, .int .i64 1, .int .i64 2, .int .i64 300, .int .i64 4, .int .i64 50] 3)
def hcs (g : Nat) : Array Value := #[.int .i64 3, .string ⟨#[97]⟩, .slice (some ⟨g, 0, none⟩) 4 4, .int .i64 0, .int .i64 5, .string ⟨#[97]⟩, .slice (some ⟨g + 1, 0, none⟩) 1 1, .int .i64 0, .int .i64 8, .string ⟨#[]⟩, .slice (some ⟨g + 1 + 1, 0, none⟩) 6 6, .int .i64 0]
theorem h_cms (w : World) : IsCms ((hw1 w).alloc (.cells (hcs w.heap.size) 46)) (some ⟨w.heap.size + 1 + 1 + 1, 0, none⟩) 3 3 [k1 (some ⟨w.heap.size, 0, none⟩), k2 (some ⟨w.heap.size + 1, 0, none⟩), k3 (some ⟨w.heap.size + 1 + 1, 0, none⟩)] ∧ Below w.heap.size w ((hw1 w).alloc (.cells (hcs w.heap.size) 46)) := by
  have s1 : (hw1 w).heap.size = w.heap.size + 1 + 1 + 1 := by unfold hw1; simp
  have b1 : Blk (hw1 w) w.heap.size 3 #[.int .i64 1, .int .i64 2, .int .i64 (-30), .int .i64 9] := ((Blk.new w _ _).alloc _).alloc _
  have b2 : Blk (hw1 w) (w.heap.size + 1) 3 #[.int .i64 7] := by
    have := (Blk.new (w.alloc (.cells #[.int .i64 1, .int .i64 2, .int .i64 (-30), .int .i64 9] 3)) 3 #[.int .i64 7]).alloc (.cells #[.int .i64 5, .int .i64 1, .int .i64 2, .int .i64 300, .int .i64 4, .int .i64 50] 3)
    rw [World.size_alloc] at this
    exact this
  have b3 : Blk (hw1 w) (w.heap.size + 1 + 1) 3 #[.int .i64 5, .int .i64 1, .int .i64 2, .int .i64 300, .int .i64 4, .int .i64 50] := by
    have := Blk.new ((w.alloc (.cells #[.int .i64 1, .int .i64 2, .int .i64 (-30), .int .i64 9] 3)).alloc (.cells #[.int .i64 7] 3)) 3 #[.int .i64 5, .int .i64 1, .int .i64 2, .int .i64 300, .int .i64 4, .int .i64 50]
    rw [World.size_alloc, World.size_alloc] at this
    exact this
  have b4 : Blk ((hw1 w).alloc (.cells (hcs w.heap.size) 46)) (w.heap.size + 1 + 1 + 1) 46 (hcs w.heap.size) := by
    have := Blk.new (hw1 w) 46 (hcs w.heap.size)
    rw [s1] at this
    exact this
  refine ⟨cms_blk b4 rfl rfl (by decide) (fun x hx => ?_), ?_⟩
  · simp only [List.mem_cons, List.not_mem_nil, or_false] at hx
    rcases hx with rfl | rfl | rfl
    · exact k1_in (in_int (b1.alloc _) rfl rfl)
    · exact k2_in (in_int (b2.alloc _) rfl rfl)
    · exact k3_in (in_int (b3.alloc _) rfl rfl)
  · unfold hw1
    refine ((((Below.refl _ w).alloc (Nat.le_refl _) _).alloc ?_ _).alloc ?_ _).alloc ?_ _ <;> simp <;> omega
theorem h_cms4 (w : World) : IsCms ((w.alloc (.cells #[.int .i64 7] 3)).alloc (.cells #[.int .i64 5, .string ⟨#[114, 117, 110]⟩, .slice (some ⟨w.heap.size, 0, none⟩) 1 1, .int .i64 0] 46)) (some ⟨w.heap.size + 1, 0, none⟩) 1 1 [k4 (some ⟨w.heap.size, 0, none⟩)] ∧ Below w.heap.size w ((w.alloc (.cells #[.int .i64 7] 3)).alloc (.cells #[.int .i64 5, .string ⟨#[114, 117, 110]⟩, .slice (some ⟨w.heap.size, 0, none⟩) 1 1, .int .i64 0] 46)) := by
  have b1 := (Blk.new w 3 #[.int .i64 7]).alloc (.cells #[.int .i64 5, .string ⟨#[114, 117, 110]⟩, .slice (some ⟨w.heap.size, 0, none⟩) 1 1, .int .i64 0] 46)
  have b4 := Blk.new (w.alloc (.cells #[.int .i64 7] 3)) 46 #[.int .i64 5, .string ⟨#[114, 117, 110]⟩, .slice (some ⟨w.heap.size, 0, none⟩) 1 1, .int .i64 0]
  rw [World.size_alloc] at b4
  refine ⟨cms_blk b4 rfl rfl (by decide) (fun x hx => ?_), ?_⟩
  · simp only [List.mem_cons, List.not_mem_nil, or_false] at hx
    subst hx
    exact k4_in (in_int b1 rfl rfl)
  · refine ((Below.refl _ w).alloc (Nat.le_refl _) _).alloc ?_ _
    simp
theorem cms_nil (w : World) : IsCms w none 0 0 [] := ⟨rfl, Rd.nil_, Nat.le_refl _, by decide, fun x hx => by cases hx⟩
set_option maxRecDepth 100000 in
set_option maxHeartbeats 2000000 in
theorem head_val (w : World) (hv : VarP w) :
    Calls Tryd.prog 10 #[] w fun e w' => e = .returned (.bool true) ∧ Below w.heap.size w w' := by
  have HV := Lib.hid hv
  clear hv
  obtain ⟨hc1, hb1⟩ := h_cms w
  have HP1 := Lib.hid (print_val _ _ _ _ _ hc1 (HV.out.up hb1))
  rw [h_one] at HP1
  have HB1 := Lib.hid hb1
  clear hc1 hb1
  unfold hw1 hcs at HP1 HB1
  go_enter Tryd.func10, Tryd.ntmps10
  go_wp2_with fail
  refine HP1.out.mono ?_
  rintro e w1 ⟨rfl, hb1⟩
  have HB2 := Lib.hid (below_trans' HB1.out hb1)
  clear hb1
  have HP2 := Lib.hid (print_val _ _ _ _ _ (cms_nil w1) (HV.out.up HB2.out))
  rw [h_none] at HP2
  go_wp2_with fail
  refine HP2.out.mono ?_
  rintro e w2 ⟨rfl, hb2⟩
  have HB3 := Lib.hid (below_trans' HB2.out hb2)
  clear hb2
  obtain ⟨hc4, hb4⟩ := h_cms4 w2
  have HP3 := Lib.hid (print_val _ _ _ _ _ hc4 ((HV.out.up HB3.out).up hb4))
  rw [h_four] at HP3
  have HB4 := Lib.hid (below_trans' HB3.out hb4)
  clear hc4 hb4
  go_wp2_with fail
  refine HP3.out.mono ?_
  rintro e w3 ⟨rfl, hb3⟩
  have HB5 := Lib.hid (below_trans' HB4.out hb3)
  clear hb3
  go_wp2_with fail
  go_ret
  exact ⟨rfl, HB5.out⟩
end Go.Proofs.YtmdogklgbifacaaDoor.Pr
