/- The plain laws of the digests: FNV steps on UInt64, no program in sight. -/
namespace Go.Proofs.Ythaibmkieflafaa.Dig
def P : UInt64 := 1099511628211
def B : UInt64 := 14695981039346656037
def K : UInt64 := 14886173955864302971
theorem PK : P * K = 1 := by decide

def stp (x w : UInt64) : UInt64 := (x ^^^ w) * P
def dadd (x : UInt64) (l : List UInt8) : UInt64 := l.foldl (fun x c => stp x c.toUInt64) x
def dsum (l : List UInt8) : UInt64 := dadd B l
def pair (a b : UInt64) : UInt64 := stp (stp (~~~B) a) b

theorem stp_undo (x w : UInt64) : (stp x w * K) ^^^ w = x := by
  unfold stp
  rw [UInt64.mul_assoc, PK, UInt64.mul_one, UInt64.xor_assoc, UInt64.xor_self, UInt64.xor_zero]
theorem stp_undo' (x w : UInt64) : (stp x w * K) ^^^ x = w := by
  unfold stp
  rw [UInt64.mul_assoc, PK, UInt64.mul_one, UInt64.xor_comm x w, UInt64.xor_assoc, UInt64.xor_self, UInt64.xor_zero]
theorem stp_inj {x y w : UInt64} : stp x w = stp y w ↔ x = y :=
  ⟨fun h => by have := stp_undo x w; rw [h, stp_undo] at this; exact this.symm, fun h => by rw [h]⟩
theorem stp_injw {x w v : UInt64} : stp x w = stp x v ↔ w = v :=
  ⟨fun h => by have := stp_undo' x w; rw [h, stp_undo'] at this; exact this.symm, fun h => by rw [h]⟩
theorem dadd_nil (x : UInt64) : dadd x [] = x := rfl
theorem dadd_cons (x : UInt64) (c : UInt8) (l : List UInt8) : dadd x (c :: l) = dadd (stp x c.toUInt64) l := rfl
theorem dadd_append (x : UInt64) (l m : List UInt8) : dadd x (l ++ m) = dadd (dadd x l) m := by simp [dadd]
theorem dadd_snoc (x : UInt64) (l : List UInt8) (c : UInt8) : dadd x (l ++ [c]) = stp (dadd x l) c.toUInt64 := by simp [dadd]
theorem dadd_take {x : UInt64} {l : List UInt8} {k : Nat} (h : k < l.length) : dadd x (l.take (k + 1)) = stp (dadd x (l.take k)) l[k].toUInt64 := by
  rw [List.take_succ_eq_append_getElem h, dadd_snoc]
theorem dadd_inj {l : List UInt8} : ∀ {x y : UInt64}, dadd x l = dadd y l ↔ x = y := by
  induction l with
  | nil => intro x y; exact Iff.rfl
  | cons c l ih => intro x y; rw [dadd_cons, dadd_cons, ih, stp_inj]
theorem toUInt64_inj {a b : UInt8} (h : a.toUInt64 = b.toUInt64) : a = b := by
  apply UInt8.toNat_inj.1
  have := congrArg UInt64.toNat h
  simpa using this
theorem dadd_byte {x : UInt64} {pre post : List UInt8} {c d : UInt8} : dadd x (pre ++ c :: post) = dadd x (pre ++ d :: post) ↔ c = d := by
  rw [dadd_append, dadd_append, dadd_cons, dadd_cons, dadd_inj, stp_injw]
  exact ⟨toUInt64_inj, fun h => by rw [h]⟩
theorem dsum_snoc_inj {l : List UInt8} {c d : UInt8} (h : dsum (l ++ [c]) = dsum (l ++ [d])) : c = d := (dadd_byte (x := B) (pre := l) (post := [])).1 h
theorem split_at (l : List UInt8) (i : Nat) (h : i < l.length) : l = l.take i ++ l[i] :: l.drop (i + 1) := by
  rw [List.getElem_cons_drop, List.take_append_drop]
theorem set_split (l : List UInt8) (i : Nat) (h : i < l.length) (d : UInt8) : l.set i d = l.take i ++ d :: l.drop (i + 1) := by
  rw [List.set_eq_take_append_cons_drop, if_pos h]
theorem dadd_set {x : UInt64} {l : List UInt8} {i : Nat} (h : i < l.length) {d : UInt8} : dadd x l = dadd x (l.set i d) ↔ l[i] = d := by
  rw [set_split l i h d]
  conv => lhs; lhs; rw [split_at l i h]
  exact dadd_byte
theorem xor_ne {a b : UInt8} (h : b ≠ 0) : a ≠ a ^^^ b := fun e => h (by
  have : a ^^^ a = a ^^^ (a ^^^ b) := by rw [← e]
  rw [UInt8.xor_self, ← UInt8.xor_assoc, UInt8.xor_self, UInt8.zero_xor] at this
  exact this.symm)
theorem dsum_xor {x : UInt64} {l : List UInt8} {i : Nat} (h : i < l.length) {b : UInt8} (hb : b ≠ 0) : dadd x l ≠ dadd x (l.set i (l[i] ^^^ b)) :=
  fun e => xor_ne hb ((dadd_set h).1 e)
theorem pair_fst {a b c : UInt64} : pair c b = pair a b ↔ c = a := by unfold pair; rw [stp_inj, stp_injw]
theorem pair_snd {a b c : UInt64} : pair a c = pair a b ↔ c = b := by unfold pair; rw [stp_injw]
theorem pair_first (a b : UInt64) : ((pair a b * K) ^^^ b) * K ^^^ ~~~B = a := by unfold pair; rw [stp_undo, stp_undo']
theorem pair_second (a b : UInt64) : pair a b * K ^^^ ((~~~B ^^^ a) * P) = b := by
  have := stp_undo' (stp (~~~B) a) b
  exact this
end Go.Proofs.Ythaibmkieflafaa.Dig
