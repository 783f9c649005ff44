/- A region that draws its order, by an invariant that is kept by each of its operations in whatever order they come; and two appends in a row to a literal, as such an invariant. -/
import Derived.RegionTactic
import Derived.StillTail
import Derived.Great.BuildSlice
import Derived.Laws.Rows
import Derived.Test.YtmdogklgbifacaaDoorBas
namespace Go.Proofs.YtmdogklgbifacaaDoor
open Go.RowKit
set_option linter.unusedVariables false

/-- Which operations have been listed, one more. -/
def upd (b : Nat → Bool) (m : Nat) : Nat → Bool := fun j => if j = m then true else b j
def left (b : Nat → Bool) : Nat → Nat
  | 0 => 0
  | k + 1 => left b k + if b k = true then 0 else 1
theorem left_far (b : Nat → Bool) (m : Nat) : ∀ k, k ≤ m → left (upd b m) k = left b k
  | 0, _ => rfl
  | k + 1, h => by
    have : upd b m k = b k := if_neg (by omega)
    unfold left
    rw [left_far b m k (by omega), this]
theorem left_upd (b : Nat → Bool) (m : Nat) (hb : b m = false) : ∀ k, m < k → left (upd b m) k + 1 = left b k
  | 0, h => absurd h (by omega)
  | k + 1, h => by
    unfold left
    by_cases e : m = k
    · subst e
      rw [left_far b m m (Nat.le_refl _), hb, show upd b m m = true from if_pos rfl]
      simp
    · have h1 : upd b m k = b k := if_neg (Ne.symm e)
      have := left_upd b m hb k (by omega)
      rw [h1]
      omega
theorem left_zero (b : Nat → Bool) : ∀ k, left b k = 0 → ∀ j, j < k → b j = true
  | 0, _, j, hj => absurd hj (by omega)
  | k + 1, h, j, hj => by
    unfold left at h
    by_cases e : j = k
    · subst e
      cases hbj : b j
      · rw [hbj] at h; simp at h
      · rfl
    · exact left_zero b k (by omega) j (by omega)

section
variable {P : Program} {ops : Array Oper} {Q : Exit → Act → World → Prop} {md : Region.Mode}
def lst (listed : Array Bool) : Nat → Bool := fun j => listed.getD j false
theorem lst_set {listed : Array Bool} {m : Nat} (h : m < listed.size) : lst (listed.setIfInBounds m true) = upd (lst listed) m := by
  funext j
  unfold lst upd
  by_cases e : j = m
  · subst e; simp [Array.getD_eq_getD_getElem?, h]
  · simp [Array.getD_eq_getD_getElem?, Array.getElem?_setIfInBounds_ne (Ne.symm e), e]

def ordB (md : Region.Mode) : Nat → List Oper → Bool
  | _, [] => true
  | m, o :: l => (o.after.all fun e => !Region.binds md e || decide (e.on < m)) && ordB md (m + 1) l
theorem ordB_spec : ∀ (l : List Oper) (m : Nat), ordB md m l = true → ∀ j o, l[j]? = some o → ∀ e ∈ o.after, Region.binds md e = true → e.on < m + j
  | [], _, _, j, o, h => by simp at h
  | o :: l, m, hB, j, o', h => by
    simp only [ordB, Bool.and_eq_true] at hB
    rcases j with _ | j
    · simp at h
      subst h
      intro e he hb
      have := Array.all_eq_true'.1 hB.1 e he
      simpa [hb] using this
    · intro e he hb
      have := ordB_spec l (m + 1) hB.2 j o' (by simpa using h) e he hb
      omega

def Steps (P : Program) (md : Region.Mode) (Q : Exit → Act → World → Prop) (I : (Nat → Bool) → Act → World → Prop) : Nat → List Oper → Prop
  | _, [] => True
  | m, o :: l => (o.guard = none ∧ ∀ b a w, b m = false → (∀ e ∈ o.after, Region.binds md e = true → b e.on = true) → I b a w → Oper.wp P o a w (I (upd b m)) Q) ∧ Steps P md Q I (m + 1) l
theorem Steps_at {I : (Nat → Bool) → Act → World → Prop} : ∀ (l : List Oper) (m : Nat), Steps P md Q I m l → ∀ j o, l[j]? = some o →
    o.guard = none ∧ ∀ b a w, b (m + j) = false → (∀ e ∈ o.after, Region.binds md e = true → b e.on = true) → I b a w → Oper.wp P o a w (I (upd b (m + j))) Q
  | [], _, _, j, o, h => by simp at h
  | o :: l, m, hS, j, o', h => by
    rcases j with _ | j
    · simp at h
      subst h
      exact hS.1
    · have := Steps_at l (m + 1) hS.2 j o' (by simpa using h)
      rw [show m + 1 + j = m + (j + 1) by omega] at this
      exact this

theorem all_listed {listed : Array Bool} (hsz : listed.size = ops.size) (hB : ordB md 0 ops.toList = true) (hr : Region.ready md ops listed = []) : ∀ j, j < ops.size → lst listed j = true := by
  intro j
  induction j using Nat.strongRecOn with
  | _ j ih =>
    intro hj
    cases hl : lst listed j
    · exfalso
      have : j ∈ Region.ready md ops listed := by
        refine mem_ready.2 ⟨?_, ops[j], by simp [hj], fun e he hb => ?_⟩
        · unfold lst at hl
          rw [Array.getD_eq_getD_getElem?, Array.getElem?_eq_getElem (by omega)] at hl ⊢
          exact hl
        · have := ordB_spec _ _ hB j ops[j] (by simp [hj]) e he hb
          exact ih e.on (by omega) (by omega)
      rw [hr] at this
      cases this
    · rfl

theorem wpAny_inv (I : (Nat → Bool) → Act → World → Prop) (hB : ordB md 0 ops.toList = true) (hS : Steps P md Q I 0 ops.toList) (hend : ∀ b a w, (∀ j, j < ops.size → b j = true) → I b a w → Q .normal a w) :
    ∀ (fuel : Nat) (listed : Array Bool) (a : Act) (w : World), listed.size = ops.size → left (lst listed) ops.size ≤ fuel → I (lst listed) a w → wpAny P md ops Q fuel listed a w
  | 0, listed, a, w, hsz, hl, h => by
    have hall := left_zero _ _ (Nat.le_zero.1 hl)
    refine ⟨?_, hend _ _ _ hall h⟩
    rw [List.eq_nil_iff_forall_not_mem]
    intro i hi
    obtain ⟨h1, o, ho, _⟩ := mem_ready.1 hi
    have hlt : i < ops.size := by
      rcases Nat.lt_or_ge i ops.size with h | h
      · exact h
      · rw [Array.getElem?_eq_none h] at ho; cases ho
    have := hall i hlt
    unfold lst at this
    rw [getD_both h1] at this
    cases this
  | fuel + 1, listed, a, w, hsz, hl, h => by
    refine ⟨fun hr => hend _ _ _ (all_listed hsz hB hr) h, fun i hi => ?_⟩
    obtain ⟨h1, o, ho, hdep⟩ := mem_ready.1 hi
    have hlt : i < ops.size := by
      rcases Nat.lt_or_ge i ops.size with h | h
      · exact h
      · rw [Array.getElem?_eq_none h] at ho; cases ho
    have hun : lst listed i = false := getD_both h1
    obtain ⟨hg, hst⟩ := Steps_at ops.toList 0 hS i o (by simpa using ho)
    rw [Nat.zero_add] at hst
    have hgo := hst (lst listed) a w hun (fun e he hb => hdep e he hb) h
    unfold wpOp
    simp only [ho]
    rw [if_pos (by simp [Region.wanted, hg])]
    refine .inl (Oper.wp_mono (fun a' w' h' => ?_) hgo)
    have hls := lst_set (listed := listed) (m := i) (by omega)
    refine wpAny_inv I hB hS hend fuel _ a' w' (by simpa using hsz) ?_ (by rw [hls]; exact h')
    rw [hls]
    have := left_upd (lst listed) i hun ops.size hlt
    omega

/-- THE RULE: J names the frame at the region's door. -/
theorem wp_region_inv (J : Act → (Nat → Bool) → Act → World → Prop) {id : Nat} {a : Act} {w : World} {l : List Oper} (hm : P.follows .mixedOrders = true) (hB : ordB .any 0 l = true) (h0 : J a (fun _ => false) a w.drew)
    (hS : Steps P .any Q (J a) 0 l) (hend : ∀ b a' w', (∀ j, j < l.length → b j = true) → J a b a' w' → Q .normal a' w') : (Code.region id l.toArray true).wp P Q a w := by
  refine wp_region_any hm (wpAny_inv (J a) hB hS (fun b a' w' hb => hend b a' w' (by simpa using hb)) _ _ _ _ (by simp) ?_ ?_)
  · have : ∀ (b : Nat → Bool) k, left b k ≤ k := by
      intro b k
      induction k with
      | zero => exact Nat.le_refl _
      | succ k ih => unfold left; split <;> omega
    exact this _ _
  · have : lst (Array.replicate l.toArray.size false) = fun _ => false := by
      funext j
      exact getD_replicate_false _ _
    rw [this]
    exact h0

/-- append, as an operation. -/
theorem wp_append_rd2 {o : Oper} {a : Act} {w : World} {K : Act → World → Prop} (hgd : o.guard = none) (s x : Operand) (t : TypeId)
    (ho : o.op = .call { callee := .builtin .append, args := #[s, x], argTypes := #[t, t] })
    (base : Nat) (e : TypeId) (i : TypeInfo) (z : Value) (size bytes : Nat) (ht : P.underlying t = some (.slice e)) (hi : P.info? e = some i) (hz : i.zero = some z)
    (hsize : i.size = size) (hby : i.bytes = bytes) (hzs : z.cells.size = size) (hsz : 0 < size)
    (v : Value) (n : Nat) (xs : List Value) (hs : a.eval s = v) (hown : w.ownsRow base e size v n xs)
    (B : Nat) (A : Option Addr) (m c : Nat) (news : List Value) (hx : a.eval x = .slice A m c) (hr : Rd w B size A m news) (h1 : ∀ u ∈ news, u.oneCell' = true)
    (h63 : n + m ≤ maxLen) (hbytes : (n + m) * bytes ≤ 140737488355328) (hbase : base ≤ w.heap.size)
    (h : ∀ A' c' w', w'.ownsRow base e size (.slice A' (n + m) c') (n + m) (xs ++ news) → w.grownBy w' v.ownBlock → ((Value.slice A' (n + m) c').ownBlock = v.ownBlock ∨ (Value.slice A' (n + m) c').ownBlock = some w.heap.size) → K (a.put o.dst (.slice A' (n + m) c')) w') : Oper.wp P o a w K Q := by
  have := step_append_rd2 (P := P) w (ops := #[]) (E := True) (Q := Q) hgd s x t ho base e i z size bytes ht hi hz hsize hby hzs hsz v n xs hs hown B A m c news hx hr h1 h63 hbytes hbase (fun A' c' w' h2 _ h3 h4 => h A' c' w' h2 h3 h4)
  rwa [if_pos (by simp [Region.wanted, hgd])] at this
end

/-- A frame with the slots of L laid over by f. -/
def over (a : Act) (f : Nat → Value) : List Nat → Act
  | [] => a
  | i :: L => over (a.put (some i) (f i)) f L
theorem over_size (f : Nat → Value) : ∀ (L : List Nat) (a : Act), (over a f L).tmps.size = a.tmps.size
  | [], _ => rfl
  | i :: L, a => by unfold over; rw [over_size f L]; simp [Act.put]
theorem over_defers (f : Nat → Value) : ∀ (L : List Nat) (a : Act), (over a f L).defers = a.defers
  | [], _ => rfl
  | i :: L, a => by unfold over; rw [over_defers f L]; rfl
theorem over_get (f : Nat → Value) : ∀ (L : List Nat) (a : Act) (j : Nat), (over a f L).tmps[j]? = if j ∈ L ∧ j < a.tmps.size then some (f j) else a.tmps[j]?
  | [], _, j => by simp [over]
  | i :: L, a, j => by
    unfold over
    rw [over_get f L]
    have hs : (a.put (some i) (f i)).tmps.size = a.tmps.size := by simp [Act.put]
    rw [hs]
    by_cases hj : j < a.tmps.size
    · by_cases h : j ∈ L
      · rw [if_pos ⟨h, hj⟩, if_pos ⟨List.mem_cons_of_mem _ h, hj⟩]
      · rw [if_neg (fun x => h x.1)]
        by_cases e : i = j
        · subst e
          rw [if_pos ⟨List.mem_cons_self, hj⟩]
          simp [Act.put, hj]
        · rw [if_neg (fun x => by rcases List.mem_cons.1 x.1 with r | r; exact e r.symm; exact h r)]
          simp [Act.put, Array.getElem?_setIfInBounds_ne e]
    · rw [if_neg (fun x => hj x.2), if_neg (fun x => hj x.2)]
      simp only [Act.put]
      rw [Array.getElem?_eq_none (by simp; omega), Array.getElem?_eq_none (by omega)]
theorem act_ext {a b : Act} (h1 : a.defers = b.defers) (h2 : ∀ j : Nat, a.tmps[j]? = b.tmps[j]?) : a = b := by
  obtain ⟨s, d⟩ := a
  obtain ⟨s', d'⟩ := b
  obtain rfl : d = d' := h1
  obtain rfl : s = s' := Array.ext_getElem? h2
  rfl
/-- One slot of f, anew. -/
def upv (f : Nat → Value) (i : Nat) (v : Value) : Nat → Value := fun j => if j = i then v else f j
theorem over_put {f : Nat → Value} {L : List Nat} {a : Act} {i : Nat} (hi : i ∈ L) (v : Value) : (over a f L).put (some i) v = over a (upv f i v) L := by
  refine act_ext (by rw [over_defers]; exact over_defers f L a) fun j => ?_
  rw [over_get]
  simp only [Act.put]
  by_cases e : i = j
  · subst e
    by_cases hj : i < a.tmps.size
    · rw [if_pos ⟨hi, hj⟩]
      simp [upv, over_size, hj]
    · rw [if_neg (fun x => hj x.2), Array.getElem?_eq_none (by simp [over_size]; omega), Array.getElem?_eq_none (by omega)]
  · rw [Array.getElem?_setIfInBounds_ne e, over_get]
    simp only [upv, if_neg (Ne.symm e)]
theorem over_eval {f : Nat → Value} {L : List Nat} {a : Act} {i : Nat} (hi : i ∈ L) (hs : i < a.tmps.size) : (over a f L).eval (.tmp i) = f i := by
  simp only [Act.eval]
  rw [Array.getD_eq_getD_getElem?, over_get, if_pos ⟨hi, hs⟩]
  rfl
theorem over_eval_ne {f : Nat → Value} {L : List Nat} {a : Act} {i : Nat} (hi : i ∉ L) : (over a f L).eval (.tmp i) = a.eval (.tmp i) := by
  simp only [Act.eval]
  rw [Array.getD_eq_getD_getElem?, over_get, if_neg (fun x => hi x.1), Array.getD_eq_getD_getElem?]
theorem over_self (a : Act) (L : List Nat) : over a (fun i => a.tmps.getD i undef) L = a := by
  refine act_ext (over_defers _ _ _) fun j => ?_
  rw [over_get]
  by_cases h : j ∈ L ∧ j < a.tmps.size
  · rw [if_pos h, Array.getD_eq_getD_getElem?, Array.getElem?_eq_getElem h.2]
    rfl
  · rw [if_neg h]

section
variable {P : Program} {Q : Exit → Act → World → Prop}
/-- THE RULE, the frame at the door forgotten but for F. -/
theorem wp_region_inv' (F : Act → Prop) (J : Act → (Nat → Bool) → Act → World → Prop) {id : Nat} {a : Act} {w : World} {l : List Oper} (hm : P.follows .mixedOrders = true) (hB : ordB .any 0 l = true) (hF : F a) (h0 : ∀ a0, J a0 (fun _ => false) a0 w.drew)
    (hS : ∀ a0, F a0 → Steps P .any Q (J a0) 0 l) (hend : ∀ b a' w', (∀ j, j < l.length → b j = true) → J a b a' w' → Q .normal a' w') : (Code.region id l.toArray true).wp P Q a w :=
  wp_region_inv J hm hB (h0 a) (hS a hF) hend

theorem wp_move {o : Oper} {a : Act} {w : World} {K : Act → World → Prop} (x : Operand) (ho : o.op = .move x) (h : K (a.put o.dst (a.eval x)) w) : Oper.wp P o a w K Q := by
  unfold Oper.wp execOp
  simp only [ho, Sem.run_pure]
  exact h
theorem wp_assign {o : Oper} {a : Act} {w : World} {K : Act → World → Prop} (x : Operand) (ho : o.op = .assign x) (h : K (a.put o.dst (a.eval x)) w) : Oper.wp P o a w K Q := by
  unfold Oper.wp execOp
  simp only [ho, Sem.run_pure]
  exact h
end

section
variable {P : Program} {Q : Exit → Act → World → Prop}
/-- []T{} -/
theorem wp_build0 {o : Oper} {a : Act} {w : World} {K : Act → World → Prop} (t e : TypeId) (ho : o.op = .buildSlice t 0 #[]) (ie : TypeInfo) (z : Value)
    (hu : P.underlying t = some (.slice e)) (hie : P.info? e = some ie) (hz : ie.zero = some z) (hs : 0 < ie.size)
    (h : K (a.put o.dst (.slice (some ⟨w.heap.size, 0, none⟩) 0 0)) (w.alloc (.cells #[] e))) : o.wp P a w K Q := by
  have hr : (Instr.buildSlice t 0 #[]).run P w = .ok (.slice (some ⟨w.heap.size, 0, none⟩) 0 0) (w.alloc (.cells #[] e)) := by
    have hf : Instr.fill (fun i => some (i * ie.size, ie.size)) (Array.map (fun _ => (default : Value)) (Array.range 0)) [] = some #[] := by simp [Instr.fill]
    simp [Instr.buildSlice, run_underlying hu, sizeOf, typeInfo, hie, newRow]
    rw [hf]
    simp
  unfold Oper.wp execOp
  simp only [ho, List.map_toArray, List.map_nil, Sem.run_bind, hr, Result.andThen_ok]
  exact h
/-- []T{x}, T a struct. -/
theorem wp_build1 {o : Oper} {a : Act} {w : World} {K : Act → World → Prop} (t e : TypeId) (x : Operand) (ho : o.op = .buildSlice t 1 #[(0, x)]) (ie : TypeInfo) (z : Value) (ea : Array Value)
    (hu : P.underlying t = some (.slice e)) (hie : P.info? e = some ie) (hz : ie.zero = some z) (hs : ie.size = ea.size) (h0 : 0 < ea.size) (hsm : ea.size ≤ 100) (hx : a.eval x = .agg ea)
    (hf : Instr.fill (fun i => some (i * ea.size, ea.size)) ((Array.range (1 * ea.size)).map (z.cells[· % z.cells.size]!)) [(0, .agg ea)] = some ea)
    (h : K (a.put o.dst (.slice (some ⟨w.heap.size, 0, none⟩) 1 1)) (w.alloc (.cells ea e))) : o.wp P a w K Q :=
  wp_buildSlice t e 1 _ ho ea ie z hu hie hz (by rw [hs]; omega) (by rw [hs]; omega) (by simp only [List.map_toArray, List.map_cons, List.map_nil, hx, hs]; exact hf) h
end

/-- append(append([]T{}, xs..), el): what is known when which of its four operations have come. -/
structure Ch (base : Nat) (T : TypeId) (S : Nat) (n : Nat) (xs : List Value) (el : Array Value) (b0 b1 b2 b3 : Bool) (x0 x1 x2 x3 : Value) (w : World) : Prop where
  o0 : b0 = true → b1 = false → w.ownsRow base T S x0 0 []
  o1 : b1 = true → b3 = false → w.ownsRow base T S x1 n xs
  o2 : b2 = true → b3 = false → ∃ g, x2 = .slice (some ⟨g, 0, none⟩) 1 1 ∧ Blk w g T el ∧ base ≤ g ∧ (b0 = true → b1 = false → x0.ownBlock ≠ some g) ∧ (b1 = true → x1.ownBlock ≠ some g)
  o3 : b3 = true → w.ownsRow base T S x3 (n + 1) (xs ++ el.toList)
  od : b3 = true → b1 = true

theorem own_type {w : World} {base base' S S' n n' : Nat} {T T' : TypeId} {v v' : Value} {xs xs' : List Value} (h : w.ownsRow base T S v n xs) (h' : w.ownsRow base' T' S' v' n' xs') (hne : T ≠ T') : v.ownBlock = none ∨ v.ownBlock ≠ v'.ownBlock := by
  rcases h.2 with ⟨rfl, _⟩ | ⟨g, cap, cur, rfl, hb, hg, _⟩
  · exact .inl rfl
  · right
    rcases h'.2 with ⟨rfl, _⟩ | ⟨g', cap', cur', rfl, hb', hg', _⟩
    · simp [Value.ownBlock]
    · simp only [Value.ownBlock, ne_eq, Option.some.injEq]
      intro e
      subst e
      rw [hg] at hg'
      injection hg' with e
      injection e with e1 e2
      exact hne e2
theorem blk_type {w : World} {g base' S' n' : Nat} {T T' : TypeId} {v' : Value} {cs : Array Value} {xs' : List Value} (h : Blk w g T cs) (h' : w.ownsRow base' T' S' v' n' xs') (hne : T ≠ T') : some g ≠ v'.ownBlock := by
  rcases h'.2 with ⟨rfl, _⟩ | ⟨g', cap', cur', rfl, hb', hg', _⟩
  · simp [Value.ownBlock]
  · simp only [Value.ownBlock, ne_eq, Option.some.injEq]
    intro e
    subst e
    rw [show w.heap[g]? = _ from h] at hg'
    injection hg' with e
    injection e with e1 e2
    exact hne e2

section
variable {base S n : Nat} {T : TypeId} {xs : List Value} {el : Array Value} {b0 b1 b2 b3 : Bool} {x0 x1 x2 x3 : Value} {w w' : World}
theorem Ch.first (x0 x1 x2 x3 : Value) : Ch base T S n xs el false false false false x0 x1 x2 x3 w := ⟨fun h => (by cases h), fun h => (by cases h), fun h => (by cases h), fun h => (by cases h), fun h => (by cases h)⟩
/-- Another row of another type is written. -/
theorem Ch.grown {base' S' n' : Nat} {T' : TypeId} {v' : Value} {xs' : List Value} (h : Ch base T S n xs el b0 b1 b2 b3 x0 x1 x2 x3 w) (h' : w.ownsRow base' T' S' v' n' xs') (hne : T ≠ T') (hg : w.grownBy w' v'.ownBlock) : Ch base T S n xs el b0 b1 b2 b3 x0 x1 x2 x3 w' :=
  ⟨fun p q => (h.o0 p q).kept hg (own_type (h.o0 p q) h' hne), fun p q => (h.o1 p q).kept hg (own_type (h.o1 p q) h' hne),
   fun p q => by
    obtain ⟨g, e, hb, hbg, r⟩ := h.o2 p q
    exact ⟨g, e, hb.grown hg (blk_type hb h' hne), hbg, r⟩,
   fun p => (h.o3 p).kept hg (own_type (h.o3 p) h' hne), h.od⟩
theorem Ch.alloc (h : Ch base T S n xs el b0 b1 b2 b3 x0 x1 x2 x3 w) (o : Obj) : Ch base T S n xs el b0 b1 b2 b3 x0 x1 x2 x3 (w.alloc o) :=
  ⟨fun p q => (h.o0 p q).alloc o, fun p q => (h.o1 p q).alloc o,
   fun p q => by
    obtain ⟨g, e, hb, hbg, r⟩ := h.o2 p q
    exact ⟨g, e, hb.alloc o, hbg, r⟩,
   fun p => (h.o3 p).alloc o, h.od⟩
theorem Ch.make0 (h : Ch base T S n xs el b0 b1 b2 b3 x0 x1 x2 x3 w) (hbase : base ≤ w.heap.size) : Ch base T S n xs el true b1 b2 b3 (.slice (some ⟨w.heap.size, 0, none⟩) 0 0) x1 x2 x3 (w.alloc (.cells #[] T)) := by
  refine ⟨fun _ _ => World.ownsRow_lit w #[] 0 hbase (by decide) (by simp), fun p q => (h.o1 p q).alloc _, fun p q => ?_, fun p => (h.o3 p).alloc _, h.od⟩
  obtain ⟨g, e, hb, hbg, _, r⟩ := h.o2 p q
  refine ⟨g, e, hb.alloc _, hbg, fun _ _ => ?_, r⟩
  have := hb.lt
  simp only [Value.ownBlock, ne_eq, Option.some.injEq]
  omega
theorem Ch.make2 (h : Ch base T S n xs el b0 b1 b2 b3 x0 x1 x2 x3 w) (hbase : base ≤ w.heap.size) : Ch base T S n xs el b0 b1 true b3 x0 x1 (.slice (some ⟨w.heap.size, 0, none⟩) 1 1) x3 (w.alloc (.cells el T)) := by
  refine ⟨fun p q => (h.o0 p q).alloc _, fun p q => (h.o1 p q).alloc _, fun _ q => ⟨w.heap.size, rfl, Blk.new w T el, hbase, fun p q e => ?_, fun p e => ?_⟩, fun p => (h.o3 p).alloc _, h.od⟩
  · have := ((h.o0 p q).lt _ e).2
    omega
  · have := ((h.o1 p q).lt _ e).2
    omega
theorem Ch.app1 {v : Value} (h : Ch base T S n xs el b0 false b2 b3 x0 x1 x2 x3 w) (h0 : b0 = true) (ho : w'.ownsRow base T S v n xs) (hg : w.grownBy w' x0.ownBlock) (hk : v.ownBlock = x0.ownBlock ∨ v.ownBlock = some w.heap.size) : Ch base T S n xs el b0 true b2 b3 x0 v x2 x3 w' := by
  refine ⟨fun _ p => (by cases p), fun _ _ => ho, fun p q => ?_, fun p => absurd (h.od p) (by decide), fun _ => rfl⟩
  obtain ⟨g, e, hb, hbg, r, _⟩ := h.o2 p q
  refine ⟨g, e, hb.grown hg (Ne.symm (r h0 rfl)), hbg, fun _ p => (by cases p), fun _ he => ?_⟩
  rcases hk with hk | hk
  · exact r h0 rfl (hk.symm.trans he)
  · rw [hk] at he
    injection he with he
    have := hb.lt
    omega
theorem Ch.app2 {v : Value} (h : Ch base T S n xs el b0 b1 b2 b3 x0 x1 x2 x3 w) (hb : b1 = true) (ho : w'.ownsRow base T S v (n + 1) (xs ++ el.toList)) : Ch base T S n xs el b0 b1 b2 true x0 x1 x2 v w' :=
  ⟨fun _ p => (by rw [hb] at p; cases p), fun _ p => (by cases p), fun _ p => (by cases p), fun _ => ho, fun _ => hb⟩
end
theorem blk_old {w : World} {base S n k : Nat} {T : TypeId} {v : Value} {xs : List Value} (h : w.ownsRow base T S v n xs) (hk : k < base) : some k ≠ v.ownBlock := fun e => by
  have := (h.lt k e.symm).1
  omega
end Go.Proofs.YtmdogklgbifacaaDoor
