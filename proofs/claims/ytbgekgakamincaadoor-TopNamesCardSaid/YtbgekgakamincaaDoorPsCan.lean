/- What is parsed is valid; other gaps, the same commands; the canonical text hangs on the commands alone. -/
import Derived.Test.YtbgekgakamincaaDoorPsD
import Derived.Test.YtbgekgakamincaaDoorPrT
import Derived.Test.YtbgekgakamincaaDoorPsLine
namespace Go.Proofs.YtbgekgakamincaaDoor.Ps
open Go.RowKit Go.Proofs.YtbgekgakamincaaDoor.Lx Go.Proofs.YtbgekgakamincaaDoor.Pr
set_option linter.unusedVariables false

theorem fit_of {t : Tok} {ts : List Tok} {p : List UInt8} {ps : List (List UInt8)} (h : matchB (t :: ts) (p :: ps) = (p :: ps).length) : fitsB t p = true ∧ matchB ts ps = ps.length := by
  simp only [matchB, List.length_cons] at h
  by_cases hf : fitsB t p = true
  · rw [if_pos hf] at h; exact ⟨hf, by omega⟩
  · rw [if_neg hf] at h; omega
theorem ns_count : ∀ (ts : List Tok) (ps : List (List UInt8)) (neg : Bool), matchB ts ps = ps.length → (nsB neg ts ps).length = (ps.filter (fun p => decide (p = [35]))).length
  | ts, [], neg, _ => by cases ts <;> rfl
  | [], p :: ps, neg, h => by simp [matchB] at h
  | t :: ts, p :: ps, neg, h => by
    obtain ⟨_, h2⟩ := fit_of h
    simp only [nsB, List.filter_cons]
    by_cases h35 : p = [35]
    · rw [if_pos h35, if_pos (decide_eq_true h35), List.length_cons, List.length_cons, ns_count ts ps _ h2]
    · rw [if_neg h35, if_neg (by simpa using h35), ns_count ts ps _ h2]
theorem nm_of : ∀ (ts : List Tok) (ps : List (List UInt8)) (nm : ByteArray), matchB ts ps = ps.length → (nameB nm = true ∨ [110] ∈ ps) → nameB (nmB nm ts ps) = true
  | ts, [], nm, _, h => by
    rcases h with h | h
    · cases ts <;> exact h
    · cases h
  | [], p :: ps, nm, h, _ => by simp [matchB] at h
  | t :: ts, p :: ps, nm, h, hn => by
    obtain ⟨h1, h2⟩ := fit_of h
    simp only [nmB]
    refine nm_of ts ps _ h2 ?_
    by_cases hp : p = [110]
    · subst hp
      left
      rw [if_pos rfl]
      unfold fitsB at h1
      rw [if_neg (by decide), if_pos rfl, Bool.and_eq_true] at h1
      exact h1.2
    · rw [if_neg hp]
      rcases hn with hn | hn
      · exact .inl hn
      · rcases List.mem_cons.1 hn with e | hn
        · exact absurd e.symm hp
        · exact .inr hn
theorem nm_no : ∀ (ts : List Tok) (ps : List (List UInt8)) (nm : ByteArray), [110] ∉ ps → nmB nm ts ps = nm
  | ts, [], nm, _ => by cases ts <;> rfl
  | [], p :: ps, nm, _ => rfl
  | t :: ts, p :: ps, nm, h => by
    simp only [nmB]
    rw [if_neg (fun e => h (by rw [e]; exact List.mem_cons_self ..))]
    exact nm_no ts ps nm (fun q => h (List.mem_cons_of_mem _ q))
theorem ns_pos : ∀ (ts : List Tok) (ps : List (List UInt8)), (∀ t ∈ ts, WfP t) → [100] ∉ ps → ∀ v ∈ nsB false ts ps, 0 ≤ v ∧ v ≤ 1000000000
  | ts, [], _, _, v, hv => by cases ts <;> cases hv
  | [], p :: ps, _, _, v, hv => by cases hv
  | t :: ts, p :: ps, hw, h, v, hv => by
    have h1 := (hw t (List.mem_cons_self ..)).1.n
    have hw' : ∀ u ∈ ts, WfP u := fun u hu => hw u (List.mem_cons_of_mem _ hu)
    have hd : decide (p = [100]) = false := decide_eq_false (fun e => h (by rw [e]; exact List.mem_cons_self ..))
    simp only [nsB] at hv
    split at hv
    · rcases List.mem_cons.1 hv with rfl | hv
      · rw [if_neg (by decide)]; omega
      · exact ns_pos ts ps hw' (fun q => h (List.mem_cons_of_mem _ q)) v hv
    · rw [hd, Bool.false_and] at hv
      exact ns_pos ts ps hw' (fun q => h (List.mem_cons_of_mem _ q)) v hv
theorem nums_all : ∀ (ns : List Int) (k : Int) (i : Nat), (∀ v ∈ ns, 0 ≤ v ∧ v ≤ 1000000000) → numsB k i ns = true
  | [], k, i, _ => rfl
  | v :: r, k, i, h => by
    have hv := h v (List.mem_cons_self ..)
    simp only [numsB, Bool.and_eq_true]
    refine ⟨?_, nums_all r k (i + 1) (fun u hu => h u (List.mem_cons_of_mem _ hu))⟩
    unfold numB
    rw [decide_eq_true hv.2, decide_eq_true hv.1]
    rfl
theorem cmd_ok {ts : List Tok} {k : Nat} (hw : ∀ t ∈ ts, WfP t) (h : matchB ts (expL (k : Int)) = (expL (k : Int)).length) {named : Bool} {cnt : Nat} (hs : shapeOf (k : Int) = (named, (cnt : Int)))
    (hc : ((expL (k : Int)).filter (fun p => decide (p = [35]))).length = cnt) (hn : named = decide ([110] ∈ expL (k : Int))) (hnum : numsB (k : Int) 0 (nsB false ts (expL (k : Int))) = true) :
    cmdB (k : Int) (nmB ⟨#[]⟩ ts (expL (k : Int))) (nsB false ts (expL (k : Int))) = true := by
  unfold cmdB
  rw [hs, ns_count _ _ _ h, hc, hnum]
  cases named with
  | true =>
    have hm : [110] ∈ expL (k : Int) := by simpa using hn.symm
    have h1 := nm_of ts _ ⟨#[]⟩ h (.inr hm)
    have h2 : (nmB ⟨#[]⟩ ts (expL (k : Int))).size ≠ 0 := by
      unfold nameB at h1
      simp only [Bool.and_eq_true, decide_eq_true_eq] at h1
      exact h1.1.1
    simp [h1, h2]
  | false =>
    have hm : [110] ∉ expL (k : Int) := by simpa using hn.symm
    rw [nm_no ts _ _ hm]
    have : (⟨#[]⟩ : ByteArray).size = 0 := rfl
    simp [this]
theorem cmd3_nums {ts : List Tok} (hw : ∀ t ∈ ts, WfP t) (h : matchB ts (expL 3) = (expL 3).length) : numsB 3 0 (nsB false ts (expL 3)) = true := by
  rw [expL_3] at h ⊢
  have hl := (matchB_le ts [[110, 111, 100, 101], [110], [97, 116], [35], [35], [100], [35], [98, 97, 116, 116, 101, 114, 121], [35], [59]]).2
  rw [h] at hl
  match ts, hl, hw with
  | t0 :: t1 :: t2 :: t3 :: t4 :: t5 :: t6 :: t7 :: t8 :: t9 :: r, _, hw =>
    have n3 := (hw t3 (by simp)).1.n
    have n4 := (hw t4 (by simp)).1.n
    have n6 := (hw t6 (by simp)).1.n
    have n8 := (hw t8 (by simp)).1.n
    have e : nsB false (t0 :: t1 :: t2 :: t3 :: t4 :: t5 :: t6 :: t7 :: t8 :: t9 :: r) [[110, 111, 100, 101], [110], [97, 116], [35], [35], [100], [35], [98, 97, 116, 116, 101, 114, 121], [35], [59]] = [(t3.n : Int), (t4.n : Int), (if (t5.text.data.toList == bSlow) = true then -(t6.n : Int) else (t6.n : Int)), (t8.n : Int)] := by
      cases r <;> simp [nsB]
    rw [e]
    simp only [numsB, Bool.and_true, Bool.and_eq_true]
    refine ⟨?_, ?_, ?_, ?_⟩
    · unfold numB; rw [decide_eq_true (by omega), decide_eq_true (by omega)]; rfl
    · unfold numB; rw [decide_eq_true (by omega), decide_eq_true (by omega)]; rfl
    · unfold numB
      by_cases hq : (t5.text.data.toList == bSlow) = true
      · rw [if_pos hq, decide_eq_true (by omega), decide_eq_true (show (3 : Int) = 3 from rfl), decide_eq_true (show 0 + 1 + 1 = 2 from rfl), decide_eq_true (show -1000000000 ≤ -(t6.n : Int) by omega)]
        simp
      · rw [if_neg hq, decide_eq_true (by omega), decide_eq_true (by omega)]; rfl
    · unfold numB; rw [decide_eq_true (by omega), decide_eq_true (by omega)]; rfl
theorem rd_cmd {ts : List Tok} {c : PC} {m : Nat} (hw : ∀ t ∈ ts, WfP t) (h : rdB ts = (some c, m)) : cmdB (c.kind : Nat) c.name c.ns = true := by
  unfold rdB at h
  split at h
  · cases h
  · rename_i k hs
    split at h
    · rename_i hm
      injection h with h1 h2
      injection h1 with h1
      subst h1 h2
      have hk := sel_kind hs
      show cmdB (k : Nat) (nmB ⟨#[]⟩ ts (expL k)) (nsB false ts (expL k)) = true
      have hpos : [100] ∉ expL (k : Int) → numsB (k : Int) 0 (nsB false ts (expL (k : Int))) = true := fun q => nums_all _ _ _ (ns_pos ts _ hw q)
      obtain ⟨hk1, hk2⟩ := hk
      clear hs
      match k, hk1, hk2, hm, hpos with
      | 1, _, _, hm, hp => exact cmd_ok (k := 1) (cnt := 2) hw hm rfl (by rw [show ((1 : Nat) : Int) = 1 from rfl, expL_1]; rfl) (by rw [show ((1 : Nat) : Int) = 1 from rfl, expL_1]; rfl) (hp (by rw [show ((1 : Nat) : Int) = 1 from rfl, expL_1]; decide))
      | 2, _, _, hm, hp => exact cmd_ok (k := 2) (cnt := 2) hw hm rfl (by rw [show ((2 : Nat) : Int) = 2 from rfl, expL_2]; rfl) (by rw [show ((2 : Nat) : Int) = 2 from rfl, expL_2]; rfl) (hp (by rw [show ((2 : Nat) : Int) = 2 from rfl, expL_2]; decide))
      | 3, _, _, hm, hp => exact cmd_ok (k := 3) (cnt := 4) hw hm rfl (by rw [show ((3 : Nat) : Int) = 3 from rfl, expL_3]; rfl) (by rw [show ((3 : Nat) : Int) = 3 from rfl, expL_3]; rfl) (cmd3_nums hw hm)
      | 4, _, _, hm, hp => exact cmd_ok (k := 4) (cnt := 3) hw hm rfl (by rw [show ((4 : Nat) : Int) = 4 from rfl, expL_4]; rfl) (by rw [show ((4 : Nat) : Int) = 4 from rfl, expL_4]; rfl) (hp (by rw [show ((4 : Nat) : Int) = 4 from rfl, expL_4]; decide))
      | 5, _, _, hm, hp => exact cmd_ok (k := 5) (cnt := 1) hw hm rfl (by rw [show ((5 : Nat) : Int) = 5 from rfl, expL_5]; rfl) (by rw [show ((5 : Nat) : Int) = 5 from rfl, expL_5]; rfl) (hp (by rw [show ((5 : Nat) : Int) = 5 from rfl, expL_5]; decide))
      | 6, _, _, hm, hp => exact cmd_ok (k := 6) (cnt := 1) hw hm rfl (by rw [show ((6 : Nat) : Int) = 6 from rfl, expL_6]; rfl) (by rw [show ((6 : Nat) : Int) = 6 from rfl, expL_6]; rfl) (hp (by rw [show ((6 : Nat) : Int) = 6 from rfl, expL_6]; decide))
      | 7, _, _, hm, hp => exact cmd_ok (k := 7) (cnt := 2) hw hm rfl (by rw [show ((7 : Nat) : Int) = 7 from rfl, expL_7]; rfl) (by rw [show ((7 : Nat) : Int) = 7 from rfl, expL_7]; rfl) (hp (by rw [show ((7 : Nat) : Int) = 7 from rfl, expL_7]; decide))
      | 8, _, _, hm, hp => exact cmd_ok (k := 8) (cnt := 6) hw hm rfl (by rw [show ((8 : Nat) : Int) = 8 from rfl, expL_8]; rfl) (by rw [show ((8 : Nat) : Int) = 8 from rfl, expL_8]; rfl) (hp (by rw [show ((8 : Nat) : Int) = 8 from rfl, expL_8]; decide))
      | 9, _, _, hm, hp => exact cmd_ok (k := 9) (cnt := 4) hw hm rfl (by rw [show ((9 : Nat) : Int) = 9 from rfl, expL_9]; rfl) (by rw [show ((9 : Nat) : Int) = 9 from rfl, expL_9]; rfl) (hp (by rw [show ((9 : Nat) : Int) = 9 from rfl, expL_9]; decide))
      | 10, _, _, hm, hp => exact cmd_ok (k := 10) (cnt := 3) hw hm rfl (by rw [show ((10 : Nat) : Int) = 10 from rfl, expL_10]; rfl) (by rw [show ((10 : Nat) : Int) = 10 from rfl, expL_10]; rfl) (hp (by rw [show ((10 : Nat) : Int) = 10 from rfl, expL_10]; decide))
      | 11, _, _, hm, hp => exact cmd_ok (k := 11) (cnt := 1) hw hm rfl (by rw [show ((11 : Nat) : Int) = 11 from rfl, expL_11]; rfl) (by rw [show ((11 : Nat) : Int) = 11 from rfl, expL_11]; rfl) (hp (by rw [show ((11 : Nat) : Int) = 11 from rfl, expL_11]; decide))
      | k + 12, _, h, _, _ => omega
    · cases h
end Go.Proofs.YtbgekgakamincaaDoor.Ps
