/- The walk of the statement on diagnostics and on something that begins no command. -/
import Derived.Deep.QuietTactic
import Derived.BigQuiet
import Derived.Test.YtjfcdfhcmkdicaaDoorPsUse
namespace Go.Proofs.YtjfcdfhcmkdicaaDoor.Ps
open Go.RowKit Go.Proofs.YtjfcdfhcmkdicaaDoor.Lx Go.Proofs.YtjfcdfhcmkdicaaDoor.Pr
set_option linter.unusedVariables false

/-- The words that begin no command. -/
def badW (j : Nat) : List UInt8 :=
  if j = 0 then [] else if j = 1 then [120] else if j = 2 then [49, 50] else if j = 3 then [109, 111, 118, 101, 32, 97, 32, 51, 32, 52] else if j = 4 then [102, 97, 105, 108, 32, 97]
  else if j = 5 then [98, 97, 116, 116, 101, 114, 121, 32, 53] else if j = 6 then [102, 97, 115, 116, 32, 114, 117, 110, 32, 53] else [100, 97, 116, 97, 32, 49, 32, 114, 97, 110, 103, 101, 32, 50]
theorem bad_lex (j : Nat) (h : j < 8) : ∃ M, LEX (badW j ++ [59]) = ⟨M, 0, 0⟩ ∧ (∃ t r, M = t :: r ∧ t.pos = 0 ∧ t.text.data.toList ≠ bAt ∧ lookB cmdTab t.text.data.toList = none) ∧ ∃ r s, M = r ++ [s] ∧ s.kind = 3 ∧ ∀ t ∈ r, t.kind ≠ 3 := by
  have hj : j = 0 ∨ j = 1 ∨ j = 2 ∨ j = 3 ∨ j = 4 ∨ j = 5 ∨ j = 6 ∨ j = 7 := by omega
  rw [LEX_F]
  rcases hj with rfl | rfl | rfl | rfl | rfl | rfl | rfl | rfl
  · exact ⟨[⟨3, ⟨#[59]⟩, 0, 0⟩], by kernel_rfl, ⟨_, _, rfl, rfl, by decide, by decide⟩, [], _, rfl, rfl, fun t ht => by cases ht⟩
  · exact ⟨[⟨1, ⟨#[120]⟩, 0, 0⟩] ++ [⟨3, ⟨#[59]⟩, 0, 1⟩], by kernel_rfl, ⟨_, _, rfl, rfl, by decide, by decide⟩, _, _, rfl, rfl, by simp⟩
  · exact ⟨[⟨2, ⟨#[]⟩, 12, 0⟩] ++ [⟨3, ⟨#[59]⟩, 0, 2⟩], by kernel_rfl, ⟨_, _, rfl, rfl, by decide, by decide⟩, _, _, rfl, rfl, by simp⟩
  · exact ⟨[⟨1, ⟨#[109, 111, 118, 101]⟩, 0, 0⟩, ⟨1, ⟨#[97]⟩, 0, 5⟩, ⟨2, ⟨#[]⟩, 3, 7⟩, ⟨2, ⟨#[]⟩, 4, 9⟩] ++ [⟨3, ⟨#[59]⟩, 0, 10⟩], by kernel_rfl, ⟨_, _, rfl, rfl, by decide, by decide⟩, _, _, rfl, rfl, by simp⟩
  · exact ⟨[⟨1, ⟨#[102, 97, 105, 108]⟩, 0, 0⟩, ⟨1, ⟨#[97]⟩, 0, 5⟩] ++ [⟨3, ⟨#[59]⟩, 0, 6⟩], by kernel_rfl, ⟨_, _, rfl, rfl, by decide, by decide⟩, _, _, rfl, rfl, by simp⟩
  · exact ⟨[⟨1, ⟨#[98, 97, 116, 116, 101, 114, 121]⟩, 0, 0⟩, ⟨2, ⟨#[]⟩, 5, 8⟩] ++ [⟨3, ⟨#[59]⟩, 0, 9⟩], by kernel_rfl, ⟨_, _, rfl, rfl, by decide, by decide⟩, _, _, rfl, rfl, by simp⟩
  · exact ⟨[⟨1, ⟨#[102, 97, 115, 116]⟩, 0, 0⟩, ⟨1, ⟨#[114, 117, 110]⟩, 0, 5⟩, ⟨2, ⟨#[]⟩, 5, 9⟩] ++ [⟨3, ⟨#[59]⟩, 0, 10⟩], by kernel_rfl, ⟨_, _, rfl, rfl, by decide, by decide⟩, _, _, rfl, rfl, by simp⟩
  · exact ⟨[⟨1, ⟨#[100, 97, 116, 97]⟩, 0, 0⟩, ⟨2, ⟨#[]⟩, 1, 5⟩, ⟨1, ⟨#[114, 97, 110, 103, 101]⟩, 0, 7⟩, ⟨2, ⟨#[]⟩, 2, 13⟩] ++ [⟨3, ⟨#[59]⟩, 0, 14⟩], by kernel_rfl, ⟨_, _, rfl, rfl, by decide, by decide⟩, _, _, rfl, rfl, by simp⟩
theorem bad_len (j : Nat) : (badW j).length ≤ 14 := by
  unfold badW
  split
  · decide
  · split
    · decide
    · split
      · decide
      · split
        · decide
        · split
          · decide
          · split
            · decide
            · split <;> decide
/-- One diagnostic, where it begins. -/
theorem bad_parse {a b : List UInt8} {j : Nat} (h : j < 8) (ha : (PARSE a).2 = []) (hb : (PARSE b).2 = []) (hu : (LEX (a ++ 10 :: (badW j ++ [59] ++ 10 :: b))).err = 0) : PARSE (a ++ 10 :: (badW j ++ [59] ++ 10 :: b)) = ([], [(7, a.length + 1)]) := by
  obtain ⟨M, h1, h2, h3⟩ := bad_lex j h
  exact wrong_parse ha hb hu h1 h2 h3
theorem dgs_get {ds : List (Nat × Nat)} (hp : (ds.map (·.2)).Pairwise (· < ·)) {j : Nat} (h : j + 1 < ds.length) : (ds[j]'(by omega)).2 < ds[j + 1].2 := by
  have := List.pairwise_iff_getElem.1 hp j (j + 1) (by rw [List.length_map]; omega) (by rw [List.length_map]; exact h) (by omega)
  rwa [List.getElem_map, List.getElem_map] at this
set_option maxRecDepth 100000 in
set_option maxHeartbeats 4000000 in
theorem parserErrors_walk (a b : ByteArray) (pk : UInt8) (w : World) (ha : a.size ≤ maxLen) (za : a.size ≤ 140737488351232) (hb : b.size ≤ maxLen) (zb : b.size ≤ 140737488351232) (hv : Lx.Vars w) :
    Calls Tryd.prog 6 #[.string a, .string b, ub pk] w fun e w' => e = .returned (.bool true) ∧ Below w.heap.size w w' := by
  have HH := Lib.hid (qhead_val w hv)
  have HV := Lib.hid hv
  have HPA := Lib.hid (fun W (q : Below w.heap.size w W) => parse_val a ha W (HV.out.up q))
  have HPB := Lib.hid (fun W (q : Below w.heap.size w W) => parse_val b hb W (HV.out.up q))
  have hal := size_list a
  have hbl := size_list b
  obtain ⟨j, hj⟩ : ∃ j, pk.toNat % 8 = j := ⟨_, rfl⟩
  have hj8 : j < 8 := by rw [← hj]; exact Nat.mod_lt _ (by decide)
  have hmod : (pk.toNat : Int).tmod 8 = (j : Int) := by rw [Int.tmod_eq_emod_of_nonneg (by omega), ← hj]; rfl
  have hp255 : pk.toNat ≤ 255 := by have := UInt8.toNat_lt pk; omega
  unfold ub
  obtain ⟨y, hy⟩ : ∃ y, pk.toNat = y := ⟨_, rfl⟩
  rw [hy] at hmod hp255 ⊢
  clear hv ha hb hj hy
  go_enter Tryd.func6, Tryd.ntmps6
  go_wp2_with fail
  refine HH.out.mono ?_
  rintro e1 w1 ⟨rfl, hb1⟩
  have HB1 := Lib.hid hb1
  clear hb1 HH
  by_cases hla : 8010 < a.size
  · have hla' : (8010 : Int) < (a.size : Int) := by omega
    go_wp2_with fail
    go_ret
    exact ⟨rfl, HB1.out⟩
  · have hla' : ¬ (8010 : Int) < (a.size : Int) := by omega
    by_cases hlb : 8010 < b.size
    · have hlb' : (8010 : Int) < (b.size : Int) := by omega
      go_wp2_with fail
      go_ret
      exact ⟨rfl, HB1.out⟩
    · have hlb' : ¬ (8010 : Int) < (b.size : Int) := by omega
      have ha9 : a.size ≤ 8010 := by omega
      have hb9 : b.size ≤ 8010 := by omega
      clear hla hlb
      go_wp2_with fail
      refine (HPA.out _ HB1.out).mono ?_
      rintro e3 w3 ⟨A1, n1, c1, xs, D1, m1, d1, ds, rfl, hx, hd, hb3, hk, hds⟩
      have HB3 := Lib.hid (below_trans' HB1.out hb3)
      have HD := Lib.hid hd
      have HM := Lib.hid hd.1
      have HDS := Lib.hid hds
      obtain ⟨_, pd2, pd3, pd4⟩ := parse_dgs a.data.toList
      rw [← hds] at pd2 pd3 pd4
      have hm20 : m1 ≤ 20 := by rw [← hd.1]; exact pd2
      have HP3 := Lib.hid pd3
      have HP4 := Lib.hid pd4
      clear hx hd hb3 hk hds pd2 pd3 pd4
      go_wp2_with fail
      go_loopw [34] (fun i wr => ∃ k : Nat, k ≤ m1 ∧ i = i64 (k : Nat) ∧ Hid (Below w3.heap.size w3 wr)) (fun i _ => m1 - (intOf i).toNat)
      case atStart => exact ⟨0, Nat.zero_le _, rfl, Lib.hid (Below.refl _ _)⟩
      case round =>
        obtain ⟨k, hk, rfl, HB⟩ := hrel
        by_cases hlt : k < m1
        · have hlt' : (k : Int) < (m1 : Int) := by omega
          have hkl : k < ds.length := by rw [HM.out]; exact hlt
          obtain ⟨b0, off, rfl, hb0, hc⟩ := rd_el (dec := decD) (s := 2) (fun _ => rfl) (HD.out.up HB.out).2.1 HM.out hkl
          have hp4 := HP4.out ds[k] (List.getElem_mem hkl)
          rw [hal] at hp4
          have hprev : ∀ i, k = i + 1 → ∃ y2 : Nat, wr.cell? ⟨b0, off + (k - 1) * 2 + 1, none⟩ = some (.int .i64 (y2 : Nat)) ∧ y2 < ds[k].2 := by
            intro i hi
            subst hi
            obtain ⟨b2, off2, hf2, _, hc2⟩ := rd_el (dec := decD) (s := 2) (fun _ => rfl) (HD.out.up HB.out).2.1 HM.out (show i < ds.length by omega)
            injection hf2 with hf2
            injection hf2 with f1 f2
            subst f1 f2
            exact ⟨_, hc2 1 _ rfl, dgs_get HP3.out hkl⟩
          obtain ⟨⟨x1, x2⟩, hx⟩ : ∃ x, ds[k] = x := ⟨_, rfl⟩
          rw [hx] at hc hp4 hprev
          have c0 := hc 0 _ rfl
          have c1 := hc 1 _ rfl
          rw [Nat.add_zero] at c0
          dsimp only at c0 c1 hp4 hprev
          obtain ⟨hp5, hp6⟩ := hp4
          have d1' : decide ((x2 : Int) < 0) = false := decide_eq_false (by omega)
          have d2' : decide ((a.size : Int) < (x2 : Int)) = false := decide_eq_false (by omega)
          have d2n : decide (a.size < x2) = false := decide_eq_false (by omega)
          have d3n : (x1 == 0) = false := by rw [beq_eq_false_iff_ne]; exact hp6
          have d3' : ((x1 : Int) == 0) = false := by rw [beq_eq_false_iff_ne]; omega
          have hup : ∀ a b, Below wr.heap.size wr a → Below a.heap.size a b → Below wr.heap.size wr b := fun a b h k => below_trans' h k
          have cup : ∀ {p : Addr} {u : Value} {W : World}, wr.cell? p = some u → Below wr.heap.size wr W → W.cell? p = some u := fun hc hb => (hb.cell (Lx.cell_lt hc)).trans hc
          have f0 : ∀ s : WOf (Below wr.heap.size wr), s.w.cell? ⟨b0, off + k * 2, none⟩ = some (.int .i64 (x1 : Nat)) := fun s => cup c0 s.ok
          have f1 : ∀ s : WOf (Below wr.heap.size wr), s.w.cell? ⟨b0, off + k * 2 + 1, none⟩ = some (.int .i64 (x2 : Nat)) := fun s => cup c1 s.ok
          by_cases k0 : k = 0
          · have d4' : decide ((0 : Int) < (k : Int)) = false := decide_eq_false (by omega)
            have d4n : decide (0 < k) = false := decide_eq_false (by omega)
            clear hb0 hc hx hprev c0 c1 cup hkl k0
            go_wp2_with fail
            refine wp_region_ext (Below wr.heap.size wr) (Below.refl _ _) hup (by kernel_rfl) (by kernel_rfl) (fun hne => ?_)
            try simp only [List.append_eq, List.cons_append, List.nil_append]
            repeat (go_big_quiet_step (fail))
            refine wpQuiet_nil ?_
            clear hne
            intro _ hx'
            obtain ⟨⟨wx, hx⟩, hx''⟩ := hx'
            subst hx''
            clear f0 f1
            go_wp2_with fail
            refine ⟨⟨k + 1, by omega, rfl, Lib.hid (below_trans' HB.out hx)⟩, ?_⟩
            simp only [intOf]; omega
          · have d4' : decide ((0 : Int) < (k : Int)) = true := decide_eq_true (by omega)
            have d4n : decide (0 < k) = true := decide_eq_true (by omega)
            obtain ⟨y2, c2, hy2⟩ := hprev (k - 1) (by omega)
            have d5' : decide ((x2 : Int) ≤ (y2 : Int)) = false := decide_eq_false (by omega)
            have d5n : decide (x2 ≤ y2) = false := decide_eq_false (by omega)
            have f2 : ∀ s : WOf (Below wr.heap.size wr), s.w.cell? ⟨b0, off + (k - 1) * 2 + 1, none⟩ = some (.int .i64 (y2 : Nat)) := fun s => cup c2 s.ok
            have hk1 : (0 : Int) ≤ (k : Int) - 1 := by omega
            have hk2 : (k : Int) - 1 < (m1 : Int) := by omega
            clear hb0 hc hx hprev c0 c1 c2 cup hkl k0
            go_wp2_with fail
            refine wp_region_ext (Below wr.heap.size wr) (Below.refl _ _) hup (by kernel_rfl) (by kernel_rfl) (fun hne => ?_)
            try simp only [List.append_eq, List.cons_append, List.nil_append]
            repeat (go_big_quiet_step (fail))
            refine wpQuiet_nil ?_
            clear hne
            intro _ hx'
            obtain ⟨⟨wx, hx⟩, hx''⟩ := hx'
            subst hx''
            clear f0 f1 f2
            go_wp2_with fail
            refine ⟨⟨k + 1, by omega, rfl, Lib.hid (below_trans' HB.out hx)⟩, ?_⟩
            simp only [intOf]; omega
        · have hlt' : ¬ (k : Int) < (m1 : Int) := by omega
          have HBr := Lib.hid (below_trans' HB3.out HB.out)
          go_wp2_with fail
          refine (HPB.out _ HBr.out).mono ?_
          rintro e4 w4 ⟨A2, n2, c2, ys, D2, m2, d2, es, rfl, hy, he, hb4, hk', hes⟩
          have HB4 := Lib.hid (below_trans' HBr.out hb4)
          have HES := Lib.hid hes
          have hm2 := he.1
          have hm220 : m2 ≤ 20 := by rw [← he.1, hes]; exact (parse_dgs b.data.toList).2.1
          obtain ⟨WD, hWD⟩ : ∃ x : ByteArray, ⟨(badW j).toArray⟩ = x := ⟨_, rfl⟩
          have hwl : WD.data.toList = badW j := by rw [← hWD]
          have hws : WD.size ≤ 14 := by rw [← size_list, hwl]; exact bad_len j
          have BK := Lib.hid (Blk.new w4 9 #[.string ⟨#[]⟩, .string ⟨#[120]⟩, .string ⟨#[49, 50]⟩, .string ⟨#[109, 111, 118, 101, 32, 97, 32, 51, 32, 52]⟩, .string ⟨#[102, 97, 105, 108, 32, 97]⟩, .string ⟨#[98, 97, 116, 116, 101, 114, 121, 32, 53]⟩, .string ⟨#[102, 97, 115, 116, 32, 114, 117, 110, 32, 53]⟩, .string ⟨#[100, 97, 116, 97, 32, 49, 32, 114, 97, 110, 103, 101, 32, 50]⟩])
          have kc : (w4.alloc (.cells #[.string ⟨#[]⟩, .string ⟨#[120]⟩, .string ⟨#[49, 50]⟩, .string ⟨#[109, 111, 118, 101, 32, 97, 32, 51, 32, 52]⟩, .string ⟨#[102, 97, 105, 108, 32, 97]⟩, .string ⟨#[98, 97, 116, 116, 101, 114, 121, 32, 53]⟩, .string ⟨#[102, 97, 115, 116, 32, 114, 117, 110, 32, 53]⟩, .string ⟨#[100, 97, 116, 97, 32, 49, 32, 114, 97, 110, 103, 101, 32, 50]⟩] 9)).cell? ⟨w4.heap.size, j, none⟩ = some (.string WD) := by
            rw [BK.out.cell j, ← hWD]
            have hj : j = 0 ∨ j = 1 ∨ j = 2 ∨ j = 3 ∨ j = 4 ∨ j = 5 ∨ j = 6 ∨ j = 7 := by omega
            rcases hj with rfl | rfl | rfl | rfl | rfl | rfl | rfl | rfl <;> rfl
          have hb5 : Below w4.heap.size w4 (w4.alloc (.cells #[.string ⟨#[]⟩, .string ⟨#[120]⟩, .string ⟨#[49, 50]⟩, .string ⟨#[109, 111, 118, 101, 32, 97, 32, 51, 32, 52]⟩, .string ⟨#[102, 97, 105, 108, 32, 97]⟩, .string ⟨#[98, 97, 116, 116, 101, 114, 121, 32, 53]⟩, .string ⟨#[102, 97, 115, 116, 32, 114, 117, 110, 32, 53]⟩, .string ⟨#[100, 97, 116, 97, 32, 49, 32, 114, 97, 110, 103, 101, 32, 50]⟩] 9)) := (Below.refl _ _).alloc (Nat.le_refl _) _
          have HB5 := Lib.hid (below_trans' HB4.out hb5)
          have hj8' : (j : Int) < 8 := by omega
          have q1 : ¬ 9223372036854775807 < a.size + 1 := by omega
          have q2 : ¬ 9223372036854775807 < a.size + 1 + WD.size := by omega
          have q3 : ¬ 9223372036854775807 < a.size + 1 + WD.size + 2 := by omega
          have q4 : ¬ 9223372036854775807 < a.size + 1 + WD.size + 2 + b.size := by omega
          have hJl : (a ++ ⟨#[10]⟩ ++ WD ++ ⟨#[59, 10]⟩ ++ b).data.toList = a.data.toList ++ 10 :: (badW j ++ [59] ++ 10 :: b.data.toList) := by
            rw [add_list, add_list, add_list, add_list, hwl]; simp
          have hJs : (a ++ ⟨#[10]⟩ ++ WD ++ ⟨#[59, 10]⟩ ++ b).size ≤ maxLen := by
            have h9 : (a ++ ⟨#[10]⟩ ++ WD ++ ⟨#[59, 10]⟩ ++ b).size = a.size + 1 + WD.size + 2 + b.size := by simp only [ByteArray.size_append]; rfl
            rw [h9]; unfold maxLen; omega
          have HU := Lib.hid (fun W => usable_val (a ++ ⟨#[10]⟩ ++ WD ++ ⟨#[59, 10]⟩ ++ b) hJs W)
          have HPJ := Lib.hid (fun W (q : Below w.heap.size w W) => parse_val (a ++ ⟨#[10]⟩ ++ WD ++ ⟨#[59, 10]⟩ ++ b) hJs W (HV.out.up q))
          rw [hJl] at HU HPJ
          obtain ⟨u, hu⟩ : ∃ u, decide ((LEX (a.data.toList ++ 10 :: (badW j ++ [59] ++ 10 :: b.data.toList))).err = 0) = u := ⟨_, rfl⟩
          rw [hu] at HU
          have HUU := Lib.hid hu
          clear hy he hb4 hk' hes hWD hwl BK hb5 hJl hJs hu
          by_cases hgood : ds = [] ∧ es = []
          · obtain ⟨hd0, he0⟩ := hgood
            have k1 : m1 = 0 := by rw [← HM.out, hd0]; rfl
            have k2 : m2 = 0 := by rw [← hm2, he0]; rfl
            have HD0 : Hid ((PARSE a.data.toList).2 = []) := Lib.hid (by rw [← HDS.out, hd0])
            have HE0 : Hid ((PARSE b.data.toList).2 = []) := Lib.hid (by rw [← HES.out, he0])
            subst k2
            have hk0 : k = 0 := by omega
            subst k1
            clear hd0 he0 hm2
            go_wp2_with fail
            refine (HU.out _).mono ?_
            rintro e6 w6 ⟨rfl, hb6⟩
            have HB6 := Lib.hid (below_trans' HB5.out hb6)
            clear hb6 kc
            cases u with
            | false =>
              go_wp2_with fail
              go_ret
              exact ⟨rfl, HB6.out⟩
            | true =>
              have HJP := Lib.hid (bad_parse hj8 HD0.out HE0.out (of_decide_eq_true HUU.out))
              go_wp2_with fail
              refine (HPJ.out _ HB6.out).mono ?_
              rintro e7 w7 ⟨A3, n3, c3, zs, D3, m3, d3, fs, rfl, hz, hf, hb7, hk3, hfs⟩
              rw [HJP.out] at hfs
              dsimp only at hfs
              subst hfs
              have HB7 := Lib.hid (below_trans' HB6.out hb7)
              have hbw : Below w7.heap.size w7 (w7.alloc (.cells #[.int .i64 7, .int .i64 ((a.size : Int) + 1)] 41)) := (Below.refl _ _).alloc (Nat.le_refl _) _
              have HDV := Lib.hid (sameDiags_val _ _ _ _ _ _ _ _ _ (hf.up hbw) (dgs_blk (l := [(7, a.data.toList.length + 1)]) (n := 1) (Blk.new w7 _ #[.int .i64 7, .int .i64 ((a.size : Int) + 1)]) (by rw [hal]; rfl) rfl (by decide)))
              rw [decide_eq_true rfl] at HDV
              have HB8 := Lib.hid (below_trans' HB7.out hbw)
              clear hz hf hb7 hk3 hbw
              go_wp2_with fail
              refine HDV.out.mono ?_
              rintro e8 w8 ⟨rfl, hb8⟩
              have HB9 := Lib.hid (below_trans' HB8.out hb8)
              clear hb8
              go_wp2_with fail
              go_ret
              exact ⟨rfl, HB9.out⟩
          · have k0 : 0 < m1 + m2 := by
              rcases Nat.eq_zero_or_pos (m1 + m2) with h | h
              · exact absurd ⟨List.eq_nil_of_length_eq_zero (by rw [HM.out]; omega), List.eq_nil_of_length_eq_zero (by omega)⟩ hgood
              · exact h
            have k0' : (0 : Int) < (m1 : Int) + (m2 : Int) := by omega
            clear hgood k0 hm2
            go_wp2_with fail
            go_ret
            exact ⟨rfl, HB5.out⟩
end Go.Proofs.YtjfcdfhcmkdicaaDoor.Ps
