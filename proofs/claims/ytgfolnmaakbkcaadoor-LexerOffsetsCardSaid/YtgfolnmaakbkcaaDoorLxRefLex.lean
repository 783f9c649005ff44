/- The reference's Lex. -/
import Derived.Test.YtgfolnmaakbkcaaDoorLxRef3
import Derived.Test.YtgfolnmaakbkcaaDoorLxLex
namespace Go.Proofs.YtgfolnmaakbkcaaDoor.Lx
open Go.RowKit
set_option linter.unusedVariables false

theorem lexE_skip : ∀ (n : Nat) (l : List UInt8) (p : Nat) (acc : List Tok), l.length ≤ n → lexE acc (spans l p) = lexE acc (spans (l.drop (gapLen l)) (p + gapLen l))
  | n, [], p, acc, _ => by rw [gapLen_nil]; rfl
  | 0, c :: r, p, acc, h => absurd h (by simp)
  | n + 1, c :: r, p, acc, h => by
    rw [gapLen_cons]
    split
    · rename_i hc
      rw [spans_cons]
      have h1 := spanLen_pos c r
      have ih := lexE_skip n ((c :: r).drop (spanLen (c :: r))) (p + spanLen (c :: r)) acc (by rw [List.length_drop]; simp only [List.length_cons] at *; omega)
      have hst : stepS acc ⟨p, cls c, ⟨((c :: r).take (spanLen (c :: r))).toArray⟩⟩ = .ok acc := by unfold stepS; rw [if_pos hc]
      simp only [lexE]
      rw [hst]
      simp only
      rw [ih, List.drop_drop, Nat.add_assoc]
    · rfl
theorem gapLen_stop : ∀ (n : Nat) (l : List UInt8), l.length ≤ n → ∀ c r, l.drop (gapLen l) = c :: r → ¬ (cls c = 1 ∨ cls c = 2)
  | n, [], _, c, r, h => by rw [gapLen_nil] at h; cases h
  | 0, d :: t, h, _, _, _ => absurd h (by simp)
  | n + 1, d :: t, h, c, r, e => by
    rw [gapLen_cons] at e
    split at e
    · have h1 := spanLen_pos d t
      rw [← List.drop_drop] at e
      exact gapLen_stop n _ (by rw [List.length_drop]; simp only [List.length_cons] at *; omega) c r e
    · rename_i hc
      rw [List.drop_zero] at e
      cases e
      exact hc
theorem gapLen_le : ∀ (n : Nat) (l : List UInt8), l.length ≤ n → gapLen l ≤ l.length
  | n, [], _ => by rw [gapLen_nil]; exact Nat.le_refl _
  | 0, d :: t, h => absurd h (by simp)
  | n + 1, d :: t, h => by
    rw [gapLen_cons]
    split
    · have h1 := spanLen_pos d t
      have h2 := spanLen_le (d :: t)
      have := gapLen_le n ((d :: t).drop (spanLen (d :: t))) (by rw [List.length_drop]; simp only [List.length_cons] at *; omega)
      rw [List.length_drop] at this
      omega
    · exact Nat.zero_le _

/-- The loop of the reference's Lex, at offset q. -/
def RL (s : ByteArray) (F : Nat) (w : World) (out at_ : Value) (wr : World) : Prop :=
  ∃ (q : Nat) (acc : List Tok) (A : Option Addr) (c : Nat), at_ = i64 (q : Nat) ∧ q ≤ s.size ∧ out = .slice A acc.length c ∧ acc.length ≤ 2000 ∧ lexE [] (spans s.data.toList 0) = lexE acc (spans (s.data.toList.drop q) q) ∧
    (∀ h : q < s.size, ¬ (cls s[q] = 1 ∨ cls s[q] = 2)) ∧ wr.ownsRow F 31 4 (.slice A acc.length c) acc.length (acc.flatMap decT) ∧ Below F w wr

theorem token_ref (k : Nat) (s : ByteArray) (h0 : 0 < s.size) (hk : cls s[0] = k) (hk2 : k = 3 ∨ k = 4 ∨ k = 5) (hd : k = 4 → ∀ c ∈ s.data.toList, cls c = 4) (hs : s.size ≤ 8000) (w : World) :
    Calls Tryd.prog 23 #[.string s] w fun e w' => e = .returned (tokV (tokenOf k s.data.toList)) ∧ Below w.heap.size w w' := by
  rcases hk2 with rfl | rfl | rfl
  · exact rtok_name s h0 hk hs w
  · exact rtok_num s h0 (hd rfl) hs w
  · exact rtok_punct s h0 hk w

theorem rl_next {s : ByteArray} {F : Nat} {w wr : World} {p : Nat} {acc : List Tok} {A : Option Addr} {c : Nat} (hp : p ≤ s.size) (ha : acc.length ≤ 2000) (hE : lexE [] (spans s.data.toList 0) = lexE acc (spans (s.data.toList.drop p) p))
    (hR : wr.ownsRow F 31 4 (.slice A acc.length c) acc.length (acc.flatMap decT)) (hB : Below F w wr) : RL s F w (.slice A acc.length c) (i64 ((p + gapLen (s.data.toList.drop p) : Nat) : Int)) wr := by
  have hl : s.data.toList.length = s.size := Array.length_toList
  have hg := gapLen_le _ (s.data.toList.drop p) (Nat.le_refl _)
  rw [List.length_drop, hl] at hg
  refine ⟨p + gapLen (s.data.toList.drop p), acc, A, c, rfl, by omega, rfl, ha, ?_, fun h => ?_, hR, hB⟩
  · rw [hE, lexE_skip _ _ _ _ (Nat.le_refl _), List.drop_drop]
  · refine gapLen_stop _ (s.data.toList.drop p) (Nat.le_refl _) _ (s.data.toList.drop (p + gapLen (s.data.toList.drop p) + 1)) ?_
    rw [List.drop_drop, List.drop_eq_getElem_cons (by rw [hl]; exact h)]
    rfl

set_option maxRecDepth 100000 in
set_option maxHeartbeats 2000000 in
theorem rlex_val (s : ByteArray) (hs : s.size ≤ maxLen) (w : World) :
    Calls Tryd.prog 11 #[.string s] w (LexPost w (LEX s.data.toList)) := by
  unfold maxLen at hs
  have hl : s.data.toList.length = s.size := Array.length_toList
  by_cases hbig : 8000 < s.size
  · have hb' : (8000 : Int) < (s.size : Int) := by omega
    have he : LEX s.data.toList = ⟨[], 2, 0⟩ := by unfold LEX; rw [if_pos (by rw [hl]; exact hbig)]
    rw [he]
    clear he hl hbig
    go_enter Tryd.func11, Tryd.ntmps11
    go_wp2_with fail
    go_ret3
    exact ⟨none, 0, 0, rfl, Toks.nil_ _, Below.refl _ _⟩
  · have hb' : ¬ (8000 : Int) < (s.size : Int) := by omega
    have he : LEX s.data.toList = resOf (lexE [] (spans s.data.toList 0)) := by unfold LEX; rw [if_neg (by rw [hl]; exact hbig)]
    rw [he]
    have HL := Lib.hid hl
    clear he hl
    have hg0 := gap_val s 0 (by unfold maxLen; omega) (Nat.zero_le _)
    have hR0 := Lib.hid (rl_next (s := s) (F := w.heap.size) (w := w) (wr := w) (p := 0) (acc := []) (A := none) (c := 0) (Nat.zero_le _) (by simp) (by rw [List.drop_zero]) ⟨rfl, .inl ⟨rfl, rfl⟩⟩ (Below.refl _ _))
    obtain ⟨g0, hg⟩ : ∃ g0, 0 + gapLen (s.data.toList.drop 0) = g0 := ⟨_, rfl⟩
    rw [hg] at hg0 hR0
    have HG0 := Lib.hid hg0
    clear hg hg0
    go_enter Tryd.func11, Tryd.ntmps11
    go_wp2_with fail
    refine (HG0.out _).mono ?_
    rintro e w1 ⟨rfl, rfl⟩
    go_wp2_with fail
    go_loopw [5, 6] (fun out at_ wr => RL s w.heap.size w out at_ wr) (fun _ at_ _ => s.size - (intOf at_).toNat)
    case atStart => exact hR0.out
    case round =>
      obtain ⟨q, acc, A, c, rfl, hq, rfl, hacc, hE, hst, hR, hB⟩ := hrel
      clear HG0 hR0
      have HE := Lib.hid hE
      have HR := Lib.hid hR
      have HB := Lib.hid hB
      have HSt := Lib.hid hst
      clear hE hR hB hst
      by_cases hlt : q < s.size
      · have hlt' : (q : Int) < (s.size : Int) := by omega
        have hbg := begins_val s[q]
        obtain ⟨v, hv⟩ : ∃ v, isB s[q] = v := ⟨_, rfl⟩
        rw [hv] at hbg
        have HBg := Lib.hid hbg
        have HV := Lib.hid hv
        clear hbg hv
        have hql : q < s.data.toList.length := by rw [HL.out]; exact hlt
        have hdc : s.data.toList.drop q = s[q] :: s.data.toList.drop (q + 1) := by
          rw [List.drop_eq_getElem_cons hql]; rfl
        have HD := Lib.hid hdc
        clear hdc
        cases v with
        | false =>
          have hc0 : cls s[q] = 0 := by
            have h1 := HSt.out hlt
            have h2 := HV.out
            unfold isB isL isD at h2
            simp only [Bool.or_eq_false_iff, decide_eq_false_iff_not] at h2
            have h3 := cls_le s[q]
            omega
          have HL2 : Hid (lexE [] (spans s.data.toList 0) = .error (7, q)) := Lib.hid (by
            rw [HE.out, HD.out, spans_cons]
            simp only [lexE]
            rw [show stepS acc _ = .error (7, q) from by unfold stepS; rw [if_neg (HSt.out hlt), if_pos hc0]])
          clear hc0
          go_wp2_with fail
          refine (HBg.out _).mono ?_
          rintro e w1 ⟨rfl, rfl⟩
          go_wp2_with fail
          go_ret3
          exact ⟨none, 0, 0, by rw [HL2.out]; rfl, by rw [HL2.out]; exact Toks.nil_ _, HB.out⟩
        | true =>
          by_cases hfull : acc.length = 2000
          · have HL2 : Hid (lexE [] (spans s.data.toList 0) = .error (2, q)) := Lib.hid (by
              rw [HE.out, HD.out, spans_cons]
              simp only [lexE]
              have h0 : cls s[q] ≠ 0 := fun h => by
                have h2 := HV.out
                unfold isB isL isD at h2
                rw [h] at h2
                cases h2
              rw [show stepS acc _ = .error (2, q) from by unfold stepS; rw [if_neg (HSt.out hlt), if_neg h0, if_pos hfull]])
            have hf : (2000 : Int) ≤ (acc.length : Int) := by omega
            clear hfull
            go_wp2_with fail
            refine (HBg.out _).mono ?_
            rintro e w1 ⟨rfl, rfl⟩
            go_wp2_with fail
            go_ret3
            exact ⟨none, 0, 0, by rw [HL2.out]; rfl, by rw [HL2.out]; exact Toks.nil_ _, HB.out⟩
          · have hf : ¬ (2000 : Int) ≤ (acc.length : Int) := by omega
            obtain ⟨k, hk⟩ : ∃ k, cls s[q] = k := ⟨_, rfl⟩
            have h345 : k = 3 ∨ k = 4 ∨ k = 5 := by
              have h2 := HV.out
              unfold isB isL isD at h2
              rw [hk] at h2
              simp only [Bool.or_eq_true, decide_eq_true_eq] at h2
              exact h2
            obtain ⟨T, hT⟩ : ∃ T, spanLen (s.data.toList.drop q) = T := ⟨_, rfl⟩
            have hT1 : 1 ≤ T := by rw [← hT, HD.out]; exact spanLen_pos _ _
            have hT2 : q + T ≤ s.size := by
              have := spanLen_le (s.data.toList.drop q)
              rw [hT, List.length_drop, HL.out] at this
              omega
            have hend := end_val s q (by unfold maxLen; omega) hlt
            rw [HD.out, endLen_span (by omega), ← HD.out, hT] at hend
            have hokx : okS ⟨q, cls s[q], s.extract q (q + T)⟩ := by
              rw [extract_eq, ← hT, HD.out]
              exact okS_head (by rw [← HD.out, List.length_drop, HL.out]; omega)
            have hhead : spans (s.data.toList.drop q) q = ⟨q, k, s.extract q (q + T)⟩ :: spans (s.data.toList.drop (q + T)) (q + T) := by
              rw [extract_eq, ← hT, ← List.drop_drop, HD.out, spans_cons, hk]
            rw [hk] at hokx
            have hxs : (s.extract q (q + T)).size = T := by
              rw [ByteArray.size_extract]; omega
            have hx0 : ∀ h : 0 < (s.extract q (q + T)).size, cls (s.extract q (q + T))[0] = k := fun h => by
              rw [ByteArray.getElem_extract]
              exact hk
            have HSl := slice_str s q T hT2
            obtain ⟨tx, htx⟩ : ∃ tx, s.extract q (q + T) = tx := ⟨_, rfl⟩
            rw [htx] at hokx hhead hxs
            simp only [htx] at hx0 HSl
            have hx1 : 0 < tx.size := by rw [hxs]; omega
            have hTok := token_ref k tx hx1 (hx0 hx1) h345 hokx.2.2.1 hokx.2.2.2.1
            have hstep := stepS_tok (acc := acc) (p := q) (k := k) (t := tx) (by omega) (by omega) hfull
            have hE2 := HE.out
            rw [hhead] at hE2
            simp only [lexE] at hE2
            obtain ⟨r, hr⟩ : ∃ r, tokenOf k tx.data.toList = r := ⟨_, rfl⟩
            rw [hr] at hTok hstep
            have HTE := Lib.hid (fun e he => tokenOf_err (k := k) (l := tx.data.toList) (e := e) (hr.trans he))
            have HEnd := Lib.hid hend
            clear hT hend hokx hhead hxs hx0 htx hr
            have hlt2 : acc.length < 2000 := by omega
            clear hfull h345 hk
            cases r with
            | error er =>
              have her := HTE.out er rfl
              have en : ((er : Int) != 0) = true := by rw [bne_iff_ne]; omega
              simp only [tokV] at hTok
              rw [hstep] at hE2
              have HT := Lib.hid hTok
              have HL2 : Hid (lexE [] (spans s.data.toList 0) = .error (er, q)) := Lib.hid hE2
              clear hTok hE2 hstep her HTE
              go_wp2_with fail
              refine (HBg.out _).mono ?_
              rintro e w1 ⟨rfl, rfl⟩
              go_wp2_with fail
              refine (HEnd.out _).mono ?_
              rintro e w1 ⟨rfl, rfl⟩
              go_wp2_with fail
              refine (HT.out _).mono ?_
              rintro e w3 ⟨rfl, hb3⟩
              have HB3 := Lib.hid (below_trans' HB.out hb3)
              clear hb3
              go_wp2_with fail
              go_ret3
              exact ⟨none, 0, 0, by rw [HL2.out]; rfl, by rw [HL2.out]; exact Toks.nil_ _, HB3.out.alloc HB3.out.size _⟩
            | ok t =>
              simp only [tokV] at hTok
              rw [hstep] at hE2
              have HT := Lib.hid hTok
              have HL2 := Lib.hid hE2
              have HGp := Lib.hid (gap_val s (q + T) (by unfold maxLen; omega) hT2)
              obtain ⟨i0, hi, hz0, hz1, hz2⟩ := info_parts info_tok
              clear hTok hE2 hstep HTE
              go_wp2_with fail
              refine (HBg.out _).mono ?_
              rintro e w1 ⟨rfl, rfl⟩
              go_wp2_with fail
              refine (HEnd.out _).mono ?_
              rintro e w1 ⟨rfl, rfl⟩
              go_wp2_with fail
              refine (HT.out _).mono ?_
              rintro e w3 ⟨rfl, hb3⟩
              have HB3 := Lib.hid (below_trans' HB.out hb3)
              have R3 := Lib.hid (own_keep HR.out hb3)
              clear hb3
              obtain ⟨W2, hW2⟩ : ∃ W2, (w3.alloc (.cells #[i64 (t.kind : Nat), .string t.text, i64 (t.n : Nat), i64 (q : Nat)] 31)).alloc (.cells #[i64 (t.kind : Nat), .string t.text, i64 (t.n : Nat), i64 (q : Nat)] 31) = W2 := ⟨_, rfl⟩
              have hB12 : Below w3.heap.size w3 W2 := by rw [← hW2]; exact ((Below.refl _ w3).alloc (Nat.le_refl _) _).alloc (by simp) _
              have R8 := Lib.hid (own_keep R3.out hB12)
              have HRf : Hid (Rd W2 W2.heap.size 4 (some ⟨w3.heap.size + 1, 0, none⟩) 1 (decT { t with pos := q })) := by
                have hs2 : w3.heap.size + 2 ≤ W2.heap.size := by rw [← hW2]; simp
                have h0 := rd_fresh (w3.alloc (.cells #[i64 (t.kind : Nat), .string t.text, i64 (t.n : Nat), i64 (q : Nat)] 31)) 31 #[i64 (t.kind : Nat), .string t.text, i64 (t.n : Nat), i64 (q : Nat)] 4 1 (decT { t with pos := q }) rfl rfl
                rw [hW2, World.size_alloc] at h0
                exact Lib.hid (h0.more (by omega))
              have HB2 := Lib.hid (below_trans' HB3.out hB12)
              clear hB12
              go_wp2_with (first
                | (at_builtin; (try rw [hW2]); refine wpList_append_rd _ rfl (.tmp 48) (.tmp 50) _ rfl w.heap.size 31 i0 _ 4 40 Tryd.underlying23 hi hz0 hz1 hz2 rfl (by omega) _ acc.length _ rfl R8.out _ (some ⟨w3.heap.size + 1, 0, none⟩) 1 1 _ rfl HRf.out (one_decT _) (by simp only [maxLen]; omega) (by omega) HB2.out.size ?_
                   intro Aa ca w4 hown1 hfm hg1
                   have HO := Lib.hid hown1
                   have HB4 := Lib.hid (own_below R8.out hg1 HB2.out (Nat.le_refl _) HB2.out.size)
                   clear hown1 hfm hg1))
              refine (HGp.out _).mono ?_
              rintro e w5 ⟨rfl, rfl⟩
              have hlen : (acc ++ [{ t with pos := q }]).length = acc.length + 1 := by simp
              have hfl : (acc ++ [{ t with pos := q }]).flatMap decT = acc.flatMap decT ++ decT { t with pos := q } := by simp
              have hN := rl_next (s := s) (F := w.heap.size) (w := w) (wr := w4) (p := q + T) (acc := acc ++ [{ t with pos := q }]) (A := Aa) (c := ca) hT2 (by rw [hlen]; omega) HL2.out (by rw [hlen, hfl]; exact HO.out) HB4.out
              rw [hlen] at hN
              have HN := Lib.hid hN
              have hgt := gapLen_le _ (s.data.toList.drop (q + T)) (Nat.le_refl _)
              rw [List.length_drop, HL.out] at hgt
              obtain ⟨g, hgg⟩ : ∃ g, gapLen (s.data.toList.drop (q + T)) = g := ⟨_, rfl⟩
              rw [hgg] at HN hgt ⊢
              clear hlen hfl hN hgg
              go_wp2_with fail
              go_roundw
              case rel =>
                have := HN.out
                rw [show (q + T + g : Nat) = q + T + g from rfl] at this
                simpa using this
              case measure => simp [intOf]; omega
      · have hge : ¬ (q : Int) < (s.size : Int) := by omega
        have HL2 : Hid (lexE [] (spans s.data.toList 0) = .ok acc) := Lib.hid (by
          rw [HE.out, List.drop_of_length_le (by rw [HL.out]; omega), spans_nil]; rfl)
        go_wp2_with fail
        go_ret3
        exact ⟨A, acc.length, c, by rw [HL2.out]; rfl, by rw [HL2.out]; exact own_toks HR.out, HB.out⟩
end Go.Proofs.YtgfolnmaakbkcaaDoor.Lx
