/- The law TreeParts. -/
import Derived.Test.YthaibmkieflafaaTrLaws3
namespace Go.Proofs.Ythaibmkieflafaa.Tr
open Go.RowKit Go.Proofs.Ythaibmkieflafaa.Dig
set_option linter.unusedVariables false

theorem info_bs : (Try.prog.info? 22).map (fun i => (i.zero, i.size, i.bytes)) = some (some (.slice none 0 0), 1, 24) := by kernel_rfl
theorem okp_sub {l m : List Pg} (h : okp l = true) (hs : ∀ p ∈ m, p ∈ l) (hl : m.length ≤ l.length) (h1 : 1 ≤ m.length) : okp m = true := by
  unfold okp at h ⊢
  simp only [Bool.and_eq_true, decide_eq_true_eq, List.all_eq_true] at h ⊢
  exact ⟨h1, by omega, fun p hp => h.2.2 p (hs p hp)⟩
theorem okp_snoc {l : List Pg} {p : Pg} (h : okp l = true) (hl : l.length < 16) (hp : p.n ≤ 256) : okp (l ++ [p]) = true := by
  unfold okp at h ⊢
  simp only [Bool.and_eq_true, decide_eq_true_eq, List.all_eq_true, List.length_append, List.length_singleton, List.mem_append, List.mem_singleton] at h ⊢
  refine ⟨by omega, by omega, ?_⟩
  rintro q (hq | rfl)
  · exact h.2.2 q hq
  · exact hp
theorem Pgs.take {w : World} {B : Nat} {A : Option Addr} {n k : Nat} {l : List Pg} (h : Pgs w B A n l) (hk : k ≤ n) : Pgs w B A k (l.take k) :=
  ⟨by have := h.1.take hk; rw [Nat.mul_one, ← List.map_take] at this; exact this, fun p hp => h.2 p (List.mem_of_mem_take hp)⟩
theorem Pgs.cut {w : World} {B : Nat} {A : Option Addr} {n k cap : Nat} {l : List Pg} (h : Pgs w B A n l) (hk : k ≤ n) (hc : n ≤ cap) : Pgs w B (if cap = k then A else A.map (·.add k)) (n - k) (l.drop k) :=
  ⟨by have := h.1.cut hk hc; rw [Nat.mul_one, ← List.map_drop] at this; exact this, fun p hp => h.2 p (List.mem_of_mem_drop hp)⟩
theorem one_pg (l : List Pg) : ∀ u ∈ l.map Pg.v, u.oneCell' = true := by
  intro u hu
  obtain ⟨c, _, rfl⟩ := List.mem_map.1 hu
  rfl

set_option maxRecDepth 100000 in
set_option maxHeartbeats 4000000 in
theorem treeParts_walk (A : Option Addr) (n c : Nat) (l : List Pg) (B : Option Addr) (m d : Nat) (lb : List UInt8) (W : World) (g0 : IsPages W A n c l) (g1 : IsBytes W B m d lb) :
    Calls Try.prog 16 #[.slice A n c, .slice B m d] W fun e w' => e = .returned (.bool true) ∧ Below W.heap.size W w' := by
  obtain ⟨hR, hnc, hcm, _⟩ := g0
  obtain ⟨hbl, hB, hmd, hdm⟩ := g1
  have HR := Lib.hid hR; clear hR
  have HBy := Lib.hid hB; clear hB
  have hn : n ≤ maxLen := by omega
  have hm : m ≤ maxLen := by omega
  have HLb := Lib.hid hbl
  clear hbl
  have hn' : n ≤ 9223372036854775807 := by unfold maxLen at hn; omega
  obtain ⟨i0, hi, hz0, hz1, hz2⟩ := info_parts info_bs
  go_enter Try.func16, Try.ntmps16
  go_wp2_with fail
  refine (head_val _).mono ?_
  rintro e w1 ⟨rfl, hb1⟩
  have HR1 := Lib.hid (HR.out.up hb1)
  have HB1 := Lib.hid (HBy.out.up hb1)
  go_wp2_with fail
  refine (few_val A n c _ l w1 HR1.out hn).mono ?_
  rintro e w2 ⟨fb, rfl, rfl⟩
  cases fb with
  | false =>
    go_wp2_with fail
    go_ret
    exact ⟨rfl, hb1⟩
  | true =>
    go_wp2_with fail
    cases hok : okp l with
    | false =>
      refine (refPages_val A n c _ l false hok w1 HR1.out hn).mono ?_
      rintro e w2 ⟨rfl, rfl⟩
      go_wp2_with fail
      go_ret
      exact ⟨rfl, hb1⟩
    | true =>
      have HOk := Lib.hid hok
      have hn16 := okp_le hok
      rw [HR.out.len] at hn16
      obtain ⟨hn1, hn16⟩ := hn16
      refine (refPages_val A n c _ l true hok w1 HR1.out hn).mono ?_
      rintro e w2 ⟨rfl, rfl⟩
      clear hok
      obtain ⟨b, off, rfl, _, _, _⟩ := HR.out.at_ (show 0 < n by omega)
      by_cases h256 : (256 : Int) < m
      · go_wp2_with fail
        go_ret
        exact ⟨rfl, hb1⟩
      · go_wp2_with fail
        go_loop [6] (fun s => ∃ k : Nat, s = i64 (k : Nat) ∧ 1 ≤ k ∧ k ≤ n ∧ Hid (∃ e, k = 2 ^ e)) (fun s => n - (intOf s).toNat)
        case atStart => exact ⟨1, rfl, Nat.le_refl _, hn1, ⟨0, rfl⟩⟩
        case round =>
          obtain ⟨k, rfl, hk1, hk, HK⟩ := hrel
          by_cases h2 : 2 * k ≤ n
          · go_wp2_with fail
            go_round
            case rel => exact ⟨2 * k, by go_num, by omega, h2, by obtain ⟨e, he⟩ := HK.out; exact ⟨e + 1, by rw [he, Nat.pow_succ]; omega⟩⟩
            case measure => simp [intOf]; omega
          · have HT := Lib.hid (HR1.out.take hk)
            have hokt := okp_sub (m := l.take k) HOk.out (fun p hp => List.mem_of_mem_take hp) (by simp; omega) (by have := HR.out.len; simp; omega)
            have HOt := Lib.hid hokt
            clear hokt
            have HTO : top (lvs (l.take k ++ [⟨B, m, d, lb⟩])) = pair (top (lvs (l.take k))) (leaf lb) := by
              obtain ⟨e, he⟩ := HK.out
              have := top_one e (lvs (l.take k)) (leaf lb) (by rw [lvs_length, List.length_take, HR.out.len, ← he]; omega)
              rw [← this]; simp [lvs]
            by_cases hk2 : k = 1
            · subst hk2
              clear HK
              go_wp2_with fail
              refine (root_good _ 1 c (l.take 1) HOt.out w1 HT.out (by omega)).mono ?_
              rintro e w2 ⟨rfl, hb2⟩
              have hB2 := below_trans' hb1 hb2
              have hown0 := World.ownsRow_lit (base := W.heap.size) (e := 22) (size := 1) w2 #[] 0 hB2.size (by decide) rfl
              have hBa : Below W.heap.size W (w2.alloc (.cells #[] 22)) := hB2.alloc hB2.size _
              have HTa := Lib.hid ((HR.out.take hk).below' hBa (Nat.le_refl _))
              go_wp2_with (first
                | (at_builtin; refine wpList_append_rd _ rfl (.tmp 82) (.tmp 85) _ rfl W.heap.size 22 i0 _ 1 24 Try.underlying38 hi hz0 hz1 hz2 rfl (by omega) _ 0 [] rfl hown0 _ (some ⟨b, off, none⟩) (1) c _ rfl HTa.out.1 (one_pg _) (by simp only [maxLen]; omega) (by omega) hBa.size ?_; intro Aa ca wa hown1 hfm hg1; simp only [Nat.zero_add, List.nil_append] at hown1 hfm; have hBb := own_below hown0 hg1 hBa (Nat.le_refl _) hBa.size; have hownb := hown1.kept (World.grownBy_alloc wa (.cells #[.slice B m d] 22) none) (Classical.em _); have hBc : Below W.heap.size W (wa.alloc (.cells #[.slice B m d] 22)) := hBb.alloc hBb.size _; have hrn := Rd.new wa 22 #[.slice B m d] (0, 0) 1 1 rfl)
                | (at_builtin; refine wpList_append_rd _ rfl (.tmp 86) (.tmp 88) _ rfl W.heap.size 22 i0 _ 1 24 Try.underlying38 hi hz0 hz1 hz2 rfl (by omega) _ _ _ rfl hownb _ _ 1 1 _ rfl hrn (one_pg [⟨B, m, d, lb⟩]) (by simp only [maxLen]; omega) (by omega) hBc.size ?_; intro Ab cb wb hown2 _ hg2; have hBd := own_below hownb hg2 hBc (Nat.le_refl _) hBc.size))
              have hPg : Pgs wb wb.heap.size Ab (1 + 1) (l.take (1) ++ [⟨B, m, d, lb⟩]) := by
                refine ⟨?_, ?_⟩
                · rw [List.map_append]; exact Rd.of_own hown2
                · intro p hp
                  rcases List.mem_append.1 hp with hp | hp
                  · exact ((HR.out.take hk).2 p hp).below' hBd (Nat.le_refl _) |>.more hBd.size
                  · obtain rfl := List.mem_singleton.1 hp
                    exact ⟨(HBy.out.below' hBd (Nat.le_refl _)).more hBd.size, hm⟩
              have hokn := okp_snoc (p := ⟨B, m, d, lb⟩) HOt.out (by rw [List.length_take]; omega) (by show m ≤ 256; omega)
              refine (root_good Ab (1 + 1) cb _ hokn wb hPg (by simp only [maxLen]; omega)).mono ?_
              rintro e wc ⟨rfl, hbc⟩
              have hBe := below_trans' hBd hbc
              have HLe := Lib.hid ((HBy.out.below' hBe (Nat.le_refl _)).more hBe.size)
              have HTo := Lib.hid HTO
              clear HTO hokn hPg
              go_wp2_with fail
              refine (lawLeaf_val B m d lb wc HLe.out hm).mono ?_
              rintro e wd ⟨rfl, hbd⟩
              have hBf := below_trans' hBe hbd
              go_wp2_with fail
              refine (pair_any _ _ wd).mono ?_
              rintro e we ⟨rfl, rfl⟩
              have e1 : (((top (lvs (List.take (1) l ++ [⟨B, m, d, lb⟩]))).toNat : Int) == ((pair (top (lvs (List.take (1) l))) (leaf lb)).toNat : Int)) = true := by rw [HTo.out]; simp
              go_wp2_with fail
              go_ret
              exact ⟨rfl, hBf⟩
            · obtain ⟨h, rfl, HH⟩ : ∃ h, k = 2 * h ∧ Hid (∃ e, h = 2 ^ e) := by
                obtain ⟨e, he⟩ := HK.out
                cases e with
                | zero => exact absurd he hk2
                | succ e => exact ⟨2 ^ e, by rw [he, Nat.pow_succ]; omega, e, rfl⟩
              clear HK hk2
              have hh1 : 1 ≤ h := by omega
              have HTH : Hid (top (lvs (l.take (2 * h))) = pair (top (lvs (l.take h))) (top (lvs ((l.take (2 * h)).drop h)))) := by
                obtain ⟨e, he⟩ := HH.out
                show _ = _
                have := top_halves e (lvs (l.take h)) (lvs ((l.take (2 * h)).drop h)) (by rw [lvs_length, List.length_take, HR.out.len, ← he]; omega) (by rw [lvs_length, List.length_drop, List.length_take, HR.out.len, ← he]; omega)
                rw [← this]
                congr 1
                unfold lvs
                rw [← List.map_append, show l.take h = (l.take (2 * h)).take h by rw [List.take_take, Nat.min_eq_left (by omega)], List.take_append_drop]
              clear HH
              have HOa := Lib.hid (okp_sub (m := l.take h) HOk.out (fun p hp => List.mem_of_mem_take hp) (by simp; omega) (by have := HR.out.len; simp; omega))
              have HOb := Lib.hid (okp_sub (m := (l.take (2 * h)).drop h) HOk.out (fun p hp => List.mem_of_mem_take (List.mem_of_mem_drop hp)) (by have := HR.out.len; simp; omega) (by have := HR.out.len; simp; omega))
              go_wp2_with fail
              refine (root_good _ (2 * h) c (l.take (2 * h)) HOt.out w1 HT.out (by omega)).mono ?_
              rintro e w2 ⟨rfl, hb2⟩
              have hB2 := below_trans' hb1 hb2
              have HTa := Lib.hid (((HR.out.take (show h ≤ n by omega)).below' hB2 (Nat.le_refl _)).more hB2.size)
              go_wp2_with fail
              refine (root_good _ h c (l.take h) HOa.out w2 HTa.out (by omega)).mono ?_
              rintro e w3 ⟨rfl, hb3⟩
              have hB3 := below_trans' hB2 hb3
              have HTb := Lib.hid ((((HR.out.take (show 2 * h ≤ n by omega)).cut (show h ≤ 2 * h by omega) (show 2 * h ≤ c by omega)).below' hB3 (Nat.le_refl _)).more hB3.size)
              rw [if_neg (show c ≠ h by omega)] at HTb
              go_wp2_with fail
              refine (root_good _ (2 * h - h) (c - h) ((l.take (2 * h)).drop h) HOb.out w3 ?_ (by omega)).mono ?_
              · simpa [Addr.add, show h ≠ 0 by omega] using HTb.out
              rintro e w4 ⟨rfl, hb4⟩
              have hB4 := below_trans' hB3 hb4
              have HPa := Lib.hid (pair_any (top (lvs (l.take h))) (top (lvs ((l.take (2 * h)).drop h))) w4)
              rw [← HTH.out] at HPa
              go_wp2_with (with_reducible exact HPa.out)
              refine HPa.out.mono ?_
              rintro e w5 ⟨rfl, rfl⟩
              have e0 : (((top (lvs (l.take (2 * h)))).toNat : Int) != ((top (lvs (l.take (2 * h)))).toNat : Int)) = false := by simp
              by_cases h16 : 2 * h = 16
              · have h16' : (2 * (h : Int)) = 16 := by omega
                go_wp2_with fail
                go_ret
                exact ⟨rfl, hB4⟩
              · have h16' : ((2 * (h : Int)) == 16) = false := by rw [beq_eq_false_iff_ne]; omega
                have hown0 := World.ownsRow_lit (base := W.heap.size) (e := 22) (size := 1) w4 #[] 0 hB4.size (by decide) rfl
                have hBa : Below W.heap.size W (w4.alloc (.cells #[] 22)) := hB4.alloc hB4.size _
                have HTa := Lib.hid ((HR.out.take hk).below' hBa (Nat.le_refl _))
                go_wp2_with (first
                  | (at_builtin; refine wpList_append_rd _ rfl (.tmp 82) (.tmp 85) _ rfl W.heap.size 22 i0 _ 1 24 Try.underlying38 hi hz0 hz1 hz2 rfl (by omega) _ 0 [] rfl hown0 _ (some ⟨b, off, none⟩) (2 * h) c _ rfl HTa.out.1 (one_pg _) (by simp only [maxLen]; omega) (by omega) hBa.size ?_; intro Aa ca wa hown1 hfm hg1; simp only [Nat.zero_add, List.nil_append] at hown1 hfm; have hBb := own_below hown0 hg1 hBa (Nat.le_refl _) hBa.size; have hownb := hown1.kept (World.grownBy_alloc wa (.cells #[.slice B m d] 22) none) (Classical.em _); have hBc : Below W.heap.size W (wa.alloc (.cells #[.slice B m d] 22)) := hBb.alloc hBb.size _; have hrn := Rd.new wa 22 #[.slice B m d] (0, 0) 1 1 rfl)
                  | (at_builtin; refine wpList_append_rd _ rfl (.tmp 86) (.tmp 88) _ rfl W.heap.size 22 i0 _ 1 24 Try.underlying38 hi hz0 hz1 hz2 rfl (by omega) _ _ _ rfl hownb _ _ 1 1 _ rfl hrn (one_pg [⟨B, m, d, lb⟩]) (by simp only [maxLen]; omega) (by omega) hBc.size ?_; intro Ab cb wb hown2 _ hg2; have hBd := own_below hownb hg2 hBc (Nat.le_refl _) hBc.size))
                have hPg : Pgs wb wb.heap.size Ab (2 * h + 1) (l.take (2 * h) ++ [⟨B, m, d, lb⟩]) := by
                  refine ⟨?_, ?_⟩
                  · rw [List.map_append]; exact Rd.of_own hown2
                  · intro p hp
                    rcases List.mem_append.1 hp with hp | hp
                    · exact ((HR.out.take hk).2 p hp).below' hBd (Nat.le_refl _) |>.more hBd.size
                    · obtain rfl := List.mem_singleton.1 hp
                      exact ⟨(HBy.out.below' hBd (Nat.le_refl _)).more hBd.size, hm⟩
                have hokn := okp_snoc (p := ⟨B, m, d, lb⟩) HOt.out (by rw [List.length_take]; omega) (by show m ≤ 256; omega)
                refine (root_good Ab (2 * h + 1) cb _ hokn wb hPg (by simp only [maxLen]; omega)).mono ?_
                rintro e wc ⟨rfl, hbc⟩
                have hBe := below_trans' hBd hbc
                have HLe := Lib.hid ((HBy.out.below' hBe (Nat.le_refl _)).more hBe.size)
                have HTo := Lib.hid HTO
                clear HTO hokn hPg
                go_wp2_with fail
                refine (lawLeaf_val B m d lb wc HLe.out hm).mono ?_
                rintro e wd ⟨rfl, hbd⟩
                have hBf := below_trans' hBe hbd
                go_wp2_with fail
                refine (pair_any _ _ wd).mono ?_
                rintro e we ⟨rfl, rfl⟩
                have e1 : (((top (lvs (List.take (2 * h) l ++ [⟨B, m, d, lb⟩]))).toNat : Int) == ((pair (top (lvs (List.take (2 * h) l))) (leaf lb)).toNat : Int)) = true := by rw [HTo.out]; simp
                go_wp2_with fail
                go_ret
                exact ⟨rfl, hBf⟩
end Go.Proofs.Ythaibmkieflafaa.Tr
