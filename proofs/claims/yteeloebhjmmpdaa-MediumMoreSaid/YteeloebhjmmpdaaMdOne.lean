/- The reference's Catch. -/
import Derived.Test.YteeloebhjmmpdaaMdRef
namespace Go.Proofs.Yteeloebhjmmpdaa.Md
open Go.RowKit Go.Proofs.Yteeloebhjmmpdaa.Pl
set_option linter.unusedVariables false

theorem pick_prefix {ra : List Ac} {i : Nat} {l t : List Nat} (h : 2 ≤ l.length) (hp : l <+: t) : pick ra i t = -2 := by
  obtain ⟨u, rfl⟩ := hp
  match l, h with
  | x :: y :: z, _ => rfl

set_option maxRecDepth 100000 in
set_option maxHeartbeats 2000000 in
theorem refOne_val (A : Option Addr) (n c : Nat) (P : Option Addr) (d B : Nat) (J : Option Addr) (m e : Nat) (ra : List Ac) (ps : List Pt) (r : Int) (js : List Jm) (asn : Int) (i : Nat) (z : Int) (hz : cat ra ps r js asn i = z) (hi : i < n) (w : World)
    (hR : Rd w B 5 A n (ra.flatMap decA)) (hP : Rd w B 2 P n (ps.flatMap decP)) (hJ : Rd w B 5 J m (js.flatMap decJ)) (hB : B ≤ w.heap.size) (hl : ra.length = n) (hm : ps.length = n) (hj : js.length = m) (hn : n ≤ 210) (hmm : m ≤ maxLen) :
    Calls Try.prog 47 #[.slice A n c, .slice P n d, i64 r, .slice J m e, i64 asn, i64 (i : Nat)] w fun e w' => e = .returned (i64 z) ∧ Below w.heap.size w w' := by
  have hil : i < ra.length := by omega
  have hip : i < ps.length := by omega
  obtain ⟨b, off, rfl, hb, hc2⟩ := rd_el (dec := decA) (fun _ => rfl) hR hl hil
  obtain ⟨q, qo, rfl, hq, hc4⟩ := rd_el (dec := decP) (fun _ => rfl) hP hm hip
  unfold cat at hz
  have HL := Lib.hid hl; clear hl
  have HM := Lib.hid hm; clear hm
  have HJ := Lib.hid hj; clear hj
  rw [HL.out] at hz
  have hkd : (ra.getD i z0).act = 1 → ∀ k, hkd ra ps r i k = hk ra ps r i k := fun h k => hrd_of h _ _ _
  have hga : ra.getD i z0 = ra[i] := getD_of hil _
  have hgp : ps.getD i p0 = ps[i] := getD_of hip _
  rw [hga] at hkd
  rw [hga, hgp] at hz
  obtain ⟨⟨la, lc, ls, ll, lh⟩, el⟩ : ∃ a, ra[i] = a := ⟨_, rfl⟩
  obtain ⟨⟨ox, oy⟩, eo⟩ : ∃ a, ps[i] = a := ⟨_, rfl⟩
  rw [el] at hc2 hz hkd
  rw [eo] at hc4 hz
  dsimp only at hz hkd
  have d0 : w.cell? ⟨b, off + i * 5, none⟩ = some (i64 la) := hc2 0 _ rfl
  by_cases h1 : la = 1
  · subst h1
    have HKD := Lib.hid (hkd rfl); clear hkd
    rw [if_pos rfl] at hz
    have hup : ∀ a b, Below w.heap.size w a → Below a.heap.size a b → Below w.heap.size w b := fun a b h k => below_trans' h k
    have f0 : ∀ s : WOf (Below w.heap.size w), s.w.cell? ⟨b, off + i * 5 + 1, none⟩ = some (i64 lc) := fun s => cup (hc2 1 _ rfl) s.ok
    have f1 : ∀ s : WOf (Below w.heap.size w), s.w.cell? ⟨q, qo + i * 2, none⟩ = some (i64 ox) := fun s => cup (hc4 0 _ rfl) s.ok
    have f2 : ∀ s : WOf (Below w.heap.size w), s.w.cell? ⟨q, qo + i * 2 + 1, none⟩ = some (i64 oy) := fun s => cup (hc4 1 _ rfl) s.ok
    cases hjm : jammed js (ox, oy) lc asn
    · rw [hjm] at hz
      have HZ : Hid (pick ra i (Hm ra ps r i n) = z) := Lib.hid (by simpa using hz)
      have JV := Lib.hid (fun s : WOf (Below w.heap.size w) => refJammed_val J m e B js ox oy lc asn false hjm s.w (hJ.below' s.ok hB) (Nat.le_trans hB s.ok.size) HJ.out hmm)
      have HC2 := Lib.hid hc2; clear hc2
      clear hz hjm hga hgp hc4 el eo
      go_enter Try.func47, Try.ntmps47
      go_wp2_with fail
      refine wp_region_ext (Below w.heap.size w) (Below.refl _ _) hup (by kernel_rfl) (by kernel_rfl) (fun hne => ?_)
      try simp only [List.append_eq, List.cons_append, List.nil_append]
      repeat (go_big_quiet_step (with_reducible exact calls_ext hup (JV.out _)))
      refine wpQuiet_nil ?_
      clear hne
      intro wx hx'
      obtain ⟨⟨_, hx⟩, hx''⟩ := hx'
      subst hx''
      clear JV f0 f1 f2 d0
      go_wp2_with fail
      go_loopw [13, 14] (fun fo k wr => ∃ j : Nat, j ≤ n ∧ (Hm ra ps r i j).length ≤ 1 ∧ fo = .int .i64 (fnd (Hm ra ps r i j)) ∧ k = .int .i64 j ∧ Below w.heap.size w wr) (fun _ k _ => n - (intOf k).toNat)
      case atStart => exact ⟨0, Nat.zero_le _, by simp [Hm_zero], rfl, rfl, hx⟩
      case round =>
        clear hx
        obtain ⟨j, hjn, hlen, rfl, rfl, hb1⟩ := hrel
        by_cases hlt : j < n
        · obtain ⟨v, hv⟩ : ∃ v, hk ra ps r i j = v := ⟨_, rfl⟩
          have hsucc := Hm_succ ra ps r i j
          rw [hv] at hsucc
          have RH := Lib.hid (fun c' d' => refHeard_val (some ⟨b, off, none⟩) n c' (some ⟨q, qo, none⟩) d' B ra ps r j i v (by rw [HKD.out, hv]) hlt hi wr (hR.below' hb1 hB) (hP.below' hb1 hB) (Nat.le_trans hB hb1.size) HL.out HM.out hn)
          clear hv
          cases v
          · have HS : Hid (Hm ra ps r i (j + 1) = Hm ra ps r i j) := by show _ = _; rw [hsucc]; simp
            clear hsucc
            go_wp2_with fail
            refine (RH.out _ _).mono ?_
            rintro e w2 ⟨rfl, hb2⟩
            go_wp2_with fail
            go_roundw
            case rel => exact ⟨j + 1, by omega, by rw [HS.out]; exact hlen, by rw [HS.out], by go_num, below_trans' hb1 hb2⟩
            case measure => simp [intOf]; omega
          · have HS : Hid (Hm ra ps r i (j + 1) = Hm ra ps r i j ++ [j]) := by show _ = _; rw [hsucc]; simp
            clear hsucc
            match hH : Hm ra ps r i j, hlen with
            | [], _ =>
              have HS2 : Hid (Hm ra ps r i (j + 1) = [j]) := by show _ = _; rw [HS.out, hH]; rfl
              clear HS hH
              have hf : fnd [] = -1 := rfl
              rw [hf]
              clear hf
              go_wp2_with fail
              refine (RH.out _ _).mono ?_
              rintro e w2 ⟨rfl, hb2⟩
              go_wp2_with fail
              go_roundw
              case rel => exact ⟨j + 1, by omega, by rw [HS2.out]; simp, by rw [HS2.out]; rfl, by go_num, below_trans' hb1 hb2⟩
              case measure => simp [intOf]; omega
            | [x], _ =>
              have hp := Hm_prefix ra ps r i (k := j + 1) (n := n) (by omega)
              rw [HS.out, hH] at hp
              obtain rfl : z = -2 := by rw [← HZ.out]; exact pick_prefix (by simp) hp
              have hf : fnd [x] = (x : Nat) := rfl
              rw [hf]
              clear hf hp HS hH HZ
              have hx0 : (0 : Int) ≤ (x : Int) := Int.natCast_nonneg x
              go_wp2_with fail
              refine (RH.out _ _).mono ?_
              rintro e w2 ⟨rfl, hb2⟩
              go_wp2_with fail
              go_ret
              exact ⟨rfl, below_trans' hb1 hb2⟩
        · obtain rfl : j = n := by omega
          have hup1 : ∀ a b, Below wr.heap.size wr a → Below a.heap.size a b → Below wr.heap.size wr b := fun a b h k => below_trans' h k
          match hH : Hm ra ps r i j, hlen with
          | [], _ =>
            obtain rfl : z = -1 := by rw [← HZ.out, hH]; rfl
            have hf : fnd [] = -1 := rfl
            rw [hf]
            clear hf HZ hH
            go_wp2_with fail
            refine wp_region_ext (Below wr.heap.size wr) (Below.refl _ _) hup1 (by kernel_rfl) (by kernel_rfl) (fun hne => ?_)
            try simp only [List.append_eq, List.cons_append, List.nil_append]
            repeat (go_big_quiet_step (fail))
            refine wpQuiet_nil ?_
            clear hne
            intro wx hx'
            obtain ⟨⟨_, hx⟩, hx''⟩ := hx'
            subst hx''
            go_wp2_with fail
            go_ret
            exact ⟨rfl, below_trans' hb1 hx⟩
          | [k], _ =>
            have hkm : k ∈ Hm ra ps r i j := by rw [hH]; simp
            have hkn : k < j := (mem_Hm.1 hkm).1
            have hkl : k < ra.length := by have := HL.out; omega
            have hz : (if opn (ra.getD k z0) (ra.getD i z0) then (k : Int) else -1) = z := by rw [← HZ.out, hH]; rfl
            rw [getD_of hkl, getD_of hil] at hz
            obtain ⟨b', off', e, _, hc1⟩ := rd_el (dec := decA) (fun _ => rfl) (hR.below' hb1 hB) HL.out hkl
            simp only [Option.some.injEq, Addr.mk.injEq, and_true] at e
            obtain ⟨rfl, rfl⟩ := e
            obtain ⟨b', off', e, _, hc2⟩ := rd_el (dec := decA) (fun _ => rfl) (hR.below' hb1 hB) HL.out hil
            simp only [Option.some.injEq, Addr.mk.injEq, and_true] at e
            obtain ⟨rfl, rfl⟩ := e
            obtain ⟨⟨sa, sc, ss, sl, sh⟩, es⟩ : ∃ a, ra[k] = a := ⟨_, rfl⟩
            obtain ⟨⟨la', lc', ls', ll', lh'⟩, el'⟩ : ∃ a, ra[i] = a := ⟨_, rfl⟩
            rw [es] at hc1 hz
            rw [el'] at hc2 hz
            clear es el'
            have f2 : ∀ s : WOf (Below wr.heap.size wr), s.w.cell? ⟨b, off + k * 5 + 2, none⟩ = some (i64 ss) := fun s => cup (hc1 2 _ rfl) s.ok
            have f3 : ∀ s : WOf (Below wr.heap.size wr), s.w.cell? ⟨b, off + i * 5 + 3, none⟩ = some (i64 ll') := fun s => cup (hc2 3 _ rfl) s.ok
            have f4 : ∀ s : WOf (Below wr.heap.size wr), s.w.cell? ⟨b, off + i * 5 + 3 + 1, none⟩ = some (i64 lh') := fun s => cup (hc2 4 _ rfl) s.ok
            obtain ⟨v, hv⟩ : ∃ v, win ss ll' lh' = v := ⟨_, rfl⟩
            have hz2 : (if v = true then (k : Int) else -1) = z := by rw [← hz, ← hv]; rfl
            have CV := Lib.hid (fun W => refCatches_val ss ll' lh' v hv W)
            have hf : fnd [k] = (k : Nat) := rfl
            rw [hf]
            have hx0 : (0 : Int) ≤ (k : Int) := Int.natCast_nonneg k
            clear hf HZ hH hz hv hc1 hc2 hkm
            cases v
            · obtain rfl : z = -1 := by rw [← hz2]; rfl
              clear hz2
              go_wp2_with fail
              refine wp_region_ext (Below wr.heap.size wr) (Below.refl _ _) hup1 (by kernel_rfl) (by kernel_rfl) (fun hne => ?_)
              try simp only [List.append_eq, List.cons_append, List.nil_append]
              repeat (go_big_quiet_step (with_reducible exact calls_ext hup1 (CV.out _)))
              refine wpQuiet_nil ?_
              clear hne
              intro wx hx'
              obtain ⟨⟨_, hx⟩, hx''⟩ := hx'
              subst hx''
              go_wp2_with fail
              go_ret
              exact ⟨rfl, below_trans' hb1 hx⟩
            · obtain rfl : z = (k : Nat) := by rw [← hz2]; rfl
              clear hz2
              go_wp2_with fail
              refine wp_region_ext (Below wr.heap.size wr) (Below.refl _ _) hup1 (by kernel_rfl) (by kernel_rfl) (fun hne => ?_)
              try simp only [List.append_eq, List.cons_append, List.nil_append]
              repeat (go_big_quiet_step (with_reducible exact calls_ext hup1 (CV.out _)))
              refine wpQuiet_nil ?_
              clear hne
              intro wx hx'
              obtain ⟨⟨_, hx⟩, hx''⟩ := hx'
              subst hx''
              go_wp2_with fail
              go_ret
              exact ⟨rfl, below_trans' hb1 hx⟩
    · rw [hjm] at hz
      obtain rfl : z = -2 := by simpa using hz.symm
      have JV := Lib.hid (fun s : WOf (Below w.heap.size w) => refJammed_val J m e B js ox oy lc asn true hjm s.w (hJ.below' s.ok hB) (Nat.le_trans hB s.ok.size) HJ.out hmm)
      clear hz hjm hga hgp hc4 el eo hc2 HKD
      go_enter Try.func47, Try.ntmps47
      go_wp2_with fail
      refine wp_region_ext (Below w.heap.size w) (Below.refl _ _) hup (by kernel_rfl) (by kernel_rfl) (fun hne => ?_)
      try simp only [List.append_eq, List.cons_append, List.nil_append]
      repeat (go_big_quiet_step (with_reducible exact calls_ext hup (JV.out _)))
      refine wpQuiet_nil ?_
      clear hne
      intro wx hx'
      obtain ⟨⟨_, hx⟩, hx''⟩ := hx'
      subst hx''
      go_wp2_with fail
      go_ret
      exact ⟨rfl, hx⟩
  · obtain rfl : z = -1 := by rw [← hz, if_neg h1]
    have k1 : (la != 1) = true := by rw [bne_iff_ne]; exact h1
    clear hz hga hgp hc2 hc4 el eo hkd h1
    go_enter Try.func47, Try.ntmps47
    go_wp2_with fail
    go_ret
    exact ⟨rfl, Below.refl _ _⟩
end Go.Proofs.Yteeloebhjmmpdaa.Md
