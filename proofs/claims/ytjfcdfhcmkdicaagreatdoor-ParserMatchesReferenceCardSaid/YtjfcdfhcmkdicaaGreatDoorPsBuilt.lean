/- The reference: the command of tokens that fit a form. -/
import Derived.Test.YtjfcdfhcmkdicaaGreatDoorPsMatch
import Derived.Test.YtjfcdfhcmkdicaaGreatDoorPsD
import Derived.Test.YtjfcdfhcmkdicaaGreatDoorPsRead
namespace Go.Proofs.YtjfcdfhcmkdicaaGreatDoor.Ps
open Go.RowKit Go.Proofs.YtjfcdfhcmkdicaaGreatDoor.Lx Go.Proofs.YtjfcdfhcmkdicaaGreatDoor.Pr
set_option linter.unusedVariables false

/-- The command while it is built: its block, its numbers. -/
structure BSt (w : World) (ob : Nat) (kd : Int) (pos : Int) (nm : ByteArray) (NV : Value) (ns : List Int) (wr : World) : Prop where
  bel : Below w.heap.size w wr
  res : Blk wr w.heap.size 34 #[.int .i64 0, .string ⟨#[]⟩, .slice none 0 0, .int .i64 0]
  blk : Blk wr ob 34 #[.int .i64 kd, .string nm, NV, .int .i64 pos]
  own : wr.ownsRow w.heap.size 3 1 NV ns.length (ns.map iv)
  ge : w.heap.size < ob
section
variable {w wr w2 w3 : World} {ob : Nat} {kd pos : Int} {nm : ByteArray} {NV NV' : Value} {ns : List Int}
theorem BSt.up (h : BSt w ob kd pos nm NV ns wr) (hb : Below wr.heap.size wr w2) : BSt w ob kd pos nm NV ns w2 :=
  ⟨below_trans' h.bel hb, h.res.up' hb, h.blk.up' hb, own_keep h.own hb, h.ge⟩
theorem BSt.name (h : BSt w ob kd pos nm NV ns wr) (nm' : ByteArray) : BSt w ob kd pos nm' NV ns (wr.setCell ⟨ob, 1, none⟩ (.string nm')) := by
  refine ⟨h.bel.setCell (p := ⟨ob, 1, none⟩) (Nat.le_of_lt h.ge) _, h.res.far (by have := h.ge; show w.heap.size ≠ ob; omega) _, h.blk.set_ 1 _, ?_, h.ge⟩
  exact h.own.kept (row := some ob) ⟨rfl, rfl, rfl, by rw [World.size_setCell]; exact Nat.le_refl _, fun k hk hr => Below.heap_setCell wr ⟨ob, 1, none⟩ _ k (fun q => hr (congrArg some q))⟩ (.inr (own_ne_t h.own h.blk (by decide)))
theorem BSt.grown (h : BSt w ob kd pos nm NV ns wr) (hg : wr.grownBy w3 NV.ownBlock) : Blk w3 ob 34 #[.int .i64 kd, .string nm, NV, .int .i64 pos] := h.blk.grown hg (fun q => own_ne_t h.own h.blk (by decide) q.symm)
theorem BSt.more (h : BSt w ob kd pos nm NV ns wr) (hg : wr.grownBy w3 NV.ownBlock) {v : Int} {A : Option Addr} {c : Nat} (ho : w3.ownsRow w.heap.size 3 1 (.slice A (ns.length + 1) c) (ns.length + 1) (ns.map iv ++ [iv v])) :
    BSt w ob kd pos nm (.slice A (ns.length + 1) c) (ns ++ [v]) (w3.setCell ⟨ob, 2, none⟩ (.slice A (ns.length + 1) c)) := by
  have hne := own_ne_t h.own h.blk (by decide)
  have hne0 := own_ne_t h.own h.res (by decide)
  have hb3 : Blk w3 ob 34 #[.int .i64 kd, .string nm, NV, .int .i64 pos] := h.blk.grown hg (fun q => hne q.symm)
  have hr3 : Blk w3 w.heap.size 34 #[.int .i64 0, .string ⟨#[]⟩, .slice none 0 0, .int .i64 0] := h.res.grown hg (fun q => hne0 q.symm)
  refine ⟨(own_below h.own hg h.bel (Nat.le_refl _) h.bel.size).setCell (p := ⟨ob, 2, none⟩) (Nat.le_of_lt h.ge) _, hr3.far (by have := h.ge; show w.heap.size ≠ ob; omega) _, hb3.set_ 2 _, ?_, h.ge⟩
  rw [List.length_append, List.length_singleton, List.map_append, List.map_singleton]
  exact ho.kept (row := some ob) ⟨rfl, rfl, rfl, by rw [World.size_setCell]; exact Nat.le_refl _, fun k hk hr => Below.heap_setCell w3 ⟨ob, 2, none⟩ _ k (fun q => hr (congrArg some q))⟩ (.inr (own_ne_t ho hb3 (by decide)))
end
/-- Is the number at k that of a slow drift? -/
def slowAt (ts : List Tok) (ps : List (List UInt8)) (k : Nat) : Bool :=
  match k with
  | 0 => false
  | j + 1 => decide (ps[j]? = some [100]) && (ts[j]?.map (·.text.data.toList)) == some bSlow
theorem slow_next {ts : List Tok} {ps : List (List UInt8)} {k : Nat} (hk : k < ps.length) (ht : k < ts.length) : slowAt ts ps (k + 1) = (decide (ps[k] = [100]) && ts[k].text.data.toList == bSlow) := by
  show (decide (ps[k]? = some [100]) && (ts[k]?.map (·.text.data.toList)) == some bSlow) = _
  rw [List.getElem?_eq_getElem hk, List.getElem?_eq_getElem ht]
  simp
theorem ns_step {ts : List Tok} {ps : List (List UInt8)} {k : Nat} {neg : Bool} (hk : k < ps.length) (ht : k < ts.length) :
    nsB neg (ts.drop k) (ps.drop k) = if ps[k] = [35] then (if neg then -(ts[k].n : Int) else (ts[k].n : Int)) :: nsB false (ts.drop (k + 1)) (ps.drop (k + 1)) else nsB (slowAt ts ps (k + 1)) (ts.drop (k + 1)) (ps.drop (k + 1)) := by
  rw [List.drop_eq_getElem_cons ht, List.drop_eq_getElem_cons hk]
  simp only [nsB]
  rw [slow_next hk ht]
theorem nm_step {ts : List Tok} {ps : List (List UInt8)} {k : Nat} {nm : ByteArray} (hk : k < ps.length) (ht : k < ts.length) :
    nmB nm (ts.drop k) (ps.drop k) = nmB (if ps[k] = [110] then ts[k].text else nm) (ts.drop (k + 1)) (ps.drop (k + 1)) := by
  rw [List.drop_eq_getElem_cons ht, List.drop_eq_getElem_cons hk]
  rfl
/-- What a command that is built comes to. -/
def BuiltOut (w : World) (kd : Int) (nm : ByteArray) (ns : List Int) (pos : Int) (e : Ending) (w' : World) : Prop :=
  ∃ A c, e = .returned (.agg #[.int .i64 kd, .string nm, .slice A ns.length c, .int .i64 pos]) ∧ w'.ownsRow w.heap.size 3 1 (.slice A ns.length c) ns.length (ns.map iv) ∧ Below w.heap.size w w'
set_option maxRecDepth 100000 in
set_option maxHeartbeats 4000000 in
theorem built_val (kd : Int) (A : Option Addr) (n c : Nat) (ts : List Tok) (a : Nat) (B : Option Addr) (m d B0 : Nat) (ps : List (List UInt8)) (w : World) (hT : Toks w A n c ts) (hS : Strs B0 w B m d ps) (hw : ∀ t ∈ ts, WfP t) (hn : n ≤ 2000) (hm : m ≤ 100)
    (hfit : a + m ≤ n) (h0 : a < n) :
    Calls Tryz.prog 42 #[.int .i64 kd, .slice A n c, .int .i64 (a : Nat), .slice B m d] w (BuiltOut w kd (nmB ⟨#[]⟩ (ts.drop a) ps) (nsB false (ts.drop a) ps) (posB (ts.drop a).head? 0 : Nat)) := by
  obtain ⟨i0, hi, hz0, hz1, hz2⟩ := info_parts info_int
  have HT := Lib.hid hT
  have HS := Lib.hid hS
  have HN := Lib.hid hT.2.1
  have HM := Lib.hid hS.2
  have HW := Lib.hid hw
  obtain ⟨P0, hp0⟩ : ∃ p, (posB (ts.drop a).head? 0 : Nat) = p := ⟨_, rfl⟩
  have hkt0 : a < ts.length := by rw [hT.2.1]; exact h0
  have hposa : ts[a].pos = P0 := by rw [← hp0, List.head?_drop, List.getElem?_eq_getElem hkt0]; rfl
  obtain ⟨b, off, rfl, hb, hc⟩ := rd_el (dec := decT) (s := 4) (fun _ => rfl) hT.1 hT.2.1 hkt0
  have c3 : w.cell? ⟨b, off + a * 4 + 3, none⟩ = some (.int .i64 (P0 : Nat)) := by rw [← hposa]; exact hc 3 _ rfl
  obtain ⟨NM, hNM⟩ : ∃ x, nmB ⟨#[]⟩ (ts.drop a) ps = x := ⟨_, rfl⟩
  obtain ⟨NS, hNS⟩ : ∃ x, nsB false (ts.drop a) ps = x := ⟨_, rfl⟩
  have hU1 : nmB ⟨#[]⟩ ((ts.drop a).drop 0) (ps.drop 0) = NM := hNM
  have hU2 : NS = [] ++ nsB (slowAt (ts.drop a) ps 0) ((ts.drop a).drop 0) (ps.drop 0) := hNS.symm
  rw [hp0, hNM, hNS]
  have HU1 := Lib.hid hU1
  have HU2 := Lib.hid hU2
  have c3' : (w.alloc (.cells #[.int .i64 0, .string ⟨#[]⟩, .slice none 0 0, .int .i64 0] 34)).cell? ⟨b, off + a * 4 + 3, none⟩ = some (.int .i64 (P0 : Nat)) := (((Below.refl _ w).alloc (Nat.le_refl _) _).cell (Lx.cell_lt c3)).trans c3
  have hb0 : BSt w (w.heap.size + 1) kd P0 ⟨#[]⟩ (.slice none 0 0) [] ((w.alloc (.cells #[.int .i64 0, .string ⟨#[]⟩, .slice none 0 0, .int .i64 0] 34)).alloc (.cells #[.int .i64 kd, .string ⟨#[]⟩, .slice none 0 0, .int .i64 (P0 : Nat)] 34)) := by
    refine ⟨(((Below.refl _ w).alloc (Nat.le_refl _) _).alloc (by simp) _), (Blk.new w _ _).alloc _, ?_, World.ownsRow_nil _ _ _ _, Nat.lt_succ_self _⟩
    have := Blk.new (w.alloc (.cells #[.int .i64 0, .string ⟨#[]⟩, .slice none 0 0, .int .i64 0] 34)) 34 #[.int .i64 kd, .string ⟨#[]⟩, .slice none 0 0, .int .i64 (P0 : Nat)]
    rwa [World.size_alloc] at this
  have HB0 := Lib.hid hb0
  clear hT hS hw hp0 hposa hb hc hNM hNS hU1 hU2 hkt0 c3 hb0
  go_enter Tryz.func42, Tryz.ntmps42
  go_wp2_with fail
  -- LOOP
  obtain ⟨W0, hW0⟩ : ∃ W, (w.alloc (.cells #[.int .i64 0, .string ⟨#[]⟩, .slice none 0 0, .int .i64 0] 34)).alloc (.cells #[.int .i64 kd, .string ⟨#[]⟩, .slice none 0 0, .int .i64 (P0 : Nat)] 34) = W := ⟨_, rfl⟩
  rw [hW0] at HB0 ⊢
  clear hW0
  go_loopw [10] (fun i wr => ∃ (k : Nat) (nm : ByteArray) (NV : Value) (ns : List Int), k ≤ m ∧ i = i64 (k : Nat) ∧ Hid (BSt w (w.heap.size + 1) kd P0 nm NV ns wr) ∧ Hid (nmB nm ((ts.drop a).drop k) (ps.drop k) = NM) ∧ Hid (NS = ns ++ nsB (slowAt (ts.drop a) ps k) ((ts.drop a).drop k) (ps.drop k)) ∧ Hid (ns.length ≤ k)) (fun i _ => m - (intOf i).toNat)
  case atStart => exact ⟨0, ⟨#[]⟩, _, [], Nat.zero_le _, rfl, HB0, HU1, HU2, Lib.hid (Nat.le_refl _)⟩
  case round =>
    obtain ⟨k, nm, NV, ns, hk, rfl, HB, HV1, HV2, HL⟩ := hrel
    obtain ⟨NA, NC, rfl, _⟩ := own_form HB.out.own
    by_cases h1 : k < m
    · have h1' : (k : Int) < (m : Int) := by omega
      have hkp : k < ps.length := by rw [HM.out]; exact h1
      have hkt : a + k < ts.length := by rw [HN.out]; omega
      have hkd : k < (ts.drop a).length := by rw [List.length_drop]; omega
      have hel : (ts.drop a)[k] = ts[a + k] := by rw [List.getElem_drop]
      have hww : wrap64 ((a : Int) + (k : Int)) = (a : Int) + (k : Int) := Go.IntWalk.wrap64_in _ (by omega)
      have hTr := HT.out.up HB.out.bel
      have hrd := rd_el (dec := decT) (s := 4) (fun _ => rfl) hTr.1 HN.out hkt
      obtain ⟨b', off', he', hb, hc⟩ := hrd
      injection he' with he'
      injection he' with e1 e2
      subst e1 e2
      have hSr := own_keep HS.out.1 HB.out.bel
      obtain ⟨SA, sc, hSv, hSg⟩ := own_form hSr
      injection hSv with hS1 _ hS2
      subst hS1 hS2
      obtain ⟨sg, rfl⟩ := hSg (by omega)
      have kc : wr.cell? ⟨sg, k, none⟩ = some (strV ps[k]) := by
        have := hSr.cellAt k (by omega)
        rw [this, List.getElem?_map, List.getElem?_eq_getElem hkp]; rfl
      have hwt := HW.out ts[a + k] (List.getElem_mem hkt)
      have hv1 := HV1.out
      have hv2 := HV2.out
      rw [nm_step hkp hkd, hel] at hv1
      rw [ns_step hkp hkd, hel] at hv2
      have hprev : ∀ j, k = j + 1 → ∃ p' t', ps[j]? = some p' ∧ ts[a + j]? = some t' ∧ wr.cell? ⟨sg, j, none⟩ = some (strV p') ∧ wr.cell? ⟨b, off + (a + j) * 4 + 1, none⟩ = some (.string t'.text) ∧ slowAt (ts.drop a) ps k = (decide (p' = [100]) && t'.text.data.toList == bSlow) := by
        intro j hj
        have hjp : j < ps.length := by omega
        have hjt : a + j < ts.length := by omega
        have hjd : j < (ts.drop a).length := by rw [List.length_drop]; omega
        obtain ⟨b2, off2, hf2, _, hc2⟩ := rd_el (dec := decT) (s := 4) (fun _ => rfl) hTr.1 HN.out hjt
        injection hf2 with hf2
        injection hf2 with f1 f2
        subst f1 f2
        refine ⟨ps[j], ts[a + j], List.getElem?_eq_getElem hjp, List.getElem?_eq_getElem hjt, ?_, hc2 1 _ rfl, ?_⟩
        · have := hSr.cellAt j (by omega)
          rw [this, List.getElem?_map, List.getElem?_eq_getElem hjp]; rfl
        · rw [hj, slow_next hjp hjd, List.getElem_drop]
      obtain ⟨⟨tk, tx, tn, tp⟩, hx⟩ : ∃ x, ts[a + k] = x := ⟨_, rfl⟩
      rw [hx] at hc hv1 hv2 hwt
      have htn : tn ≤ 1000000000 := hwt.1.n
      obtain ⟨p, hp⟩ : ∃ p, ps[k] = p := ⟨_, rfl⟩
      have hpk : ps[k]? = some p := by rw [List.getElem?_eq_getElem hkp, hp]
      rw [hp] at kc hv1 hv2
      have c0 := hc 0 _ rfl
      have c1 := hc 1 _ rfl
      have c2 := hc 2 _ rfl
      have c3 := hc 3 _ rfl
      rw [Nat.add_zero] at c0
      dsimp only at c0 c1 c2 c3 hv1 hv2
      unfold strV at kc
      obtain ⟨S, hS⟩ : ∃ S : ByteArray, (⟨p.toArray⟩ : ByteArray) = S := ⟨_, rfl⟩
      have hSl : S.toList = p := by rw [← hS, Lib.toList_data]
      rw [hS] at kc
      have cup : ∀ {q : Addr} {u : Value} {W : World}, wr.cell? q = some u → Below wr.heap.size wr W → W.cell? q = some u := fun hc hb => (hb.cell (Lx.cell_lt hc)).trans hc
      have HA5 : Below wr.heap.size wr (wr.alloc (.cells #[.int .i64 (tk : Nat), .string tx, .int .i64 (tn : Nat), .int .i64 (tp : Nat)] 49)) := (Below.refl _ _).alloc (Nat.le_refl _) _
      have BT := Lib.hid (Blk.new wr 49 #[.int .i64 (tk : Nat), .string tx, .int .i64 (tn : Nat), .int .i64 (tp : Nat)])
      have HB5 := Lib.hid (HB.out.up HA5)
      have kc5 := cup kc HA5
      have HP5 : Hid (∀ j, k = j + 1 → ∃ p' t', ps[j]? = some p' ∧ ts[a + j]? = some t' ∧ (wr.alloc (.cells #[.int .i64 (tk : Nat), .string tx, .int .i64 (tn : Nat), .int .i64 (tp : Nat)] 49)).cell? ⟨sg, j, none⟩ = some (strV p') ∧ (wr.alloc (.cells #[.int .i64 (tk : Nat), .string tx, .int .i64 (tn : Nat), .int .i64 (tp : Nat)] 49)).cell? ⟨b, off + (a + j) * 4 + 1, none⟩ = some (.string t'.text) ∧ slowAt (ts.drop a) ps k = (decide (p' = [100]) && t'.text.data.toList == bSlow)) := Lib.hid (fun j hj => by
        obtain ⟨p', t', g1, g2, g3, g4, g5⟩ := hprev j hj
        exact ⟨p', t', g1, g2, cup g3 HA5, cup g4 HA5, g5⟩)
      clear hprev HA5 cup hTr hSr hb hc hx hp hwt hel hkd hkp hkt kc HB
      have t0 : (wr.alloc (.cells #[.int .i64 (tk : Nat), .string tx, .int .i64 (tn : Nat), .int .i64 (tp : Nat)] 49)).cell? ⟨wr.heap.size, 0, none⟩ = some (i64 (tk : Nat)) := BT.out.cell 0
      have t1 : (wr.alloc (.cells #[.int .i64 (tk : Nat), .string tx, .int .i64 (tn : Nat), .int .i64 (tp : Nat)] 49)).cell? ⟨wr.heap.size, 1, none⟩ = some (.string tx) := BT.out.cell 1
      have t2 : (wr.alloc (.cells #[.int .i64 (tk : Nat), .string tx, .int .i64 (tn : Nat), .int .i64 (tp : Nat)] 49)).cell? ⟨wr.heap.size, 2, none⟩ = some (i64 (tn : Nat)) := BT.out.cell 2
      have o2 : (wr.alloc (.cells #[.int .i64 (tk : Nat), .string tx, .int .i64 (tn : Nat), .int .i64 (tp : Nat)] 49)).cell? ⟨w.heap.size + 1, 2, none⟩ = some (.slice NA ns.length NC) := HB5.out.blk.cell 2
      have z1 : (wr.alloc (.cells #[.int .i64 (tk : Nat), .string tx, .int .i64 (tn : Nat), .int .i64 (tp : Nat)] 49)).frozen? ⟨w.heap.size + 1, 1, none⟩ = false := HB5.out.blk.frozen 1
      have z2 : (wr.alloc (.cells #[.int .i64 (tk : Nat), .string tx, .int .i64 (tn : Nat), .int .i64 (tp : Nat)] 49)).frozen? ⟨w.heap.size + 1, 2, none⟩ = false := HB5.out.blk.frozen 2
      have hL := HL.out
      have hnl : ns.length ≤ 100 := by omega
      have HV1' := Lib.hid hv1
      have HV2' := Lib.hid hv2
      have HKC : Hid (∀ W, Below w.heap.size w W → W.cell? ⟨sg, k, none⟩ = some (.string S)) := Lib.hid (fun W hb => by
        have := (own_keep HS.out.1 hb).cellAt k (by omega)
        rw [this, List.getElem?_map, hpk, ← hS]; rfl)
      have hpk2 : Hid (ps[k]? = some p) := Lib.hid hpk
      have h63 : ns.length + 1 ≤ maxLen := by simp only [maxLen]; omega
      have hby : (ns.length + 1) * 8 ≤ 140737488355328 := by omega
      clear hv1 hv2 HV1 HV2 hL hS hpk
      by_cases q110 : p = [110]
      · have g110 : (S.toList == [110]) = true := by rw [hSl, q110]; rfl
        have g35 : (S.toList == [35]) = false := by rw [hSl, q110]; rfl
        have HB6 := Lib.hid (HB5.out.name tx)
        have kn := HKC.out _ HB6.out.bel
        have o1 : (wr.alloc (.cells #[.int .i64 (tk : Nat), .string tx, .int .i64 (tn : Nat), .int .i64 (tp : Nat)] 49)).cell? ⟨w.heap.size + 1, 1, none⟩ = some (.string nm) := HB5.out.blk.cell 1
        clear hSl
        go_wp2_with fail
        refine ⟨⟨k + 1, tx, _, ns, by omega, rfl, HB6, Lib.hid ?_, Lib.hid ?_, Lib.hid ?_⟩, ?_⟩
        · rw [← HV1'.out, if_pos q110]
        · rw [HV2'.out, if_neg (by rw [q110]; decide)]
        · have := HL.out; omega
        · simp only [intOf]; omega
      · have g110 : (S.toList == [110]) = false := by rw [hSl]; exact beq_eq_false_iff_ne.2 q110
        by_cases q35 : p = [35]
        · have g35 : (S.toList == [35]) = true := by rw [hSl, q35]; rfl
          have slow_no : Hid (slowAt (ts.drop a) ps (k + 1) = false) := Lib.hid (by
            show (decide (ps[k]? = some [100]) && _) = false
            rw [hpk2.out, q35]
            rfl)
          have hneg : wrap64 (-(tn : Int)) = -(tn : Int) := Go.IntWalk.wrap64_in _ (by omega)
          clear hSl
          by_cases k0 : k = 0
          · have k0' : ¬ (0 : Int) < (k : Int) := by omega
            have HSL : Hid (slowAt (ts.drop a) ps k = false) := Lib.hid (by rw [k0]; rfl)
            have HSL : Hid ((if slowAt (ts.drop a) ps k = true then -(tn : Int) else (tn : Int)) = (tn : Int)) := Lib.hid (by rw [HSL.out]; rfl)
            clear k0
            have HX : Hid (BSt w (w.heap.size + 1) kd P0 nm (.slice NA ns.length NC) ns ((wr.alloc (.cells #[.int .i64 (tk : Nat), .string tx, .int .i64 (tn : Nat), .int .i64 (tp : Nat)] 49)).alloc (.cells #[.int .i64 (tn : Nat)] 3))) := Lib.hid (HB5.out.up ((Below.refl _ _).alloc (Nat.le_refl _) _))
            have hr6 := rd_fresh (wr.alloc (.cells #[.int .i64 (tk : Nat), .string tx, .int .i64 (tn : Nat), .int .i64 (tp : Nat)] 49)) 3 #[.int .i64 (tn : Nat)] 1 1 [iv (tn : Nat)] rfl rfl
            rw [World.size_alloc] at hr6
            have HR6 := Lib.hid hr6
            have HON : Hid (∀ u ∈ [iv (tn : Nat)], u.oneCell' = true) := Lib.hid (fun u hu => by rw [List.mem_singleton.1 hu]; rfl)
            clear hr6
            go_wp2_with (at_builtin; refine wpList_append_rd _ rfl (.tmp 81) (.tmp 84) _ rfl w.heap.size 3 i0 _ 1 8 Tryz.underlying32 hi hz0 hz1 hz2 rfl (by decide) _ ns.length _ rfl HX.out.own _ (some ⟨wr.heap.size + 1, 0, none⟩) 1 1 _ rfl HR6.out HON.out h63 hby HX.out.bel.size ?_; intro A6 c6 w6 hown hfm hgr; have HB6 := Lib.hid (HX.out.more hgr hown); have y2 : w6.cell? ⟨w.heap.size + 1, 2, none⟩ = some (.slice NA ns.length NC) := (HX.out.grown hgr).cell 2; have y3 : w6.frozen? ⟨w.heap.size + 1, 2, none⟩ = false := (HX.out.grown hgr).frozen 2; clear hown hfm hgr)
            refine ⟨⟨k + 1, nm, _, ns ++ [(tn : Int)], by omega, rfl, HB6, Lib.hid ?_, Lib.hid ?_, Lib.hid ?_⟩, ?_⟩
            · rw [← HV1'.out, if_neg q110]
            · rw [HV2'.out, if_pos q35, HSL.out, List.append_assoc]
              rw [slow_no.out]; rfl
            · have := HL.out
              rw [List.length_append, List.length_singleton]; omega
            · simp only [intOf]; omega
  
          · have k0' : (0 : Int) < (k : Int) := by omega
            obtain ⟨j, hj⟩ : ∃ j, k = j + 1 := ⟨k - 1, by omega⟩
            obtain ⟨p', t', g1, g2, g3, g4, g5⟩ := HP5.out j hj
            have hk1 : wrap64 ((k : Int) - 1) = (k : Int) - 1 := Go.IntWalk.wrap64_in _ (by omega)
            have hk2 : wrap64 ((a : Int) + (k : Int) - 1) = (a : Int) + (k : Int) - 1 := Go.IntWalk.wrap64_in _ (by omega)
            have hjm : (k : Int) - 1 < (m : Int) := by omega
            have haj : (a : Int) + (k : Int) - 1 < (n : Int) := by omega
            have hjm0 : (0 : Int) ≤ (k : Int) - 1 := by omega
            have haj0 : (0 : Int) ≤ (a : Int) + (k : Int) - 1 := by omega
            rw [show j = k - 1 by omega] at g3 g4
            rw [show a + (k - 1) = a + k - 1 by omega] at g4
            unfold strV at g3
            obtain ⟨S', hS'⟩ : ∃ S' : ByteArray, (⟨p'.toArray⟩ : ByteArray) = S' := ⟨_, rfl⟩
            have hSl' : S'.toList = p' := by rw [← hS', Lib.toList_data]
            rw [hS'] at g3
            clear k0 hS' g1 g2
            have HJ := Lib.hid hj
            clear hj
            by_cases q100 : p' = [100]
            · have g100 : (S'.toList == [100]) = true := by rw [hSl', q100]; rfl
              obtain ⟨vs, hvs⟩ : ∃ v, (t'.text.data.toList == bSlow) = v := ⟨_, rfl⟩
              obtain ⟨X', hX'⟩ : ∃ X', t'.text = X' := ⟨_, rfl⟩
              rw [hX'] at g4 hvs
              have gs : (X'.toList == [115, 108, 111, 119]) = vs := by rw [Lib.toList_data]; exact hvs
              rw [hX', hvs, decide_eq_true q100, Bool.true_and] at g5
              have HG5 := Lib.hid g5
              clear hSl' g5 hX' hvs q100
              cases vs with
              | true =>
                have HSL : Hid ((if slowAt (ts.drop a) ps k = true then -(tn : Int) else (tn : Int)) = -(tn : Int)) := Lib.hid (by rw [HG5.out]; rfl)
                have HX : Hid (BSt w (w.heap.size + 1) kd P0 nm (.slice NA ns.length NC) ns ((wr.alloc (.cells #[.int .i64 (tk : Nat), .string tx, .int .i64 (tn : Nat), .int .i64 (tp : Nat)] 49)).alloc (.cells #[.int .i64 (-(tn : Nat))] 3))) := Lib.hid (HB5.out.up ((Below.refl _ _).alloc (Nat.le_refl _) _))
                have hr6 := rd_fresh (wr.alloc (.cells #[.int .i64 (tk : Nat), .string tx, .int .i64 (tn : Nat), .int .i64 (tp : Nat)] 49)) 3 #[.int .i64 (-(tn : Nat))] 1 1 [iv (-(tn : Nat))] rfl rfl
                rw [World.size_alloc] at hr6
                have HR6 := Lib.hid hr6
                have HON : Hid (∀ u ∈ [iv (-(tn : Nat))], u.oneCell' = true) := Lib.hid (fun u hu => by rw [List.mem_singleton.1 hu]; rfl)
                clear hr6
                go_wp2_with (at_builtin; refine wpList_append_rd _ rfl (.tmp 68) (.tmp 72) _ rfl w.heap.size 3 i0 _ 1 8 Tryz.underlying32 hi hz0 hz1 hz2 rfl (by decide) _ ns.length _ rfl HX.out.own _ (some ⟨wr.heap.size + 1, 0, none⟩) 1 1 _ rfl HR6.out HON.out h63 hby HX.out.bel.size ?_; intro A6 c6 w6 hown hfm hgr; have HB6 := Lib.hid (HX.out.more hgr hown); have y2 : w6.cell? ⟨w.heap.size + 1, 2, none⟩ = some (.slice NA ns.length NC) := (HX.out.grown hgr).cell 2; have y3 : w6.frozen? ⟨w.heap.size + 1, 2, none⟩ = false := (HX.out.grown hgr).frozen 2; clear hown hfm hgr)
                refine ⟨⟨k + 1, nm, _, ns ++ [-(tn : Int)], by omega, rfl, HB6, Lib.hid ?_, Lib.hid ?_, Lib.hid ?_⟩, ?_⟩
                · rw [← HV1'.out, if_neg q110]
                · rw [HV2'.out, if_pos q35, HSL.out, List.append_assoc]
                  rw [slow_no.out]; rfl
                · have := HL.out
                  rw [List.length_append, List.length_singleton]; omega
                · simp only [intOf]; omega
  
              | false =>
                have HSL : Hid ((if slowAt (ts.drop a) ps k = true then -(tn : Int) else (tn : Int)) = (tn : Int)) := Lib.hid (by rw [HG5.out]; rfl)
                have HX : Hid (BSt w (w.heap.size + 1) kd P0 nm (.slice NA ns.length NC) ns ((wr.alloc (.cells #[.int .i64 (tk : Nat), .string tx, .int .i64 (tn : Nat), .int .i64 (tp : Nat)] 49)).alloc (.cells #[.int .i64 (tn : Nat)] 3))) := Lib.hid (HB5.out.up ((Below.refl _ _).alloc (Nat.le_refl _) _))
                have hr6 := rd_fresh (wr.alloc (.cells #[.int .i64 (tk : Nat), .string tx, .int .i64 (tn : Nat), .int .i64 (tp : Nat)] 49)) 3 #[.int .i64 (tn : Nat)] 1 1 [iv (tn : Nat)] rfl rfl
                rw [World.size_alloc] at hr6
                have HR6 := Lib.hid hr6
                have HON : Hid (∀ u ∈ [iv (tn : Nat)], u.oneCell' = true) := Lib.hid (fun u hu => by rw [List.mem_singleton.1 hu]; rfl)
                clear hr6
                go_wp2_with (at_builtin; refine wpList_append_rd _ rfl (.tmp 81) (.tmp 84) _ rfl w.heap.size 3 i0 _ 1 8 Tryz.underlying32 hi hz0 hz1 hz2 rfl (by decide) _ ns.length _ rfl HX.out.own _ (some ⟨wr.heap.size + 1, 0, none⟩) 1 1 _ rfl HR6.out HON.out h63 hby HX.out.bel.size ?_; intro A6 c6 w6 hown hfm hgr; have HB6 := Lib.hid (HX.out.more hgr hown); have y2 : w6.cell? ⟨w.heap.size + 1, 2, none⟩ = some (.slice NA ns.length NC) := (HX.out.grown hgr).cell 2; have y3 : w6.frozen? ⟨w.heap.size + 1, 2, none⟩ = false := (HX.out.grown hgr).frozen 2; clear hown hfm hgr)
                refine ⟨⟨k + 1, nm, _, ns ++ [(tn : Int)], by omega, rfl, HB6, Lib.hid ?_, Lib.hid ?_, Lib.hid ?_⟩, ?_⟩
                · rw [← HV1'.out, if_neg q110]
                · rw [HV2'.out, if_pos q35, HSL.out, List.append_assoc]
                  rw [slow_no.out]; rfl
                · have := HL.out
                  rw [List.length_append, List.length_singleton]; omega
                · simp only [intOf]; omega
  
            · have g100 : (S'.toList == [100]) = false := by rw [hSl']; exact beq_eq_false_iff_ne.2 q100
              rw [decide_eq_false q100, Bool.false_and] at g5
              have HG5 := Lib.hid g5
              have HSL : Hid ((if slowAt (ts.drop a) ps k = true then -(tn : Int) else (tn : Int)) = (tn : Int)) := Lib.hid (by rw [HG5.out]; rfl)
              clear hSl' g5 q100 g4
              have HX : Hid (BSt w (w.heap.size + 1) kd P0 nm (.slice NA ns.length NC) ns ((wr.alloc (.cells #[.int .i64 (tk : Nat), .string tx, .int .i64 (tn : Nat), .int .i64 (tp : Nat)] 49)).alloc (.cells #[.int .i64 (tn : Nat)] 3))) := Lib.hid (HB5.out.up ((Below.refl _ _).alloc (Nat.le_refl _) _))
              have hr6 := rd_fresh (wr.alloc (.cells #[.int .i64 (tk : Nat), .string tx, .int .i64 (tn : Nat), .int .i64 (tp : Nat)] 49)) 3 #[.int .i64 (tn : Nat)] 1 1 [iv (tn : Nat)] rfl rfl
              rw [World.size_alloc] at hr6
              have HR6 := Lib.hid hr6
              have HON : Hid (∀ u ∈ [iv (tn : Nat)], u.oneCell' = true) := Lib.hid (fun u hu => by rw [List.mem_singleton.1 hu]; rfl)
              clear hr6
              go_wp2_with (at_builtin; refine wpList_append_rd _ rfl (.tmp 81) (.tmp 84) _ rfl w.heap.size 3 i0 _ 1 8 Tryz.underlying32 hi hz0 hz1 hz2 rfl (by decide) _ ns.length _ rfl HX.out.own _ (some ⟨wr.heap.size + 1, 0, none⟩) 1 1 _ rfl HR6.out HON.out h63 hby HX.out.bel.size ?_; intro A6 c6 w6 hown hfm hgr; have HB6 := Lib.hid (HX.out.more hgr hown); have y2 : w6.cell? ⟨w.heap.size + 1, 2, none⟩ = some (.slice NA ns.length NC) := (HX.out.grown hgr).cell 2; have y3 : w6.frozen? ⟨w.heap.size + 1, 2, none⟩ = false := (HX.out.grown hgr).frozen 2; clear hown hfm hgr)
              refine ⟨⟨k + 1, nm, _, ns ++ [(tn : Int)], by omega, rfl, HB6, Lib.hid ?_, Lib.hid ?_, Lib.hid ?_⟩, ?_⟩
              · rw [← HV1'.out, if_neg q110]
              · rw [HV2'.out, if_pos q35, HSL.out, List.append_assoc]
                rw [slow_no.out]; rfl
              · have := HL.out
                rw [List.length_append, List.length_singleton]; omega
              · simp only [intOf]; omega
  
        · have g35 : (S.toList == [35]) = false := by rw [hSl]; exact beq_eq_false_iff_ne.2 q35
          clear hSl
          go_wp2_with fail
          refine ⟨⟨k + 1, nm, _, ns, by omega, rfl, HB5, Lib.hid ?_, Lib.hid ?_, Lib.hid ?_⟩, ?_⟩
          · rw [← HV1'.out, if_neg q110]
          · rw [HV2'.out, if_neg q35]
          · have := HL.out; omega
          · simp only [intOf]; omega
    · have h1' : ¬ (k : Int) < (m : Int) := by omega
      obtain rfl : k = m := by omega
      have hv1 := HV1.out
      have hv2 := HV2.out
      rw [show ps.drop k = [] from List.drop_of_length_le (by rw [HM.out]; exact Nat.le_refl _)] at hv1 hv2
      have hn1 : ∀ ts : List Tok, nmB nm ts [] = nm := fun ts => by cases ts <;> rfl
      have hn2 : ∀ (b : Bool) (ts : List Tok), nsB b ts [] = [] := fun b ts => by cases ts <;> rfl
      rw [hn1] at hv1
      rw [hn2, List.append_nil] at hv2
      subst hv1 hv2
      have r0 : wr.cell? ⟨w.heap.size + 1, 0, none⟩ = some (.int .i64 kd) := HB.out.blk.cell 0
      have r1 : wr.cell? ⟨w.heap.size + 1, 1, none⟩ = some (.string nm) := HB.out.blk.cell 1
      have r2 : wr.cell? ⟨w.heap.size + 1, 2, none⟩ = some (.slice NA NS.length NC) := HB.out.blk.cell 2
      have r3 : wr.cell? ⟨w.heap.size + 1, 3, none⟩ = some (.int .i64 (P0 : Nat)) := HB.out.blk.cell 3
      have s0 : wr.cell? ⟨w.heap.size, 0, none⟩ = some (.int .i64 0) := HB.out.res.cell 0
      have s1 : wr.cell? ⟨w.heap.size, 1, none⟩ = some (.string ⟨#[]⟩) := HB.out.res.cell 1
      have s2 : wr.cell? ⟨w.heap.size, 2, none⟩ = some (.slice none 0 0) := HB.out.res.cell 2
      have s3 : wr.cell? ⟨w.heap.size, 3, none⟩ = some (.int .i64 0) := HB.out.res.cell 3
      have y0 := HB.out.res.frozen 0
      have y1 := HB.out.res.frozen 1
      have y2 := HB.out.res.frozen 2
      have y3 := HB.out.res.frozen 3
      clear HV1 HV2 hn1 hn2
      have hne : (Value.slice NA NS.length NC).ownBlock ≠ some w.heap.size := own_ne_t HB.out.own HB.out.res (by decide)
      have kept : ∀ (W : World) (i : Nat) (u : Value), W.ownsRow w.heap.size 3 1 (.slice NA NS.length NC) NS.length (NS.map iv) → (W.setCell ⟨w.heap.size, i, none⟩ u).ownsRow w.heap.size 3 1 (.slice NA NS.length NC) NS.length (NS.map iv) := fun W i u h =>
        h.kept (row := some w.heap.size) ⟨rfl, rfl, rfl, by rw [World.size_setCell]; exact Nat.le_refl _, fun k hk hr => Below.heap_setCell W ⟨w.heap.size, i, none⟩ u k (fun q => hr (congrArg some q))⟩ (.inr hne)
      have hb9 := (((HB.out.res.set_ 0 (.int .i64 kd)).set_ 1 (.string nm)).set_ 2 (.slice NA NS.length NC)).set_ 3 (.int .i64 (P0 : Nat))
      have ho9 := kept _ 3 (.int .i64 (P0 : Nat)) (kept _ 2 (.slice NA NS.length NC) (kept _ 1 (.string nm) (kept _ 0 (.int .i64 kd) HB.out.own)))
      have he9 : Below w.heap.size w ((((wr.setCell ⟨w.heap.size, 0, none⟩ (.int .i64 kd)).setCell ⟨w.heap.size, 1, none⟩ (.string nm)).setCell ⟨w.heap.size, 2, none⟩ (.slice NA NS.length NC)).setCell ⟨w.heap.size, 3, none⟩ (.int .i64 (P0 : Nat))) := (((HB.out.bel.setCell (p := ⟨w.heap.size, 0, none⟩) (Nat.le_refl _) _).setCell (p := ⟨w.heap.size, 1, none⟩) (Nat.le_refl _) _).setCell (p := ⟨w.heap.size, 2, none⟩) (Nat.le_refl _) _).setCell (p := ⟨w.heap.size, 3, none⟩) (Nat.le_refl _) _
      have HB9 := Lib.hid hb9
      have HO9 := Lib.hid ho9
      have HE9 := Lib.hid he9
      clear hne kept hb9 ho9 he9
      go_wp2_with fail
      obtain ⟨w9, hw9⟩ : ∃ w9, ((((wr.setCell ⟨w.heap.size, 0, none⟩ (.int .i64 kd)).setCell ⟨w.heap.size, 1, none⟩ (.string nm)).setCell ⟨w.heap.size, 2, none⟩ (.slice NA NS.length NC)).setCell ⟨w.heap.size, 3, none⟩ (.int .i64 (P0 : Nat))) = w9 := ⟨_, rfl⟩
      rw [hw9] at HB9 HO9 HE9 ⊢
      have v0 := HB9.out.cell 0
      have v1 := HB9.out.cell 1
      have v2 := HB9.out.cell 2
      have v3 := HB9.out.cell 3
      simp at v0 v1 v2 v3
      refine bodyPost_ret (v := .agg #[.int .i64 kd, .string nm, .slice NA NS.length NC, .int .i64 (P0 : Nat)]) ?_ rfl ⟨NA, NC, rfl, HO9.out, HE9.out⟩
      simp [results, Tryz.f42, go_sem, v0, v1, v2, v3]
  end Go.Proofs.YtjfcdfhcmkdicaaGreatDoor.Ps
