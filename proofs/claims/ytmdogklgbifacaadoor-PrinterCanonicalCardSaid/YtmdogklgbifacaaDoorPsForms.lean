/- The closures of commands and of events walked. Printed by wip/mk_psforms.py. -/
import Derived.Test.YtmdogklgbifacaaDoorPsDrift
namespace Go.Proofs.YtmdogklgbifacaaDoor.Ps
open Go.RowKit Go.Proofs.YtmdogklgbifacaaDoor.Lx Go.Proofs.YtmdogklgbifacaaDoor.Pr
set_option linter.unusedVariables false

set_option maxRecDepth 100000 in
set_option maxHeartbeats 2000000 in
theorem c1_val {wP W : World} {rb e n c : Nat} {A : Option Addr} {ts : List Tok} {K : Int} {nm : ByteArray} {NV : Value} {ns : List Int} {at_ : Int} (hnl : ns.length ≤ 2) (hw : Wf ts) (h : RS wP rb e A n c ts K nm NV ns at_ W) :
    Calls Tryd.prog 74 #[.pointer (some ⟨rb, 0, none⟩)] W (Post wP rb e [[100, 97, 116, 97], [35], [114, 97, 110, 103, 101], [35]] ts K nm NV ns at_ W) := by
  have HR0 := Lib.hid h
  have HC0 : Hid (∀ e1 W2 p2, Post wP rb e p2 ts K nm NV ns at_ W e1 W2 → Post wP rb e ([] ++ p2) ts K nm NV ns at_ W e1 W2) := Lib.hid (fun _ _ _ q => q)
  clear h
  go_enter Tryd.func74, Tryd.ntmps74
  have BN0 := Lib.hid (Blk.new W 9 #[.string ⟨#[100, 97, 116, 97]⟩, .string ⟨#[114, 97, 110, 103, 101]⟩])
  have HB0 : Hid (Below W.heap.size W (W.alloc (.cells #[.string ⟨#[100, 97, 116, 97]⟩, .string ⟨#[114, 97, 110, 103, 101]⟩] 9))) := Lib.hid ((Below.refl _ _).alloc (Nat.le_refl _) _)
  have HQ0 := Lib.hid (pairs_val [[100, 97, 116, 97], [114, 97, 110, 103, 101]] (by decide) (by decide) (by omega) (hw.drop 0) BN0.out (HR0.out.up HB0.out))
  go_wp2_with fail
  refine HQ0.out.mono ?_
  intro e1 w1 hq
  have hp : Post wP rb e [[100, 97, 116, 97], [35], [114, 97, 110, 103, 101], [35]] ts K nm NV ns at_ W e1 w1 := hq.start (Gr.of_below HB0.out)
  rcases hp.cases (by decide) with ⟨rfl, hm1, A1, n1, c1, nm1, NV1, ns1, hr1, hn1, hg1, hc1⟩ | ⟨p, rfl, hf⟩
  · have HZ : Hid (Post wP rb e [[100, 97, 116, 97], [35], [114, 97, 110, 103, 101], [35]] ts K nm NV ns at_ W _ _) := Lib.hid (HC0.out _ _ _ hp)
    clear hm1 hr1 hn1 hg1 hc1 hp hq
    go_wp2_with fail
    go_end0
    exact HZ.out
  · exact ⟨rfl, HC0.out _ _ _ (hf [])⟩
set_option maxRecDepth 100000 in
set_option maxHeartbeats 2000000 in
theorem c2_val {wP W : World} {rb e n c : Nat} {A : Option Addr} {ts : List Tok} {K : Int} {nm : ByteArray} {NV : Value} {ns : List Int} {at_ : Int} (hnl : ns.length ≤ 2) (hw : Wf ts) (h : RS wP rb e A n c ts K nm NV ns at_ W) :
    Calls Tryd.prog 76 #[.pointer (some ⟨rb, 0, none⟩)] W (Post wP rb e [[110], [97, 116], [35], [35]] ts K nm NV ns at_ W) := by
  have HR0 := Lib.hid h
  have HC0 : Hid (∀ e1 W2 p2, Post wP rb e p2 ts K nm NV ns at_ W e1 W2 → Post wP rb e ([] ++ p2) ts K nm NV ns at_ W e1 W2) := Lib.hid (fun _ _ _ q => q)
  clear h
  go_enter Tryd.func76, Tryd.ntmps76
  have HQ0 := Lib.hid (name_val (hw.drop 0) HR0.out)
  go_wp2_with fail
  refine HQ0.out.mono ?_
  intro e1 w1 hq
  have hp : Post wP rb e [[110]] ts K nm NV ns at_ W e1 w1 := hq
  rcases hp.cases (by decide) with ⟨rfl, hm1, A1, n1, c1, nm1, NV1, ns1, hr1, hn1, hg1, hc1⟩ | ⟨p, rfl, hf⟩
  · have hnl1 : ns1.length ≤ 3 := by
      rw [hn1, List.length_append]
      have := nsB_len false ts [[110]]
      simp only [List.length_cons, List.length_nil] at this
      omega
    have HR1 : Hid (RS wP rb e A1 n1 c1 (ts.drop 1) K nm1 NV1 ns1 at_ w1) := Lib.hid (by have q := hr1; exact q)
    have HC1 : Hid (∀ e1 W2 p2, Post wP rb e p2 (ts.drop 1) K nm1 NV1 ns1 at_ w1 e1 W2 → Post wP rb e ([[110]] ++ p2) ts K nm NV ns at_ W e1 W2) := Lib.hid (fun e1 W2 p2 q => HC0.out _ _ _ (hc1 _ _ _ (by exact q)))
    clear hm1 hr1 hn1 hg1 hc1 hp hq
    have HQ1 := Lib.hid (word_val [97, 116] (by decide) (by decide) (by decide) (by decide) (hw.drop 1) HR1.out)
    go_wp2_with fail
    refine HQ1.out.mono ?_
    intro e2 w2 hq
    have hp : Post wP rb e [[97, 116]] (ts.drop 1) K nm1 NV1 ns1 at_ w1 e2 w2 := hq
    rcases hp.cases (by decide) with ⟨rfl, hm2, A2, n2, c2, nm2, NV2, ns2, hr2, hn2, hg2, hc2⟩ | ⟨p, rfl, hf⟩
    · have hnl2 : ns2.length ≤ 4 := by
        rw [hn2, List.length_append]
        have := nsB_len false (ts.drop 1) [[97, 116]]
        simp only [List.length_cons, List.length_nil] at this
        omega
      have HR2 : Hid (RS wP rb e A2 n2 c2 (ts.drop 2) K nm2 NV2 ns2 at_ w2) := Lib.hid (by have q := hr2; rw [List.drop_drop] at q; exact q)
      have HC2 : Hid (∀ e1 W2 p2, Post wP rb e p2 (ts.drop 2) K nm2 NV2 ns2 at_ w2 e1 W2 → Post wP rb e ([[110], [97, 116]] ++ p2) ts K nm NV ns at_ W e1 W2) := Lib.hid (fun e1 W2 p2 q => HC1.out _ _ _ (hc2 _ _ _ (by rw [List.drop_drop]; exact q)))
      clear hm2 hr2 hn2 hg2 hc2 hp hq
      have HQ2 := Lib.hid (nums_val 2 (by omega) (by omega) (hw.drop 2) HR2.out)
      go_wp2_with fail
      refine HQ2.out.mono ?_
      intro e3 w3 hq
      have hp : Post wP rb e [[35], [35]] (ts.drop 2) K nm2 NV2 ns2 at_ w2 e3 w3 := hq
      rcases hp.cases (by decide) with ⟨rfl, hm3, A3, n3, c3, nm3, NV3, ns3, hr3, hn3, hg3, hc3⟩ | ⟨p, rfl, hf⟩
      · have HZ : Hid (Post wP rb e [[110], [97, 116], [35], [35]] ts K nm NV ns at_ W _ _) := Lib.hid (HC2.out _ _ _ hp)
        clear hm3 hr3 hn3 hg3 hc3 hp hq
        go_wp2_with fail
        go_end0
        exact HZ.out
      · exact ⟨rfl, HC2.out _ _ _ (hf [])⟩
    · exact ⟨rfl, HC1.out _ _ _ (hf [[35], [35]])⟩
  · exact ⟨rfl, HC0.out _ _ _ (hf [[97, 116], [35], [35]])⟩
set_option maxRecDepth 100000 in
set_option maxHeartbeats 2000000 in
theorem c3_val {wP W : World} {rb e n c : Nat} {A : Option Addr} {ts : List Tok} {K : Int} {nm : ByteArray} {NV : Value} {ns : List Int} {at_ : Int} (hnl : ns.length ≤ 2) (hw : Wf ts) (h : RS wP rb e A n c ts K nm NV ns at_ W) :
    Calls Tryd.prog 78 #[.pointer (some ⟨rb, 0, none⟩)] W (Post wP rb e [[110], [97, 116], [35], [35], [100], [35], [98, 97, 116, 116, 101, 114, 121], [35]] ts K nm NV ns at_ W) := by
  have HR0 := Lib.hid h
  have HC0 : Hid (∀ e1 W2 p2, Post wP rb e p2 ts K nm NV ns at_ W e1 W2 → Post wP rb e ([] ++ p2) ts K nm NV ns at_ W e1 W2) := Lib.hid (fun _ _ _ q => q)
  clear h
  go_enter Tryd.func78, Tryd.ntmps78
  have HQ0 := Lib.hid (name_val (hw.drop 0) HR0.out)
  go_wp2_with fail
  refine HQ0.out.mono ?_
  intro e1 w1 hq
  have hp : Post wP rb e [[110]] ts K nm NV ns at_ W e1 w1 := hq
  rcases hp.cases (by decide) with ⟨rfl, hm1, A1, n1, c1, nm1, NV1, ns1, hr1, hn1, hg1, hc1⟩ | ⟨p, rfl, hf⟩
  · have hnl1 : ns1.length ≤ 3 := by
      rw [hn1, List.length_append]
      have := nsB_len false ts [[110]]
      simp only [List.length_cons, List.length_nil] at this
      omega
    have HR1 : Hid (RS wP rb e A1 n1 c1 (ts.drop 1) K nm1 NV1 ns1 at_ w1) := Lib.hid (by have q := hr1; exact q)
    have HC1 : Hid (∀ e1 W2 p2, Post wP rb e p2 (ts.drop 1) K nm1 NV1 ns1 at_ w1 e1 W2 → Post wP rb e ([[110]] ++ p2) ts K nm NV ns at_ W e1 W2) := Lib.hid (fun e1 W2 p2 q => HC0.out _ _ _ (hc1 _ _ _ (by exact q)))
    clear hm1 hr1 hn1 hg1 hc1 hp hq
    have HQ1 := Lib.hid (word_val [97, 116] (by decide) (by decide) (by decide) (by decide) (hw.drop 1) HR1.out)
    go_wp2_with fail
    refine HQ1.out.mono ?_
    intro e2 w2 hq
    have hp : Post wP rb e [[97, 116]] (ts.drop 1) K nm1 NV1 ns1 at_ w1 e2 w2 := hq
    rcases hp.cases (by decide) with ⟨rfl, hm2, A2, n2, c2, nm2, NV2, ns2, hr2, hn2, hg2, hc2⟩ | ⟨p, rfl, hf⟩
    · have hnl2 : ns2.length ≤ 4 := by
        rw [hn2, List.length_append]
        have := nsB_len false (ts.drop 1) [[97, 116]]
        simp only [List.length_cons, List.length_nil] at this
        omega
      have HR2 : Hid (RS wP rb e A2 n2 c2 (ts.drop 2) K nm2 NV2 ns2 at_ w2) := Lib.hid (by have q := hr2; rw [List.drop_drop] at q; exact q)
      have HC2 : Hid (∀ e1 W2 p2, Post wP rb e p2 (ts.drop 2) K nm2 NV2 ns2 at_ w2 e1 W2 → Post wP rb e ([[110], [97, 116]] ++ p2) ts K nm NV ns at_ W e1 W2) := Lib.hid (fun e1 W2 p2 q => HC1.out _ _ _ (hc2 _ _ _ (by rw [List.drop_drop]; exact q)))
      clear hm2 hr2 hn2 hg2 hc2 hp hq
      have HQ2 := Lib.hid (nums_val 2 (by omega) (by omega) (hw.drop 2) HR2.out)
      go_wp2_with fail
      refine HQ2.out.mono ?_
      intro e3 w3 hq
      have hp : Post wP rb e [[35], [35]] (ts.drop 2) K nm2 NV2 ns2 at_ w2 e3 w3 := hq
      rcases hp.cases (by decide) with ⟨rfl, hm3, A3, n3, c3, nm3, NV3, ns3, hr3, hn3, hg3, hc3⟩ | ⟨p, rfl, hf⟩
      · have hnl3 : ns3.length ≤ 6 := by
          rw [hn3, List.length_append]
          have := nsB_len false (ts.drop 2) [[35], [35]]
          simp only [List.length_cons, List.length_nil] at this
          omega
        have HR3 : Hid (RS wP rb e A3 n3 c3 (ts.drop 4) K nm3 NV3 ns3 at_ w3) := Lib.hid (by have q := hr3; rw [List.drop_drop] at q; exact q)
        have HC3 : Hid (∀ e1 W2 p2, Post wP rb e p2 (ts.drop 4) K nm3 NV3 ns3 at_ w3 e1 W2 → Post wP rb e ([[110], [97, 116], [35], [35]] ++ p2) ts K nm NV ns at_ W e1 W2) := Lib.hid (fun e1 W2 p2 q => HC2.out _ _ _ (hc3 _ _ _ (by rw [List.drop_drop]; exact q)))
        clear hm3 hr3 hn3 hg3 hc3 hp hq
        have HQ3 := Lib.hid (drift_val (by omega) (hw.drop 4) HR3.out)
        go_wp2_with fail
        refine HQ3.out.mono ?_
        intro e4 w4 hq
        have hp : Post wP rb e [[100], [35]] (ts.drop 4) K nm3 NV3 ns3 at_ w3 e4 w4 := hq
        rcases hp.cases (by decide) with ⟨rfl, hm4, A4, n4, c4, nm4, NV4, ns4, hr4, hn4, hg4, hc4⟩ | ⟨p, rfl, hf⟩
        · have hnl4 : ns4.length ≤ 8 := by
            rw [hn4, List.length_append]
            have := nsB_len false (ts.drop 4) [[100], [35]]
            simp only [List.length_cons, List.length_nil] at this
            omega
          have HR4 : Hid (RS wP rb e A4 n4 c4 (ts.drop 6) K nm4 NV4 ns4 at_ w4) := Lib.hid (by have q := hr4; rw [List.drop_drop] at q; exact q)
          have HC4 : Hid (∀ e1 W2 p2, Post wP rb e p2 (ts.drop 6) K nm4 NV4 ns4 at_ w4 e1 W2 → Post wP rb e ([[110], [97, 116], [35], [35], [100], [35]] ++ p2) ts K nm NV ns at_ W e1 W2) := Lib.hid (fun e1 W2 p2 q => HC3.out _ _ _ (hc4 _ _ _ (by rw [List.drop_drop]; exact q)))
          clear hm4 hr4 hn4 hg4 hc4 hp hq
          have BN4 := Lib.hid (Blk.new w4 9 #[.string ⟨#[98, 97, 116, 116, 101, 114, 121]⟩])
          have HB4 : Hid (Below w4.heap.size w4 (w4.alloc (.cells #[.string ⟨#[98, 97, 116, 116, 101, 114, 121]⟩] 9))) := Lib.hid ((Below.refl _ _).alloc (Nat.le_refl _) _)
          have HQ4 := Lib.hid (pairs_val [[98, 97, 116, 116, 101, 114, 121]] (by decide) (by decide) (by omega) (hw.drop 6) BN4.out (HR4.out.up HB4.out))
          go_wp2_with fail
          refine HQ4.out.mono ?_
          intro e5 w5 hq
          have hp : Post wP rb e [[98, 97, 116, 116, 101, 114, 121], [35]] (ts.drop 6) K nm4 NV4 ns4 at_ w4 e5 w5 := hq.start (Gr.of_below HB4.out)
          rcases hp.cases (by decide) with ⟨rfl, hm5, A5, n5, c5, nm5, NV5, ns5, hr5, hn5, hg5, hc5⟩ | ⟨p, rfl, hf⟩
          · have HZ : Hid (Post wP rb e [[110], [97, 116], [35], [35], [100], [35], [98, 97, 116, 116, 101, 114, 121], [35]] ts K nm NV ns at_ W _ _) := Lib.hid (HC4.out _ _ _ hp)
            clear hm5 hr5 hn5 hg5 hc5 hp hq
            go_wp2_with fail
            go_end0
            exact HZ.out
          · exact ⟨rfl, HC4.out _ _ _ (hf [])⟩
        · exact ⟨rfl, HC3.out _ _ _ (hf [[98, 97, 116, 116, 101, 114, 121], [35]])⟩
      · exact ⟨rfl, HC2.out _ _ _ (hf [[100], [35], [98, 97, 116, 116, 101, 114, 121], [35]])⟩
    · exact ⟨rfl, HC1.out _ _ _ (hf [[35], [35], [100], [35], [98, 97, 116, 116, 101, 114, 121], [35]])⟩
  · exact ⟨rfl, HC0.out _ _ _ (hf [[97, 116], [35], [35], [100], [35], [98, 97, 116, 116, 101, 114, 121], [35]])⟩
set_option maxRecDepth 100000 in
set_option maxHeartbeats 2000000 in
theorem c4_val {wP W : World} {rb e n c : Nat} {A : Option Addr} {ts : List Tok} {K : Int} {nm : ByteArray} {NV : Value} {ns : List Int} {at_ : Int} (hnl : ns.length ≤ 2) (hw : Wf ts) (h : RS wP rb e A n c ts K nm NV ns at_ W) :
    Calls Tryd.prog 80 #[.pointer (some ⟨rb, 0, none⟩)] W (Post wP rb e [[35]] ts K nm NV ns at_ W) := by
  have HR0 := Lib.hid h
  have HC0 : Hid (∀ e1 W2 p2, Post wP rb e p2 ts K nm NV ns at_ W e1 W2 → Post wP rb e ([] ++ p2) ts K nm NV ns at_ W e1 W2) := Lib.hid (fun _ _ _ q => q)
  clear h
  go_enter Tryd.func80, Tryd.ntmps80
  have HQ0 := Lib.hid (nums_val 1 (by omega) (by omega) (hw.drop 0) HR0.out)
  go_wp2_with fail
  refine HQ0.out.mono ?_
  intro e1 w1 hq
  have hp : Post wP rb e [[35]] ts K nm NV ns at_ W e1 w1 := hq
  rcases hp.cases (by decide) with ⟨rfl, hm1, A1, n1, c1, nm1, NV1, ns1, hr1, hn1, hg1, hc1⟩ | ⟨p, rfl, hf⟩
  · have HZ : Hid (Post wP rb e [[35]] ts K nm NV ns at_ W _ _) := Lib.hid (HC0.out _ _ _ hp)
    clear hm1 hr1 hn1 hg1 hc1 hp hq
    go_wp2_with fail
    go_end0
    exact HZ.out
  · exact ⟨rfl, HC0.out _ _ _ (hf [])⟩
set_option maxRecDepth 100000 in
set_option maxHeartbeats 2000000 in
theorem e2_val {wP W : World} {rb e n c : Nat} {A : Option Addr} {ts : List Tok} {K : Int} {nm : ByteArray} {NV : Value} {ns : List Int} {at_ : Int} (hnl : ns.length ≤ 2) (hw : Wf ts) (h : RS wP rb e A n c ts K nm NV ns at_ W) :
    Calls Tryd.prog 83 #[.pointer (some ⟨rb, 0, none⟩)] W (Post wP rb e [[35], [35], [114, 97, 100, 105, 117, 115], [35], [99, 104, 97, 110, 110, 101, 108], [35], [102, 111, 114], [35]] ts K nm NV ns at_ W) := by
  have HR0 := Lib.hid h
  have HC0 : Hid (∀ e1 W2 p2, Post wP rb e p2 ts K nm NV ns at_ W e1 W2 → Post wP rb e ([] ++ p2) ts K nm NV ns at_ W e1 W2) := Lib.hid (fun _ _ _ q => q)
  clear h
  go_enter Tryd.func83, Tryd.ntmps83
  have HQ0 := Lib.hid (nums_val 2 (by omega) (by omega) (hw.drop 0) HR0.out)
  go_wp2_with fail
  refine HQ0.out.mono ?_
  intro e1 w1 hq
  have hp : Post wP rb e [[35], [35]] ts K nm NV ns at_ W e1 w1 := hq
  rcases hp.cases (by decide) with ⟨rfl, hm1, A1, n1, c1, nm1, NV1, ns1, hr1, hn1, hg1, hc1⟩ | ⟨p, rfl, hf⟩
  · have hnl1 : ns1.length ≤ 4 := by
      rw [hn1, List.length_append]
      have := nsB_len false ts [[35], [35]]
      simp only [List.length_cons, List.length_nil] at this
      omega
    have HR1 : Hid (RS wP rb e A1 n1 c1 (ts.drop 2) K nm1 NV1 ns1 at_ w1) := Lib.hid (by have q := hr1; exact q)
    have HC1 : Hid (∀ e1 W2 p2, Post wP rb e p2 (ts.drop 2) K nm1 NV1 ns1 at_ w1 e1 W2 → Post wP rb e ([[35], [35]] ++ p2) ts K nm NV ns at_ W e1 W2) := Lib.hid (fun e1 W2 p2 q => HC0.out _ _ _ (hc1 _ _ _ (by exact q)))
    clear hm1 hr1 hn1 hg1 hc1 hp hq
    have BN1 := Lib.hid (Blk.new w1 9 #[.string ⟨#[114, 97, 100, 105, 117, 115]⟩, .string ⟨#[99, 104, 97, 110, 110, 101, 108]⟩, .string ⟨#[102, 111, 114]⟩])
    have HB1 : Hid (Below w1.heap.size w1 (w1.alloc (.cells #[.string ⟨#[114, 97, 100, 105, 117, 115]⟩, .string ⟨#[99, 104, 97, 110, 110, 101, 108]⟩, .string ⟨#[102, 111, 114]⟩] 9))) := Lib.hid ((Below.refl _ _).alloc (Nat.le_refl _) _)
    have HQ1 := Lib.hid (pairs_val [[114, 97, 100, 105, 117, 115], [99, 104, 97, 110, 110, 101, 108], [102, 111, 114]] (by decide) (by decide) (by omega) (hw.drop 2) BN1.out (HR1.out.up HB1.out))
    go_wp2_with fail
    refine HQ1.out.mono ?_
    intro e2 w2 hq
    have hp : Post wP rb e [[114, 97, 100, 105, 117, 115], [35], [99, 104, 97, 110, 110, 101, 108], [35], [102, 111, 114], [35]] (ts.drop 2) K nm1 NV1 ns1 at_ w1 e2 w2 := hq.start (Gr.of_below HB1.out)
    rcases hp.cases (by decide) with ⟨rfl, hm2, A2, n2, c2, nm2, NV2, ns2, hr2, hn2, hg2, hc2⟩ | ⟨p, rfl, hf⟩
    · have HZ : Hid (Post wP rb e [[35], [35], [114, 97, 100, 105, 117, 115], [35], [99, 104, 97, 110, 110, 101, 108], [35], [102, 111, 114], [35]] ts K nm NV ns at_ W _ _) := Lib.hid (HC1.out _ _ _ hp)
      clear hm2 hr2 hn2 hg2 hc2 hp hq
      go_wp2_with fail
      go_end0
      exact HZ.out
    · exact ⟨rfl, HC1.out _ _ _ (hf [])⟩
  · exact ⟨rfl, HC0.out _ _ _ (hf [[114, 97, 100, 105, 117, 115], [35], [99, 104, 97, 110, 110, 101, 108], [35], [102, 111, 114], [35]])⟩
set_option maxRecDepth 100000 in
set_option maxHeartbeats 2000000 in
theorem e3_val {wP W : World} {rb e n c : Nat} {A : Option Addr} {ts : List Tok} {K : Int} {nm : ByteArray} {NV : Value} {ns : List Int} {at_ : Int} (hnl : ns.length ≤ 2) (hw : Wf ts) (h : RS wP rb e A n c ts K nm NV ns at_ W) :
    Calls Tryd.prog 84 #[.pointer (some ⟨rb, 0, none⟩)] W (Post wP rb e [[35], [97, 116], [35], [35]] ts K nm NV ns at_ W) := by
  have HR0 := Lib.hid h
  have HC0 : Hid (∀ e1 W2 p2, Post wP rb e p2 ts K nm NV ns at_ W e1 W2 → Post wP rb e ([] ++ p2) ts K nm NV ns at_ W e1 W2) := Lib.hid (fun _ _ _ q => q)
  clear h
  go_enter Tryd.func84, Tryd.ntmps84
  have HQ0 := Lib.hid (nums_val 1 (by omega) (by omega) (hw.drop 0) HR0.out)
  go_wp2_with fail
  refine HQ0.out.mono ?_
  intro e1 w1 hq
  have hp : Post wP rb e [[35]] ts K nm NV ns at_ W e1 w1 := hq
  rcases hp.cases (by decide) with ⟨rfl, hm1, A1, n1, c1, nm1, NV1, ns1, hr1, hn1, hg1, hc1⟩ | ⟨p, rfl, hf⟩
  · have hnl1 : ns1.length ≤ 3 := by
      rw [hn1, List.length_append]
      have := nsB_len false ts [[35]]
      simp only [List.length_cons, List.length_nil] at this
      omega
    have HR1 : Hid (RS wP rb e A1 n1 c1 (ts.drop 1) K nm1 NV1 ns1 at_ w1) := Lib.hid (by have q := hr1; exact q)
    have HC1 : Hid (∀ e1 W2 p2, Post wP rb e p2 (ts.drop 1) K nm1 NV1 ns1 at_ w1 e1 W2 → Post wP rb e ([[35]] ++ p2) ts K nm NV ns at_ W e1 W2) := Lib.hid (fun e1 W2 p2 q => HC0.out _ _ _ (hc1 _ _ _ (by exact q)))
    clear hm1 hr1 hn1 hg1 hc1 hp hq
    have HQ1 := Lib.hid (word_val [97, 116] (by decide) (by decide) (by decide) (by decide) (hw.drop 1) HR1.out)
    go_wp2_with fail
    refine HQ1.out.mono ?_
    intro e2 w2 hq
    have hp : Post wP rb e [[97, 116]] (ts.drop 1) K nm1 NV1 ns1 at_ w1 e2 w2 := hq
    rcases hp.cases (by decide) with ⟨rfl, hm2, A2, n2, c2, nm2, NV2, ns2, hr2, hn2, hg2, hc2⟩ | ⟨p, rfl, hf⟩
    · have hnl2 : ns2.length ≤ 4 := by
        rw [hn2, List.length_append]
        have := nsB_len false (ts.drop 1) [[97, 116]]
        simp only [List.length_cons, List.length_nil] at this
        omega
      have HR2 : Hid (RS wP rb e A2 n2 c2 (ts.drop 2) K nm2 NV2 ns2 at_ w2) := Lib.hid (by have q := hr2; rw [List.drop_drop] at q; exact q)
      have HC2 : Hid (∀ e1 W2 p2, Post wP rb e p2 (ts.drop 2) K nm2 NV2 ns2 at_ w2 e1 W2 → Post wP rb e ([[35], [97, 116]] ++ p2) ts K nm NV ns at_ W e1 W2) := Lib.hid (fun e1 W2 p2 q => HC1.out _ _ _ (hc2 _ _ _ (by rw [List.drop_drop]; exact q)))
      clear hm2 hr2 hn2 hg2 hc2 hp hq
      have HQ2 := Lib.hid (nums_val 2 (by omega) (by omega) (hw.drop 2) HR2.out)
      go_wp2_with fail
      refine HQ2.out.mono ?_
      intro e3 w3 hq
      have hp : Post wP rb e [[35], [35]] (ts.drop 2) K nm2 NV2 ns2 at_ w2 e3 w3 := hq
      rcases hp.cases (by decide) with ⟨rfl, hm3, A3, n3, c3, nm3, NV3, ns3, hr3, hn3, hg3, hc3⟩ | ⟨p, rfl, hf⟩
      · have HZ : Hid (Post wP rb e [[35], [97, 116], [35], [35]] ts K nm NV ns at_ W _ _) := Lib.hid (HC2.out _ _ _ hp)
        clear hm3 hr3 hn3 hg3 hc3 hp hq
        go_wp2_with fail
        go_end0
        exact HZ.out
      · exact ⟨rfl, HC2.out _ _ _ (hf [])⟩
    · exact ⟨rfl, HC1.out _ _ _ (hf [[35], [35]])⟩
  · exact ⟨rfl, HC0.out _ _ _ (hf [[97, 116], [35], [35]])⟩
set_option maxRecDepth 100000 in
set_option maxHeartbeats 2000000 in
theorem e4_val {wP W : World} {rb e n c : Nat} {A : Option Addr} {ts : List Tok} {K : Int} {nm : ByteArray} {NV : Value} {ns : List Int} {at_ : Int} (hnl : ns.length ≤ 2) (hw : Wf ts) (h : RS wP rb e A n c ts K nm NV ns at_ W) :
    Calls Tryd.prog 85 #[.pointer (some ⟨rb, 0, none⟩)] W (Post wP rb e [[35], [115, 105, 122, 101], [35]] ts K nm NV ns at_ W) := by
  have HR0 := Lib.hid h
  have HC0 : Hid (∀ e1 W2 p2, Post wP rb e p2 ts K nm NV ns at_ W e1 W2 → Post wP rb e ([] ++ p2) ts K nm NV ns at_ W e1 W2) := Lib.hid (fun _ _ _ q => q)
  clear h
  go_enter Tryd.func85, Tryd.ntmps85
  have HQ0 := Lib.hid (nums_val 1 (by omega) (by omega) (hw.drop 0) HR0.out)
  go_wp2_with fail
  refine HQ0.out.mono ?_
  intro e1 w1 hq
  have hp : Post wP rb e [[35]] ts K nm NV ns at_ W e1 w1 := hq
  rcases hp.cases (by decide) with ⟨rfl, hm1, A1, n1, c1, nm1, NV1, ns1, hr1, hn1, hg1, hc1⟩ | ⟨p, rfl, hf⟩
  · have hnl1 : ns1.length ≤ 3 := by
      rw [hn1, List.length_append]
      have := nsB_len false ts [[35]]
      simp only [List.length_cons, List.length_nil] at this
      omega
    have HR1 : Hid (RS wP rb e A1 n1 c1 (ts.drop 1) K nm1 NV1 ns1 at_ w1) := Lib.hid (by have q := hr1; exact q)
    have HC1 : Hid (∀ e1 W2 p2, Post wP rb e p2 (ts.drop 1) K nm1 NV1 ns1 at_ w1 e1 W2 → Post wP rb e ([[35]] ++ p2) ts K nm NV ns at_ W e1 W2) := Lib.hid (fun e1 W2 p2 q => HC0.out _ _ _ (hc1 _ _ _ (by exact q)))
    clear hm1 hr1 hn1 hg1 hc1 hp hq
    have BN1 := Lib.hid (Blk.new w1 9 #[.string ⟨#[115, 105, 122, 101]⟩])
    have HB1 : Hid (Below w1.heap.size w1 (w1.alloc (.cells #[.string ⟨#[115, 105, 122, 101]⟩] 9))) := Lib.hid ((Below.refl _ _).alloc (Nat.le_refl _) _)
    have HQ1 := Lib.hid (pairs_val [[115, 105, 122, 101]] (by decide) (by decide) (by omega) (hw.drop 1) BN1.out (HR1.out.up HB1.out))
    go_wp2_with fail
    refine HQ1.out.mono ?_
    intro e2 w2 hq
    have hp : Post wP rb e [[115, 105, 122, 101], [35]] (ts.drop 1) K nm1 NV1 ns1 at_ w1 e2 w2 := hq.start (Gr.of_below HB1.out)
    rcases hp.cases (by decide) with ⟨rfl, hm2, A2, n2, c2, nm2, NV2, ns2, hr2, hn2, hg2, hc2⟩ | ⟨p, rfl, hf⟩
    · have HZ : Hid (Post wP rb e [[35], [115, 105, 122, 101], [35]] ts K nm NV ns at_ W _ _) := Lib.hid (HC1.out _ _ _ hp)
      clear hm2 hr2 hn2 hg2 hc2 hp hq
      go_wp2_with fail
      go_end0
      exact HZ.out
    · exact ⟨rfl, HC1.out _ _ _ (hf [])⟩
  · exact ⟨rfl, HC0.out _ _ _ (hf [[115, 105, 122, 101], [35]])⟩
end Go.Proofs.YtmdogklgbifacaaDoor.Ps
