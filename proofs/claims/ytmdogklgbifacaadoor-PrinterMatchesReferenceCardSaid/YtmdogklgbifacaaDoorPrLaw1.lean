/- The law PrinterMatchesReference. -/
import Derived.Test.YtmdogklgbifacaaDoorPrHead
import Derived.Test.YtmdogklgbifacaaDoorPrFew
namespace Go.Proofs.YtmdogklgbifacaaDoor.Pr
open Go.RowKit Go.Proofs.YtmdogklgbifacaaDoor.Lx
set_option linter.unusedVariables false

set_option maxRecDepth 100000 in
set_option maxHeartbeats 1000000 in
theorem printerMatchesReference_walk (A : Option Addr) (n c : Nat) (l : List Cm) (w : World) (h : IsCms w A n c l) (hv : VarP w) :
    Calls Tryd.prog 3 #[.slice A n c] w fun e w' => e = .returned (.bool true) ∧ Below w.heap.size w w' := by
  have HH := Lib.hid (head_val w hv)
  have HV := Lib.hid hv
  have HI := Lib.hid h
  have HF := Lib.hid (fun W (hb : Below w.heap.size w W) => few_val A n c l W (h.up hb))
  obtain ⟨v, hfv⟩ : ∃ v, fewB l = v := ⟨_, rfl⟩
  rw [hfv] at HF
  clear h hv hfv
  cases v with
  | false =>
    go_enter Tryd.func3, Tryd.ntmps3
    go_wp2_with fail
    refine HH.out.mono ?_
    rintro e w1 ⟨rfl, hb1⟩
    have HB1 := Lib.hid hb1
    clear hb1
    go_wp2_with fail
    refine (HF.out _ HB1.out).mono ?_
    rintro e w2 ⟨rfl, rfl⟩
    go_wp2_with fail
    go_ret
    exact ⟨rfl, HB1.out⟩
  | true =>
    have HP := Lib.hid (fun W (hb : Below w.heap.size w W) => print_val A n c l W (HI.out.up hb) (HV.out.up hb))
    have HR := Lib.hid (fun W (hb : Below w.heap.size w W) => rprint_val A n c l W (HI.out.up hb))
    rw [print_law] at HP
    obtain ⟨⟨t, e⟩, hr⟩ : ∃ q, rprintL l = q := ⟨_, rfl⟩
    rw [hr] at HP HR
    obtain ⟨T, hT⟩ : ∃ T : ByteArray, ⟨t.toArray⟩ = T := ⟨_, rfl⟩
    dsimp only at HP HR
    rw [hT] at HP HR
    clear hr hT
    go_enter Tryd.func3, Tryd.ntmps3
    go_wp2_with fail
    refine HH.out.mono ?_
    rintro e1 w1 ⟨rfl, hb1⟩
    have HB1 := Lib.hid hb1
    clear hb1
    go_wp2_with fail
    refine (HF.out _ HB1.out).mono ?_
    rintro e2 w2 ⟨rfl, rfl⟩
    go_wp2_with fail
    refine (HP.out _ HB1.out).mono ?_
    rintro e3 w3 ⟨rfl, hb3⟩
    have HB3 := Lib.hid (below_trans' HB1.out hb3)
    clear hb3
    go_wp2_with fail
    refine (HR.out _ HB3.out).mono ?_
    rintro e4 w4 ⟨rfl, hb4⟩
    have HB4 := Lib.hid (below_trans' HB3.out hb4)
    clear hb4
    go_wp2_with fail
    go_ret
    exact ⟨by simp, HB4.out⟩
end Go.Proofs.YtmdogklgbifacaaDoor.Pr
