/- What the form's reach says of a slice that came in. -/
import Derived.ProofKit
import Derived.OpenShut
import Derived.ChangeOld
import Derived.SizedLaws
import Derived.Deep.Slices
import Derived.Test.YteeloebhjmmpdaaCom
namespace Go.Proofs.Yteeloebhjmmpdaa
open Go.RowKit Go.ChangeShapes Go.WideShapes Go.Deep

theorem reach_of {H : Type} {enc : TypeId × Value → H} {P : Program} {w : World} {spare : Nat → Bool} {held : Bool} {t e : TypeId} {A : Option Addr} {n c : Nat} {d : DataW H} {p : List MemPlace} {ts : List TypeId} {ds : List (DataW H)} {j : Nat}
    (ht : P.underlying t = some (.slice e)) (h : DataW.Trod enc P w 0 spare held t (.slice A n c) d p) (hsz : (DataW.weightsEach P ts ds).all (· ≤ reachBytes) = true) (hj : ts[j]? = some t) (hd : ds[j]? = some d) : n * P.bytesOf e ≤ 140737488351232 := by
  obtain ⟨fuel, hf⟩ := h
  rcases open_slice ht hf with ⟨hcs, _⟩ | ⟨a, len, cap, m, n', D, Pl, hcs, _, hl, hm, hmm, hx, hi⟩
  · simp [Value.cells] at hcs
    obtain ⟨rfl, rfl, rfl⟩ := hcs
    simp
  · simp [Value.cells] at hcs
    obtain ⟨rfl, rfl, rfl⟩ := hcs
    obtain ⟨rfl, rfl⟩ := Prod.mk.injEq .. ▸ hx
    have := sized_slice hsz hj hd ht
    simp only [List.length_map, List.length_range] at this
    have h1 : n * P.bytesOf e ≤ (n + (m - n)) * P.bytesOf e := Nat.mul_le_mul_right _ (by omega)
    have h2 : reachBytes = 140737488351232 := by decide
    omega
end Go.Proofs.Yteeloebhjmmpdaa
