/- How long a string argument can be. -/
import Derived.SizedLaws
import Derived.RowKit
namespace Go.Proofs.YtmdogklgbifacaaDoor
theorem str_reach {H : Type} {P : Program} {ts : List TypeId} {ds : List (DataW H)} {s : ByteArray} (h : (DataW.weightsEach P ts ds).all (· ≤ reachBytes) = true) {j : Nat} {t : TypeId} (ht : ts[j]? = some t) (hd : ds[j]? = some (.lit (.string s.data.toList))) : s.size ≤ 140737488351232 := by
  have h1 := sized_string h ht hd
  have e : s.data.toList.length = s.size := Array.length_toList
  have e2 : reachBytes = 140737488351232 := rfl
  omega
end Go.Proofs.YtmdogklgbifacaaDoor
