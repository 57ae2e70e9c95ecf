/-
  A digit.
-/
import Derived.Test.YtelgcaacaolgfaaDoorKeyC
namespace Go.Proofs.YtelgcaacaolgfaaDoor
open Go Go.CM
set_option maxRecDepth 100000
set_option maxHeartbeats 4000000

/-- A digit's worth. -/
def digI (c : Int) : Int := if 48 ≤ c ∧ c ≤ 57 then c - 48 else if 65 ≤ c ∧ c ≤ 70 then c - 55 else if 97 ≤ c ∧ c ≤ 102 then c - 87 else -1
end Go.Proofs.YtelgcaacaolgfaaDoor
