/-
  The library's variables at this seat: their places and types.
-/
import Derived.Test.YtdpnaneedjoboaaDoorCmX
namespace Go.Proofs.YtdpnaneedjoboaaDoor
abbrev gErr : Nat := 0
abbrev gErrI : Nat := 31
abbrev gErrP : Nat := 73
abbrev gErrS : Nat := 75
abbrev gPow : Nat := 2
abbrev gPowT : Nat := 79
abbrev LO (e : Nat) : List Go.CM.Ob := Go.CM.libOb gErr gPow gErrP gPowT e
end Go.Proofs.YtdpnaneedjoboaaDoor
