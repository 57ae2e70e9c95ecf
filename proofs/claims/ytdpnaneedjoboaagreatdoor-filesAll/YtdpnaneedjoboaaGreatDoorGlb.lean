/-
  The library's variables at this seat: their places and types.
-/
import Derived.Test.YtdpnaneedjoboaaGreatDoorCmX
namespace Go.Proofs.YtdpnaneedjoboaaGreatDoor
abbrev gErr : Nat := 0
abbrev gErrI : Nat := 62
abbrev gErrP : Nat := 138
abbrev gErrS : Nat := 140
abbrev gPow : Nat := 2
abbrev gPowT : Nat := 144
abbrev LO (e : Nat) : List Go.CM.Ob := Go.CM.libOb gErr gPow gErrP gPowT e
end Go.Proofs.YtdpnaneedjoboaaGreatDoor
