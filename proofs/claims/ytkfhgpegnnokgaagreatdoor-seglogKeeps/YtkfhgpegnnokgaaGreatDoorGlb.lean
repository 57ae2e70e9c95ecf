/-
  The library's variables at this seat: their places and types.
-/
import Derived.Test.YtkfhgpegnnokgaaGreatDoorCmX
namespace Go.Proofs.YtkfhgpegnnokgaaGreatDoor
abbrev gErr : Nat := 0
abbrev gErrI : Nat := 123
abbrev gErrP : Nat := 194
abbrev gErrS : Nat := 196
abbrev gPow : Nat := 2
abbrev gPowT : Nat := 190
abbrev LO (e : Nat) : List Go.CM.Ob := Go.CM.libOb gErr gPow gErrP gPowT e
end Go.Proofs.YtkfhgpegnnokgaaGreatDoor
