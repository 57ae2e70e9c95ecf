/-
  The names of files: the law.
-/
import Derived.Test.YtkfhgpegnnokgaaGreatDoorFilB
namespace Go.Proofs.YtkfhgpegnnokgaaGreatDoor
open Go Go.CM
set_option maxRecDepth 100000
set_option maxHeartbeats 4000000

end Go.Proofs.YtkfhgpegnnokgaaGreatDoor
