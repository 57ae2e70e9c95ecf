/-
  The disk: a sure byte is another one.
-/
import Derived.Test.YtkfhgpegnnokgaaGreatDoorDskF
namespace Go.Proofs.YtkfhgpegnnokgaaGreatDoor
open Go Go.CM
set_option maxRecDepth 100000
set_option maxHeartbeats 4000000

def namesD (D : Dsk) : List Tx := srtT (D.sure.map (·.1))
def byU (n : Int) : UInt8 := UInt8.ofNat (n % 256).toNat
def rotP (D : Dsk) (file at_ : Int) : Prop := 0 ≤ file ∧ file < (namesD D).length ∧ 0 ≤ at_ ∧ at_ < (getT (nth (namesD D) file.toNat) D.sure).length
instance (D : Dsk) (file at_ : Int) : Decidable (rotP D file at_) := by unfold rotP; infer_instance
def turnT (t : Tx) (i : Nat) (b : UInt8) : Tx := t.set i (nth t i ^^^ b)
def rotD (D : Dsk) (file at_ by_ : Int) : Dsk := if rotP D file at_ then ⟨setT (nth (namesD D) file.toNat) (turnT (getT (nth (namesD D) file.toNat) D.sure) at_.toNat (byU by_)) D.sure, D.waits, D.room, D.fuse, D.down⟩ else D
end Go.Proofs.YtkfhgpegnnokgaaGreatDoor
