/-
  The names of files: the document; the law.
-/
import Derived.Test.YtkfhgpegnnokgaaGreatDoorFilA
namespace Go.Proofs.YtkfhgpegnnokgaaGreatDoor
open Go Go.CM
set_option maxRecDepth 100000
set_option maxHeartbeats 4000000

def DigI (n k : Nat) (out : List UInt8) : Prop := (if k = 0 then [] else Lib.decDigits k) ++ out = Lib.decDigits n
theorem DigI.step {n k : Nat} {out : List UInt8} (h : DigI n k out) (hk : 0 < k) : DigI n (k / 10) (UInt8.ofNat (48 + k % 10) :: out) := by
  unfold DigI at h ⊢
  rw [if_neg (by omega), Lib.decDigits] at h
  split at h
  · rename_i h10
    rw [if_pos (by omega), ← h, Nat.mod_eq_of_lt h10]; rfl
  · rename_i h10
    rw [if_neg (by omega), ← h, List.append_assoc]; rfl
end Go.Proofs.YtkfhgpegnnokgaaGreatDoor
