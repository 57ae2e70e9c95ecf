/-
  The document's signs.
-/
import Derived.Test.YtelgcaacaolgfaaDoorSignB
namespace Go.Proofs.YtelgcaacaolgfaaDoor
open Go Go.CM
set_option maxRecDepth 100000
set_option maxHeartbeats 4000000

theorem firstS_pos (l : List UInt8) : 1 ≤ (firstS l).2 := by
  unfold firstS
  repeat' split
  all_goals (simp only; omega)
theorem firstS_le {l : List UInt8} (h : l ≠ []) : (firstS l).2 ≤ l.length := by
  have := List.length_pos_iff.2 h
  unfold firstS
  repeat' split
  all_goals (simp only; omega)
end Go.Proofs.YtelgcaacaolgfaaDoor
