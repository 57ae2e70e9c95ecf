/-
  A key: the reference.
-/
import Derived.Test.YtelgcaacaolgfaaDoorSignD
namespace Go.Proofs.YtelgcaacaolgfaaDoor
open Go Go.CM
set_option maxRecDepth 100000
set_option maxHeartbeats 4000000

/-- May a sign stand in a key? -/
abbrev keySg (n : Nat) : Prop := srtI n = 2 ∨ srtI n = 3 ∨ n = 45 ∨ n = 95 ∨ n = 46
abbrev keyP (n : Nat) (l : List Nat) : Prop := (1 ≤ n ∧ n ≤ 24) ∧ ∀ x ∈ l, keySg x
theorem sgs_len (s : List UInt8) (p : Nat) : (sgs s p).length ≤ s.length - p := by
  by_cases h : p < s.length
  · rw [sgs_lt h, List.length_cons]
    have := sgs_len s (p + (firstS (s.drop p)).2)
    have := firstS_pos (s.drop p)
    omega
  · rw [sgs_ge (by omega)]; simp
termination_by s.length - p
decreasing_by (have := firstS_pos (s.drop p); omega)
end Go.Proofs.YtelgcaacaolgfaaDoor
