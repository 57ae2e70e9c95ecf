/-
  All signs of a text; keys.
-/
import Derived.Test.YtelgcaacaolgfaaDoorSignC
namespace Go.Proofs.YtelgcaacaolgfaaDoor
open Go Go.CM
set_option maxRecDepth 100000
set_option maxHeartbeats 4000000

/-- The signs of a text from a place on, and where each begins. -/
def sgs (s : List UInt8) (p : Nat) : List (Nat × Nat) := if p < s.length then ((firstS (s.drop p)).1, p) :: sgs s (p + (firstS (s.drop p)).2) else []
termination_by s.length - p
decreasing_by (have := firstS_pos (s.drop p); omega)
theorem sgs_lt {s : List UInt8} {p : Nat} (h : p < s.length) : sgs s p = ((firstS (s.drop p)).1, p) :: sgs s (p + (firstS (s.drop p)).2) := by rw [sgs, if_pos h]
theorem sgs_ge {s : List UInt8} {p : Nat} (h : s.length ≤ p) : sgs s p = [] := by rw [sgs, if_neg (by omega)]
def natC (n : Nat) : List V := [.int .i64 (n : Nat)]
theorem l4 {a b c d a' b' c' d' : V} (h1 : a = a') (h2 : b = b') (h3 : c = c') (h4 : d = d') : [a, b, c, d] = [a', b', c', d'] := by rw [h1, h2, h3, h4]
end Go.Proofs.YtelgcaacaolgfaaDoor
