/-
  A letter, raised.
-/
import Derived.Test.YtelgcaacaolgfaaDoorDigA
namespace Go.Proofs.YtelgcaacaolgfaaDoor
open Go Go.CM
set_option maxRecDepth 100000
set_option maxHeartbeats 4000000

theorem V2 {a a' : Int} {b b' : Bool} (h1 : a = a') (h2 : b = b') : V.tup [.int .u8 a, .bool b] = V.tup [.int .u8 a', .bool b'] := by rw [h1, h2]
theorem letter_prog (c : Int) (h0 : 0 ≤ c) (h1 : c < 256) : CallsR Tryd.prog ncanon_letter [.int .u8 c] [] fun v => v = .tup [.int .u8 (if 97 ≤ c ∧ c ≤ 122 then c - 32 else c), .bool (decide (65 ≤ c ∧ c ≤ 90 ∨ 97 ≤ c ∧ c ≤ 122))] := by
  refine scanon_letter fun H hh => ?_
  dsimp only [ccanon_letter]
  refine walk (k := ?_)
  repeat' first | refine And.intro ?_ ?_ | intro
  all_goals refine leaf ?_
  all_goals refine doneR (V2 ?_ ?_)
  all_goals first
    | (rw [Bool.eq_iff_iff]; simp; omega)
    | (split <;> omega)
    | omega
end Go.Proofs.YtelgcaacaolgfaaDoor
