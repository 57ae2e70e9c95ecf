/-
  The wheel: times and their order.
-/
import Derived.Test.YtlnidffddidfaaaC0
namespace Go.Proofs.Ytlnidffddidfaaa
open Go Go.CM
set_option maxRecDepth 100000
set_option maxHeartbeats 4000000

abbrev tmax : Int := 1099511627776
def tm (n : Int) : Int := if n < 0 then 0 else if n > tmax then tmax else n
theorem bring_prog (n : Int) : CallsR Try.prog nref06_Bring [.int .i64 n, .int .i64 0, .int .i64 tmax] [] fun v => v = .int .i64 (tm n) := by
  refine sref06_Bring fun H hh => ?_
  dsimp only [cref06_Bring]
  refine walk (k := ?_)
  repeat' first | refine And.intro ?_ ?_ | intro
  all_goals refine leaf ?_
  all_goals refine doneR ?_
  · rename_i h; rw [tm, if_pos h]
  · rename_i h1 h2; rw [tm, if_neg h1, if_pos h2]
  · rename_i h1 h2; rw [tm, if_neg h1, if_neg h2]
theorem rtime_prog (n : Int) : CallsR Try.prog nref06_Time [.int .i64 n] [] fun v => v = .int .i64 (tm n) := by
  refine sref06_Time fun H hh => ?_
  dsimp only [cref06_Time]
  refine walk (k := ?_)
  repeat' first | refine And.intro ?_ ?_ | intro
  all_goals refine leaf ?_
  refine callE (bring_prog n) ?_
  refine walk (k := ?_)
  repeat' first | refine And.intro ?_ ?_ | intro
  all_goals refine leaf ?_
  exact doneR rfl
theorem within_prog (n : Int) : CallsR Try.prog nnum_within [.int .i64 n, .int .i64 0, .int .i64 tmax] [] fun v => v = .int .i64 (tm n) := by
  refine snum_within fun H hh => ?_
  dsimp only [cnum_within]
  refine walk (k := ?_)
  repeat' first | refine And.intro ?_ ?_ | intro
  all_goals refine leaf ?_
  refine doneR ?_
  congr 1
  unfold tm tmax
  split <;> split <;> omega
theorem time_prog (n : Int) : CallsR Try.prog nnum_Time [.int .i64 n] [] fun v => v = .int .i64 (tm n) := by
  refine snum_Time fun H hh => ?_
  dsimp only [cnum_Time]
  refine walk (k := ?_)
  repeat' first | refine And.intro ?_ ?_ | intro
  all_goals refine leaf ?_
  refine callE (within_prog n) ?_
  refine walk (k := ?_)
  repeat' first | refine And.intro ?_ ?_ | intro
  all_goals refine leaf ?_
  exact doneR rfl
theorem and63 (m : Nat) (_h : m ≤ 1099511627776) : IntKind.i64.wrap ((BitVec.ofInt IntKind.i64.bits (m : Int) &&& BitVec.ofInt IntKind.i64.bits 63).toNat : Int) = ((m % 64 : Nat) : Int) := by
  have e : (BitVec.ofInt IntKind.i64.bits (m : Int) &&& BitVec.ofInt IntKind.i64.bits 63).toNat = m % 64 := by
    have h2 : (BitVec.ofInt IntKind.i64.bits (63 : Int)).toNat = 2 ^ 6 - 1 := by decide
    rw [BitVec.toNat_and, h2, Nat.and_two_pow_sub_one_eq_mod, BitVec.ofInt_natCast, BitVec.toNat_ofNat]
    show m % 2 ^ 64 % 2 ^ 6 = _
    omega
  rw [e]
  have : m % 64 < 64 := Nat.mod_lt _ (by decide)
  simp [IntKind.wrap, IntKind.bits, IntKind.signed]; omega
theorem digit_prog (a k : Nat) (ha : a ≤ 1099511627776) (hk : k ≤ 6) : CallsR Try.prog nwheel_digit [.int .i64 a, .int .i64 k] [] fun v => v = .int .i64 ((a / 2 ^ (6 * k) % 64 : Nat) : Int) := by
  refine swheel_digit fun H hh => ?_
  dsimp only [cwheel_digit]
  refine walk (k := ?_)
  repeat' first | refine And.intro ?_ ?_ | intro
  all_goals refine leaf ?_
  refine doneR (congrArg (V.int .i64) ?_)
  have e : ((a : Int).fdiv (2 ^ min (6 * (k : Int)).toNat IntKind.i64.bits)) = ((a / 2 ^ (6 * k) : Nat) : Int) := by
    have h1 : (6 * (k : Int)).toNat = 6 * k := by omega
    rw [h1, Nat.min_eq_left (by simp [IntKind.bits]; omega), Int.fdiv_eq_ediv_of_nonneg _ (Int.pow_nonneg (by decide))]
    norm_cast
  rw [e]
  exact and63 _ (Nat.le_trans (Nat.div_le_self _ _) ha)
end Go.Proofs.Ytlnidffddidfaaa
