/-
  Times and numbers, brought to what may be.
-/
import Derived.Test.YtelgcaacaolgfaaDoorPakA
import Derived.Test.YtelgcaacaolgfaaDoorEntD
namespace Go.Proofs.YtelgcaacaolgfaaDoor
open Go Go.CM
set_option maxRecDepth 100000
set_option maxHeartbeats 4000000

def brI (n lo hi : Int) : Int := if n < lo then lo else if hi < n then hi else n
abbrev timI (n : Int) : Int := brI n 0 1099511627776
abbrev numI (n : Int) : Int := brI n 0 1073741824
def plusI (t s : Int) : Int := timI (timI t + numI s)
theorem brI_ge {n lo hi : Int} (h : lo ≤ hi) : lo ≤ brI n lo hi ∧ brI n lo hi ≤ hi := by
  unfold brI
  split
  · omega
  · split <;> omega
theorem within_prog (n lo hi : Int) (h : lo ≤ hi) : CallsR Tryd.prog nnum_within [.int .i64 n, .int .i64 lo, .int .i64 hi] [] fun v => v = .int .i64 (brI n lo hi) := by
  refine snum_within fun H hh => ?_
  dsimp only [cnum_within]
  refine walk (k := ?_)
  repeat' first | refine And.intro ?_ ?_ | intro
  all_goals refine leaf ?_
  refine doneR (congrArg (V.int .i64) ?_)
  unfold brI
  repeat' split
  all_goals omega
theorem time_prog (n : Int) : CallsR Tryd.prog nnum_Time [.int .i64 n] [] fun v => v = .int .i64 (timI n) := by
  refine snum_Time fun H hh => ?_
  dsimp only [cnum_Time]
  refine walk (k := ?_)
  repeat' first | refine And.intro ?_ ?_ | intro
  all_goals refine leaf ?_
  refine callE ((within_prog n 0 1099511627776 (by decide))) ?_
  refine walk1 (k := ?_)
  repeat' first | refine And.intro ?_ ?_ | intro
  all_goals refine leaf ?_
  exact doneR rfl
theorem number_prog (n : Int) : CallsR Tryd.prog nnum_number [.int .i64 n] [] fun v => v = .int .i64 (numI n) := by
  refine snum_number fun H hh => ?_
  dsimp only [cnum_number]
  refine walk (k := ?_)
  repeat' first | refine And.intro ?_ ?_ | intro
  all_goals refine leaf ?_
  refine callE ((within_prog n 0 1073741824 (by decide))) ?_
  refine walk1 (k := ?_)
  repeat' first | refine And.intro ?_ ?_ | intro
  all_goals refine leaf ?_
  exact doneR rfl
theorem plus_prog (t s : Int) : CallsR Tryd.prog nnum_Plus [.int .i64 t, .int .i64 s] [] fun v => v = .int .i64 (plusI t s) := by
  have h1 : 0 ≤ timI t ∧ timI t ≤ 1099511627776 := brI_ge (by decide)
  have h2 : 0 ≤ numI s ∧ numI s ≤ 1073741824 := brI_ge (by decide)
  refine snum_Plus fun H hh => ?_
  dsimp only [cnum_Plus]
  refine walk (k := ?_)
  repeat' first | refine And.intro ?_ ?_ | intro
  all_goals refine leaf ?_
  refine callE ((time_prog t)) ?_
  refine walk1 (k := ?_)
  repeat' first | refine And.intro ?_ ?_ | intro
  all_goals refine leaf ?_
  refine callE ((number_prog s)) ?_
  refine walk1 (k := ?_)
  repeat' first | refine And.intro ?_ ?_ | intro
  all_goals refine leaf ?_
  refine callE ((time_prog (timI t + numI s))) ?_
  refine walk1 (k := ?_)
  repeat' first | refine And.intro ?_ ?_ | intro
  all_goals refine leaf ?_
  exact doneR rfl
theorem next_prog (n : Int) : CallsR Tryd.prog nnum_Next [.int .i64 n] [] fun v => v = if n < 0 then .tup [.int .i64 0, .int .i64 1] else if 1073741824 ≤ n then .tup [.int .i64 0, .int .i64 10] else .tup [.int .i64 (n + 1), .int .i64 0] := by
  refine snum_Next fun H hh => ?_
  dsimp only [cnum_Next]
  refine walk (k := ?_)
  repeat' first | refine And.intro ?_ ?_ | intro
  all_goals refine leaf ?_
  · exact doneR (if_pos (by omega)).symm
  · exact doneR (by rw [if_neg (by omega), if_pos (by omega)])
  · exact doneR (by rw [if_neg (by omega), if_neg (by omega)])
structure Conf where
  workers : Int
  lease : Int
  ttl : Int
  quota : Int
  segment : Int
  disk : Int
  deriving Inhabited, DecidableEq
def Conf.enc (c : Conf) : List V := [.int .i64 c.workers, .int .i64 c.lease, .int .i64 c.ttl, .int .i64 c.quota, .int .i64 c.segment, .int .i64 c.disk]
def Conf.br (c : Conf) : Conf := ⟨brI c.workers 1 4, brI c.lease 1 1073741824, brI c.ttl 1 1073741824, brI c.quota 1 200, brI c.segment 500 20000, brI c.disk 1000 60000⟩
theorem config_prog (c : Conf) : CallsR Tryd.prog nnum_Config [.agg c.enc] [] fun v => v = .agg c.br.enc := by
  unfold Conf.enc Conf.br
  refine snum_Config fun H hh => ?_
  dsimp only [cnum_Config]
  refine walk1 (k := ?_)
  repeat' first | refine And.intro ?_ ?_ | intro
  all_goals refine leaf ?_
  refine callE ((within_prog c.workers 1 4 (by decide))) ?_
  refine walk1 (k := ?_)
  repeat' first | refine And.intro ?_ ?_ | intro
  all_goals refine leaf ?_
  refine callE ((within_prog c.lease 1 1073741824 (by decide))) ?_
  refine walk1 (k := ?_)
  repeat' first | refine And.intro ?_ ?_ | intro
  all_goals refine leaf ?_
  refine callE ((within_prog c.ttl 1 1073741824 (by decide))) ?_
  refine walk1 (k := ?_)
  repeat' first | refine And.intro ?_ ?_ | intro
  all_goals refine leaf ?_
  refine callE ((within_prog c.quota 1 200 (by decide))) ?_
  refine walk1 (k := ?_)
  repeat' first | refine And.intro ?_ ?_ | intro
  all_goals refine leaf ?_
  refine callE ((within_prog c.segment 500 20000 (by decide))) ?_
  refine walk1 (k := ?_)
  repeat' first | refine And.intro ?_ ?_ | intro
  all_goals refine leaf ?_
  refine callE ((within_prog c.disk 1000 60000 (by decide))) ?_
  refine walk1 (k := ?_)
  repeat' first | refine And.intro ?_ ?_ | intro
  all_goals refine leaf ?_
  exact doneR rfl
theorem rbring_prog (n lo hi : Int) : CallsR Tryd.prog nref06_Bring [.int .i64 n, .int .i64 lo, .int .i64 hi] [] fun v => v = .int .i64 (brI n lo hi) := by
  unfold brI
  refine sref06_Bring fun H hh => ?_
  dsimp only [cref06_Bring]
  refine walk (k := ?_)
  repeat' first | refine And.intro ?_ ?_ | intro
  all_goals refine leaf ?_
  · exact doneR (by rw [if_pos (by omega)])
  · exact doneR (by rw [if_neg (by omega), if_pos (by omega)])
  · exact doneR (by rw [if_neg (by omega), if_neg (by omega)])
theorem rtime_prog (n : Int) : CallsR Tryd.prog nref06_Time [.int .i64 n] [] fun v => v = .int .i64 (timI n) := by
  refine sref06_Time fun H hh => ?_
  dsimp only [cref06_Time]
  refine walk (k := ?_)
  repeat' first | refine And.intro ?_ ?_ | intro
  all_goals refine leaf ?_
  refine callE ((rbring_prog n 0 1099511627776)) ?_
  refine walk1 (k := ?_)
  repeat' first | refine And.intro ?_ ?_ | intro
  all_goals refine leaf ?_
  exact doneR rfl
end Go.Proofs.YtelgcaacaolgfaaDoor
