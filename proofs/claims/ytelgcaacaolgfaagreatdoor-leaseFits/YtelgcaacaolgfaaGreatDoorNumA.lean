/-
  Texts joined: Times and numbers, brought to what may be. Who holds an entry, and whether it counts: the code.
-/
import Derived.Test.YtelgcaacaolgfaaGreatDoorPakA
import Derived.Test.YtelgcaacaolgfaaGreatDoorEntD
namespace Go.Proofs.YtelgcaacaolgfaaGreatDoor
open Go Go.CM
set_option maxRecDepth 100000
set_option maxHeartbeats 4000000

def brI (n lo hi : Int) : Int := if n < lo then lo else if hi < n then hi else n
abbrev timI (n : Int) : Int := brI n 0 1099511627776
abbrev numI (n : Int) : Int := brI n 0 1073741824
def plusI (t s : Int) : Int := timI (timI t + numI s)
theorem brI_ge {n lo hi : Int} (h : lo ≤ hi) : lo ≤ brI n lo hi ∧ brI n lo hi ≤ hi := by
  unfold brI
  split
  · omega
  · split <;> omega
theorem within_prog (n lo hi : Int) (h : lo ≤ hi) : CallsR Tryz.prog nnum_within [.int .i64 n, .int .i64 lo, .int .i64 hi] [] fun v => v = .int .i64 (brI n lo hi) := by
  refine snum_within fun H hh => ?_
  dsimp only [cnum_within]
  refine walk (k := ?_)
  repeat' first | refine And.intro ?_ ?_ | intro
  all_goals refine leaf ?_
  refine doneR (congrArg (V.int .i64) ?_)
  unfold brI
  repeat' split
  all_goals omega
theorem time_prog (n : Int) : CallsR Tryz.prog nnum_Time [.int .i64 n] [] fun v => v = .int .i64 (timI n) := by
  refine snum_Time fun H hh => ?_
  dsimp only [cnum_Time]
  refine walk (k := ?_)
  repeat' first | refine And.intro ?_ ?_ | intro
  all_goals refine leaf ?_
  refine callE ((within_prog n 0 1099511627776 (by decide))) ?_
  refine walk1 (k := ?_)
  repeat' first | refine And.intro ?_ ?_ | intro
  all_goals refine leaf ?_
  exact doneR rfl
theorem number_prog (n : Int) : CallsR Tryz.prog nnum_number [.int .i64 n] [] fun v => v = .int .i64 (numI n) := by
  refine snum_number fun H hh => ?_
  dsimp only [cnum_number]
  refine walk (k := ?_)
  repeat' first | refine And.intro ?_ ?_ | intro
  all_goals refine leaf ?_
  refine callE ((within_prog n 0 1073741824 (by decide))) ?_
  refine walk1 (k := ?_)
  repeat' first | refine And.intro ?_ ?_ | intro
  all_goals refine leaf ?_
  exact doneR rfl
theorem plus_prog (t s : Int) : CallsR Tryz.prog nnum_Plus [.int .i64 t, .int .i64 s] [] fun v => v = .int .i64 (plusI t s) := by
  have h1 : 0 ≤ timI t ∧ timI t ≤ 1099511627776 := brI_ge (by decide)
  have h2 : 0 ≤ numI s ∧ numI s ≤ 1073741824 := brI_ge (by decide)
  refine snum_Plus fun H hh => ?_
  dsimp only [cnum_Plus]
  refine walk (k := ?_)
  repeat' first | refine And.intro ?_ ?_ | intro
  all_goals refine leaf ?_
  refine callE ((time_prog t)) ?_
  refine walk1 (k := ?_)
  repeat' first | refine And.intro ?_ ?_ | intro
  all_goals refine leaf ?_
  refine callE ((number_prog s)) ?_
  refine walk1 (k := ?_)
  repeat' first | refine And.intro ?_ ?_ | intro
  all_goals refine leaf ?_
  refine callE ((time_prog (timI t + numI s))) ?_
  refine walk1 (k := ?_)
  repeat' first | refine And.intro ?_ ?_ | intro
  all_goals refine leaf ?_
  exact doneR rfl
theorem next_prog (n : Int) : CallsR Tryz.prog nnum_Next [.int .i64 n] [] fun v => v = if n < 0 then .tup [.int .i64 0, .int .i64 1] else if 1073741824 ≤ n then .tup [.int .i64 0, .int .i64 10] else .tup [.int .i64 (n + 1), .int .i64 0] := by
  refine snum_Next fun H hh => ?_
  dsimp only [cnum_Next]
  refine walk (k := ?_)
  repeat' first | refine And.intro ?_ ?_ | intro
  all_goals refine leaf ?_
  · exact doneR (if_pos (by omega)).symm
  · exact doneR (by rw [if_neg (by omega), if_pos (by omega)])
  · exact doneR (by rw [if_neg (by omega), if_neg (by omega)])
structure Conf where
  workers : Int
  lease : Int
  ttl : Int
  quota : Int
  segment : Int
  disk : Int
  deriving Inhabited, DecidableEq
def Conf.enc (c : Conf) : List V := [.int .i64 c.workers, .int .i64 c.lease, .int .i64 c.ttl, .int .i64 c.quota, .int .i64 c.segment, .int .i64 c.disk]
def Conf.br (c : Conf) : Conf := ⟨brI c.workers 1 4, brI c.lease 1 1073741824, brI c.ttl 1 1073741824, brI c.quota 1 200, brI c.segment 500 20000, brI c.disk 1000 60000⟩
theorem config_prog (c : Conf) : CallsR Tryz.prog nnum_Config [.agg c.enc] [] fun v => v = .agg c.br.enc := by
  unfold Conf.enc Conf.br
  refine snum_Config fun H hh => ?_
  dsimp only [cnum_Config]
  refine walk1 (k := ?_)
  repeat' first | refine And.intro ?_ ?_ | intro
  all_goals refine leaf ?_
  refine callE ((within_prog c.workers 1 4 (by decide))) ?_
  refine walk1 (k := ?_)
  repeat' first | refine And.intro ?_ ?_ | intro
  all_goals refine leaf ?_
  refine callE ((within_prog c.lease 1 1073741824 (by decide))) ?_
  refine walk1 (k := ?_)
  repeat' first | refine And.intro ?_ ?_ | intro
  all_goals refine leaf ?_
  refine callE ((within_prog c.ttl 1 1073741824 (by decide))) ?_
  refine walk1 (k := ?_)
  repeat' first | refine And.intro ?_ ?_ | intro
  all_goals refine leaf ?_
  refine callE ((within_prog c.quota 1 200 (by decide))) ?_
  refine walk1 (k := ?_)
  repeat' first | refine And.intro ?_ ?_ | intro
  all_goals refine leaf ?_
  refine callE ((within_prog c.segment 500 20000 (by decide))) ?_
  refine walk1 (k := ?_)
  repeat' first | refine And.intro ?_ ?_ | intro
  all_goals refine leaf ?_
  refine callE ((within_prog c.disk 1000 60000 (by decide))) ?_
  refine walk1 (k := ?_)
  repeat' first | refine And.intro ?_ ?_ | intro
  all_goals refine leaf ?_
  exact doneR rfl
end Go.Proofs.YtelgcaacaolgfaaGreatDoor

namespace Go.Proofs.YtelgcaacaolgfaaGreatDoor
open Go Go.CM
set_option maxRecDepth 100000
set_option maxHeartbeats 4000000

abbrev heldP (e : Entry) (now : Int) : Prop := e.state = 1 ∧ timI now < e.lease
abbrev expP (e : Entry) (now : Int) : Prop := e.expiry ≤ timI now ∧ ¬ heldP e now
def verI (e : Entry) (print : List UInt8) (now : Int) : Int := if e.state < 1 ∨ 2 < e.state ∨ expP e now then 1 else if e.print ≠ print then 4 else if e.state = 2 then 5 else if heldP e now then 3 else 2
theorem held_prog (e : Entry) (now : Int) : CallsR Tryz.prog nlease_Held [.agg e.enc, .int .i64 now] [] fun v => v = .bool (decide (heldP e now)) := by
  unfold Entry.enc
  refine slease_Held fun H hh => ?_
  dsimp only [clease_Held]
  refine walk (k := ?_)
  repeat' first | refine And.intro ?_ ?_ | intro
  all_goals refine leaf ?_
  · skip
    refine callE ((time_prog now)) ?_
    refine walk (k := ?_)
    repeat' first | refine And.intro ?_ ?_ | intro
    all_goals refine leaf ?_
    refine doneR (congrArg V.bool ?_)
    rw [decide_eq_decide]; omega
  · exact doneR (congrArg V.bool (decide_eq_false (by omega)).symm)
theorem expired_prog (e : Entry) (now : Int) : CallsR Tryz.prog nlease_Expired [.agg e.enc, .int .i64 now] [] fun v => v = .bool (decide (expP e now)) := by
  have hh0 := held_prog e now
  unfold Entry.enc at hh0 ⊢
  refine slease_Expired fun H hh => ?_
  dsimp only [clease_Expired]
  refine walk (k := ?_)
  repeat' first | refine And.intro ?_ ?_ | intro
  all_goals refine leaf ?_
  refine callE ((time_prog now)) ?_
  refine walk (k := ?_)
  repeat' first | refine And.intro ?_ ?_ | intro
  all_goals refine leaf ?_
  · skip
    refine callE (hh0) ?_
    refine walk (k := ?_)
    repeat' first | refine And.intro ?_ ?_ | intro
    all_goals refine leaf ?_
    refine doneR (congrArg V.bool ?_)
    rw [← decide_not, decide_eq_decide]
    omega
  · exact doneR (congrArg V.bool (decide_eq_false (by omega)).symm)
theorem verdict_prog (e : Entry) (print : List UInt8) (now : Int) : CallsR Tryz.prog nlease_Verdict [.agg e.enc, .str print, .int .i64 now] [] fun v => v = .int .i64 (verI e print now) := by
  have hh0 := held_prog e now
  have hh1 := expired_prog e now
  unfold Entry.enc at hh0 hh1 ⊢
  unfold verI
  refine slease_Verdict fun H hh => ?_
  dsimp only [clease_Verdict]
  refine walk (k := ?_)
  repeat' first | refine And.intro ?_ ?_ | intro
  all_goals refine leaf ?_
  rotate_left 3
  · exact doneR (congrArg (V.int .i64) (if_pos (show e.state < 1 ∨ 2 < e.state ∨ expP e now by omega)).symm)
  rotate_left 1
  focus
    exfalso
    omega
  all_goals
    refine callE (hh1) ?_
    refine walk (k := ?_)
    repeat' first | refine And.intro ?_ ?_ | intro
    all_goals refine leaf ?_
    rotate_left 1
    all_goals try
      refine callE (hh0) ?_
      refine walk (k := ?_)
      repeat' first | refine And.intro ?_ ?_ | intro
      all_goals refine leaf ?_
    all_goals refine doneR (congrArg (V.int .i64) ?_)
    all_goals repeat' split
    all_goals first
      | rfl
      | (exfalso; first | omega | (simp_all; done) | (simp_all; omega))
end Go.Proofs.YtelgcaacaolgfaaGreatDoor
