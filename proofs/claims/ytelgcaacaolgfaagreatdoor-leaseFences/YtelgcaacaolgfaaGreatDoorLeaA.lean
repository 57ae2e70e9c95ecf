/-
  Who holds an entry, and whether it counts: the code.
-/
import Derived.Test.YtelgcaacaolgfaaGreatDoorPakA
namespace Go.Proofs.YtelgcaacaolgfaaGreatDoor
open Go Go.CM
set_option maxRecDepth 100000
set_option maxHeartbeats 4000000

abbrev heldP (e : Entry) (now : Int) : Prop := e.state = 1 ∧ timI now < e.lease
abbrev expP (e : Entry) (now : Int) : Prop := e.expiry ≤ timI now ∧ ¬ heldP e now
def verI (e : Entry) (print : List UInt8) (now : Int) : Int := if e.state < 1 ∨ 2 < e.state ∨ expP e now then 1 else if e.print ≠ print then 4 else if e.state = 2 then 5 else if heldP e now then 3 else 2
theorem held_prog (e : Entry) (now : Int) : CallsR Tryz.prog nlease_Held [.agg e.enc, .int .i64 now] [] fun v => v = .bool (decide (heldP e now)) := by
  unfold Entry.enc
  refine slease_Held fun H hh => ?_
  dsimp only [clease_Held]
  refine walk (k := ?_)
  repeat' first | refine And.intro ?_ ?_ | intro
  all_goals refine leaf ?_
  · skip
    refine callE ((time_prog now)) ?_
    refine walk (k := ?_)
    repeat' first | refine And.intro ?_ ?_ | intro
    all_goals refine leaf ?_
    refine doneR (congrArg V.bool ?_)
    rw [decide_eq_decide]; omega
  · exact doneR (congrArg V.bool (decide_eq_false (by omega)).symm)
theorem expired_prog (e : Entry) (now : Int) : CallsR Tryz.prog nlease_Expired [.agg e.enc, .int .i64 now] [] fun v => v = .bool (decide (expP e now)) := by
  have hh0 := held_prog e now
  unfold Entry.enc at hh0 ⊢
  refine slease_Expired fun H hh => ?_
  dsimp only [clease_Expired]
  refine walk (k := ?_)
  repeat' first | refine And.intro ?_ ?_ | intro
  all_goals refine leaf ?_
  refine callE ((time_prog now)) ?_
  refine walk (k := ?_)
  repeat' first | refine And.intro ?_ ?_ | intro
  all_goals refine leaf ?_
  · skip
    refine callE (hh0) ?_
    refine walk (k := ?_)
    repeat' first | refine And.intro ?_ ?_ | intro
    all_goals refine leaf ?_
    refine doneR (congrArg V.bool ?_)
    rw [← decide_not, decide_eq_decide]
    omega
  · exact doneR (congrArg V.bool (decide_eq_false (by omega)).symm)
theorem verdict_prog (e : Entry) (print : List UInt8) (now : Int) : CallsR Tryz.prog nlease_Verdict [.agg e.enc, .str print, .int .i64 now] [] fun v => v = .int .i64 (verI e print now) := by
  have hh0 := held_prog e now
  have hh1 := expired_prog e now
  unfold Entry.enc at hh0 hh1 ⊢
  unfold verI
  refine slease_Verdict fun H hh => ?_
  dsimp only [clease_Verdict]
  refine walk (k := ?_)
  repeat' first | refine And.intro ?_ ?_ | intro
  all_goals refine leaf ?_
  rotate_left 3
  · exact doneR (congrArg (V.int .i64) (if_pos (show e.state < 1 ∨ 2 < e.state ∨ expP e now by omega)).symm)
  rotate_left 1
  focus
    exfalso
    omega
  all_goals
    refine callE (hh1) ?_
    refine walk (k := ?_)
    repeat' first | refine And.intro ?_ ?_ | intro
    all_goals refine leaf ?_
    rotate_left 1
    all_goals try
      refine callE (hh0) ?_
      refine walk (k := ?_)
      repeat' first | refine And.intro ?_ ?_ | intro
      all_goals refine leaf ?_
    all_goals refine doneR (congrArg (V.int .i64) ?_)
    all_goals repeat' split
    all_goals first
      | rfl
      | (exfalso; first | omega | (simp_all; done) | (simp_all; omega))
end Go.Proofs.YtelgcaacaolgfaaGreatDoor
