/-
  The names of files: the law.
-/
import Derived.Test.YtdpnaneedjoboaaGreatDoorFilB
namespace Go.Proofs.YtdpnaneedjoboaaGreatDoor
open Go Go.CM
set_option maxRecDepth 100000
set_option maxHeartbeats 4000000

theorem fawake_prog (e : Nat) : CallsR Tryz.prog nlaw08_awake [] (LO e) fun v => v = .bool true := by
  have hw : rightW [108, 111, 103] = true := by decide
  have hd : Lib.decDigits 12 = [49, 50] := by rw [Lib.decDigits_two (by decide) (by decide)]; decide
  have hn : IsNum [108, 111, 103] [108, 111, 103, 46, 49, 50] 12 := ⟨hw, by decide, by decide, by show [108, 111, 103] ++ 46 :: Lib.decDigits 12 = _; rw [hd]; rfl⟩
  have h1 := fnumber_prog [108, 111, 103] [108, 111, 103, 46, 49, 50] (by decide) e
  rw [numOf_is hn] at h1
  have h2 := fname_prog [108, 111, 103] 12 e
  rw [hn.name.1] at h2
  refine slaw08_awake fun H hh => ?_
  dsimp only [claw08_awake]
  refine walk1 (k := ?_)
  repeat' first | refine And.intro ?_ ?_ | intro
  all_goals refine leaf ?_
  refine callE (h1) ?_
  refine walk1 (k := ?_)
  repeat' first | refine And.intro ?_ ?_ | intro
  all_goals refine leaf ?_
  refine callE (h2) ?_
  refine walk1 (k := ?_)
  repeat' first | refine And.intro ?_ ?_ | intro
  all_goals refine leaf ?_
  exact doneR rfl
end Go.Proofs.YtdpnaneedjoboaaGreatDoor
