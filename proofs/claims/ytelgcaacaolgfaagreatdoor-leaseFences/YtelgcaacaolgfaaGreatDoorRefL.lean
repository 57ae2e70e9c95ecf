/-
  May an entry be? The document's: one that may not be.
-/
import Derived.Test.YtelgcaacaolgfaaGreatDoorRefH
namespace Go.Proofs.YtelgcaacaolgfaaGreatDoor
open Go Go.CM
set_option maxRecDepth 100000
set_option maxHeartbeats 4000000

theorem rmayD_prog (e : Entry) (hk : e.key.length ≤ 1000000) (hH : ¬ mayH e) : CallsR Tryz.prog nref14_May [.agg e.enc] [] fun v => v = .bool (decide (mayP e)) := by
  have h1 := rnamed_prog e hk
  have hme := rmethod_prog e.method
  have hpa := rpath_prog e.path
  unfold Entry.enc at h1 ⊢
  have hF : ¬ mayP e := fun h => hH h.1
  rw [decide_eq_false hF]
  by_cases c1 : namP e
  · have hA : ¬ ((1 ≤ e.epoch ∧ e.epoch ≤ 1073741824) ∧ (1 ≤ e.token ∧ e.token ≤ 1073741824) ∧ (0 ≤ e.point ∧ e.point ≤ 5) ∧ e.print.length = 32 ∧ (0 ≤ e.lease ∧ e.lease ≤ 1099511627776) ∧ (0 ≤ e.expiry ∧ e.expiry ≤ 1099511627776)) := fun h => hH ⟨c1, h⟩
    rw [decide_eq_true c1] at h1
    refine sref14_May fun H hh => ?_
    dsimp only [cref14_May]
    refine walk1 (k := ?_)
    repeat' first | refine And.intro ?_ ?_ | intro
    all_goals refine leaf ?_
    refine callE (h1) ?_
    refine walk (k := ?_)
    repeat' first | refine And.intro ?_ ?_ | intro
    all_goals refine leaf ?_
    all_goals first
      | exact doneR rfl
      | (exfalso; omega)
  · rw [decide_eq_false c1] at h1
    refine sref14_May fun H hh => ?_
    dsimp only [cref14_May]
    refine walk1 (k := ?_)
    repeat' first | refine And.intro ?_ ?_ | intro
    all_goals refine leaf ?_
    refine callE (h1) ?_
    refine walk1 (k := ?_)
    repeat' first | refine And.intro ?_ ?_ | intro
    all_goals refine leaf ?_
    exact doneR rfl
end Go.Proofs.YtelgcaacaolgfaaGreatDoor
