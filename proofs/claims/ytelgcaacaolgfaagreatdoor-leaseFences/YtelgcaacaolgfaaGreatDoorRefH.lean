/-
  May an entry be? The document's: its name.
-/
import Derived.Test.YtelgcaacaolgfaaGreatDoorRefC
namespace Go.Proofs.YtelgcaacaolgfaaGreatDoor
open Go Go.CM
set_option maxRecDepth 100000
set_option maxHeartbeats 4000000

theorem rnamed_prog (e : Entry) (hk : e.key.length ≤ 1000000) : CallsR Tryz.prog nref14_named [.agg e.enc] [] fun v => v = .bool (decide (namP e)) := by
  unfold Entry.enc
  have hk := rkey_prog e.key hk
  refine sref14_named fun H hh => ?_
  dsimp only [cref14_named]
  refine walk (k := ?_)
  repeat' first | refine And.intro ?_ ?_ | intro
  all_goals refine leaf ?_
  · skip
    refine callE (hk) ?_
    refine walk1 (k := ?_)
    repeat' first | refine And.intro ?_ ?_ | intro
    all_goals refine leaf ?_
    refine doneR (congrArg V.bool ?_)
    rw [decide_eq_decide]
    exact ⟨fun h => ⟨by omega, by omega, h⟩, fun h => h.2.2⟩
  · exact doneR (congrArg V.bool (decide_eq_false (by rintro ⟨h1, h2, _⟩; omega)).symm)
  · exact doneR (congrArg V.bool (decide_eq_false (by rintro ⟨h1, h2, _⟩; omega)).symm)
end Go.Proofs.YtelgcaacaolgfaaGreatDoor
