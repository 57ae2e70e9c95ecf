/-
  May an entry be? The document's: one that runs, without its forms.
-/
import Derived.Test.YtjgcgepfidcihaaGreatDoorRefH
namespace Go.Proofs.YtjgcgepfidcihaaGreatDoor
open Go Go.CM
set_option maxRecDepth 100000
set_option maxHeartbeats 4000000

theorem rmayB_prog (e : Entry) (hk : e.key.length ≤ 1000000) (hH : mayH e) (s1 : e.state = 1) {m p : List UInt8} {a b : Bool} (hv : metV e.method = .tup [.str m, .bool a]) (hw : pathV e.path = .tup [.str p, .bool b]) (hab : (a && b) = false) (hF : ¬ mayT e) : CallsR Tryz.prog nref14_May [.agg e.enc] [] fun v => v = .bool (decide (mayP e)) := by
  have h1 := rnamed_prog e hk
  have hme := rmethod_prog e.method
  have hpa := rpath_prog e.path
  unfold Entry.enc at h1 ⊢
  have hm : decide (mayP e) = decide (mayT e) := by
    rw [decide_eq_decide]
    exact ⟨fun h => h.2, fun h => ⟨hH, h⟩⟩
  rw [hm]
  clear hm
  obtain ⟨c1, c2, c3, c4, c5, c6, c7⟩ := hH
  rw [decide_eq_true c1] at h1
  rw [decide_eq_false hF]
  rw [hv] at hme
  rw [hw] at hpa
  have hc : a = false ∨ (a = true ∧ b = false) := by
    cases a <;> cases b <;> simp_all
  refine sref14_May fun H hh => ?_
  dsimp only [cref14_May]
  refine walk1 (k := ?_)
  repeat' first | refine And.intro ?_ ?_ | intro
  all_goals refine leaf ?_
  refine callE (h1) ?_
  refine walk (k := ?_)
  repeat' first | refine And.intro ?_ ?_ | intro
  all_goals refine leaf ?_
  all_goals try
    exfalso
    omega
  rcases hc with rfl | ⟨rfl, rfl⟩
  all_goals
    refine callE (hme) ?_
    refine walk1 (k := ?_)
    repeat' first | refine And.intro ?_ ?_ | intro
    all_goals refine leaf ?_
    refine callE (hpa) ?_
    refine walk1 (k := ?_)
    repeat' first | refine And.intro ?_ ?_ | intro
    all_goals refine leaf ?_
    exact doneR rfl
end Go.Proofs.YtjgcgepfidcihaaGreatDoor
