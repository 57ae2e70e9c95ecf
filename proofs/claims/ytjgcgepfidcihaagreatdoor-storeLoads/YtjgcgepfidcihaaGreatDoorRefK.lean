/-
  Texts joined: May an entry be? The document's: one that doesn't run. May an entry be? The document's: one that may not be.
-/
import Derived.Test.YtjgcgepfidcihaaGreatDoorRefH
namespace Go.Proofs.YtjgcgepfidcihaaGreatDoor
open Go Go.CM
set_option maxRecDepth 100000
set_option maxHeartbeats 4000000

theorem rmayC_prog (e : Entry) (hk : e.key.length ≤ 1000000) (hH : mayH e) (s1 : e.state ≠ 1) : CallsR Tryz.prog nref14_May [.agg e.enc] [] fun v => v = .bool (decide (mayP e)) := by
  have h1 := rnamed_prog e hk
  have hme := rmethod_prog e.method
  have hpa := rpath_prog e.path
  unfold Entry.enc at h1 ⊢
  have hm : decide (mayP e) = decide (mayT e) := by
    rw [decide_eq_decide]
    exact ⟨fun h => h.2, fun h => ⟨hH, h⟩⟩
  rw [hm]
  clear hm
  obtain ⟨c1, c2, c3, c4, c5, c6, c7⟩ := hH
  rw [decide_eq_true c1] at h1
  refine sref14_May fun H hh => ?_
  dsimp only [cref14_May]
  refine walk1 (k := ?_)
  repeat' first | refine And.intro ?_ ?_ | intro
  all_goals refine leaf ?_
  refine callE (h1) ?_
  refine walk (k := ?_)
  repeat' first | refine And.intro ?_ ?_ | intro
  all_goals refine leaf ?_
  all_goals try
    exfalso
    omega
  all_goals refine doneR (congrArg V.bool ?_)
  all_goals first
    | (refine (decide_eq_false ?_).symm
       rintro (h | ⟨p1, p2, p3⟩ | ⟨p1, p2, p3⟩)
       · omega
       all_goals
         obtain ⟨m1, m2⟩ := List.append_eq_nil_iff.1 p2.2
         obtain ⟨m3, m4⟩ := List.append_eq_nil_iff.1 m1
         first
           | omega
           | exact absurd m3 (by assumption)
           | exact absurd m4 (by assumption)
           | exact absurd m2 (by assumption))
    | (rw [decide_eq_decide]
       exact ⟨fun h => .inr (.inl ⟨by assumption, ⟨by omega, by rw [‹e.method = []›, ‹e.path = []›, ‹e.body = []›]; rfl⟩, by omega, by omega⟩), fun h => h.elim (fun h => by omega) fun h => h.elim (fun h => by omega) fun h => by omega⟩)
    | (rw [Bool.eq_iff_iff, beq_iff_eq, decide_eq_true_iff]
       exact ⟨fun h => .inr (.inr ⟨by assumption, ⟨by omega, by rw [‹e.method = []›, ‹e.path = []›, ‹e.body = []›]; rfl⟩, by omega, h⟩), fun h => h.elim (fun h => by omega) fun h => h.elim (fun h => by omega) fun h => h.2.2.2⟩)
end Go.Proofs.YtjgcgepfidcihaaGreatDoor

namespace Go.Proofs.YtjgcgepfidcihaaGreatDoor
open Go Go.CM
set_option maxRecDepth 100000
set_option maxHeartbeats 4000000

theorem rmayD_prog (e : Entry) (hk : e.key.length ≤ 1000000) (hH : ¬ mayH e) : CallsR Tryz.prog nref14_May [.agg e.enc] [] fun v => v = .bool (decide (mayP e)) := by
  have h1 := rnamed_prog e hk
  have hme := rmethod_prog e.method
  have hpa := rpath_prog e.path
  unfold Entry.enc at h1 ⊢
  have hF : ¬ mayP e := fun h => hH h.1
  rw [decide_eq_false hF]
  by_cases c1 : namP e
  · have hA : ¬ ((1 ≤ e.epoch ∧ e.epoch ≤ 1073741824) ∧ (1 ≤ e.token ∧ e.token ≤ 1073741824) ∧ (0 ≤ e.point ∧ e.point ≤ 5) ∧ e.print.length = 32 ∧ (0 ≤ e.lease ∧ e.lease ≤ 1099511627776) ∧ (0 ≤ e.expiry ∧ e.expiry ≤ 1099511627776)) := fun h => hH ⟨c1, h⟩
    rw [decide_eq_true c1] at h1
    refine sref14_May fun H hh => ?_
    dsimp only [cref14_May]
    refine walk1 (k := ?_)
    repeat' first | refine And.intro ?_ ?_ | intro
    all_goals refine leaf ?_
    refine callE (h1) ?_
    refine walk (k := ?_)
    repeat' first | refine And.intro ?_ ?_ | intro
    all_goals refine leaf ?_
    all_goals first
      | exact doneR rfl
      | (exfalso; omega)
  · rw [decide_eq_false c1] at h1
    refine sref14_May fun H hh => ?_
    dsimp only [cref14_May]
    refine walk1 (k := ?_)
    repeat' first | refine And.intro ?_ ?_ | intro
    all_goals refine leaf ?_
    refine callE (h1) ?_
    refine walk1 (k := ?_)
    repeat' first | refine And.intro ?_ ?_ | intro
    all_goals refine leaf ?_
    exact doneR rfl
end Go.Proofs.YtjgcgepfidcihaaGreatDoor
