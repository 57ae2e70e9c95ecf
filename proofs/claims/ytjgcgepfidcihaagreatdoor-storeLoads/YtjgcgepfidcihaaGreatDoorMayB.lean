/-
  May an entry be? The code, in all.
-/
import Derived.Test.YtjgcgepfidcihaaGreatDoorMayA
namespace Go.Proofs.YtjgcgepfidcihaaGreatDoor
open Go Go.CM
set_option maxRecDepth 100000
set_option maxHeartbeats 4000000

theorem may_prog (e : Entry) (hl : e.method.length + e.path.length + e.body.length ≤ 9000000000000000000) : CallsR Tryz.prog nentry_May [.agg e.enc] [] fun v => v = .bool (decide (mayP e)) := by
  have h1 := named_prog e
  have h2 := enumber_prog e.epoch
  have h3 := enumber_prog e.token
  have h4 := etime_prog e.lease
  have h5 := etime_prog e.expiry
  have h6 := asked_prog e
  have h7 := answered_prog e
  unfold Entry.enc at h1 h6 h7 ⊢
  refine sentry_May fun H hh => ?_
  dsimp only [centry_May]
  refine walk1 (k := ?_)
  repeat' first | refine And.intro ?_ ?_ | intro
  all_goals refine leaf ?_
  rename_i o _ hh
  by_cases c1 : namP e
  · rw [decide_eq_true c1] at h1
    refine callE (h1) ?_
    refine walk1 (k := ?_)
    repeat' first | refine And.intro ?_ ?_ | intro
    all_goals refine leaf ?_
    by_cases c2 : 1 ≤ e.epoch ∧ e.epoch ≤ 1073741824
    · rw [decide_eq_true c2] at h2
      refine callE (h2) ?_
      refine walk1 (k := ?_)
      repeat' first | refine And.intro ?_ ?_ | intro
      all_goals refine leaf ?_
      by_cases c3 : 1 ≤ e.token ∧ e.token ≤ 1073741824
      · rw [decide_eq_true c3] at h3
        refine callE (h3) ?_
        refine walk (k := ?_)
        repeat' first | refine And.intro ?_ ?_ | intro
        all_goals refine leaf ?_
        · exact doneR (congrArg V.bool (decide_eq_false fun h => by have := h.1.2.2.2.1; omega).symm)
        · exact doneR (congrArg V.bool (decide_eq_false fun h => by have := h.1.2.2.2.1; omega).symm)
        · exact doneR (congrArg V.bool (decide_eq_false fun h => by have := h.1.2.2.2.2.1; omega).symm)
        rename_i q1 q2 q3
        by_cases c4 : 0 ≤ e.lease ∧ e.lease ≤ 1099511627776
        · rw [decide_eq_true c4] at h4
          refine callE (h4) ?_
          refine walk1 (k := ?_)
          repeat' first | refine And.intro ?_ ?_ | intro
          all_goals refine leaf ?_
          by_cases c5 : 0 ≤ e.expiry ∧ e.expiry ≤ 1099511627776
          · rw [decide_eq_true c5] at h5
            have hm : decide (mayP e) = decide (mayT e) := by
              rw [decide_eq_decide]
              exact ⟨fun h => h.2, fun h => ⟨⟨c1, c2, c3, by omega, by omega, c4, c5⟩, h⟩⟩
            rw [hm]
            clear h1 h2 h3 h4 hm
            refine callE (h5) ?_
            refine walk (k := ?_)
            repeat' first | refine And.intro ?_ ?_ | intro
            all_goals refine leaf ?_
            all_goals try
              refine wps_rd (v := .str (e.method ++ e.path)) (catV (by omega)) ?_
              refine walk (k := ?_)
              repeat' first | refine And.intro ?_ ?_ | intro
              all_goals refine leaf ?_
              refine wps_rd (v := .str (e.method ++ e.path ++ e.body)) (catV (by rw [List.length_append]; omega)) ?_
              refine walk (k := ?_)
              repeat' first | refine And.intro ?_ ?_ | intro
              all_goals refine leaf ?_
            all_goals try
              refine callE (h6) ?_
              refine walk (k := ?_)
              repeat' first | refine And.intro ?_ ?_ | intro
              all_goals refine leaf ?_
            all_goals try
              refine callE (h7) ?_
              refine walk (k := ?_)
              repeat' first | refine And.intro ?_ ?_ | intro
              all_goals refine leaf ?_
            all_goals refine doneR (congrArg V.bool ?_)
            all_goals first
              | (refine (decide_eq_false ?_).symm
                 rintro (⟨p1, p2, p3⟩ | ⟨p1, p2, p3⟩ | ⟨p1, p2, p3⟩)
                 all_goals first
                   | omega
                   | exact absurd p2.2 (by assumption)
                   | exact absurd p3.2 (by assumption))
              | (rw [decide_eq_decide]
                 first
                   | exact ⟨fun h => .inl ⟨by assumption, ⟨by omega, by assumption⟩, h⟩, fun h => h.elim (fun h => h.2.2) fun h => h.elim (fun h => by omega) fun h => by omega⟩
                   | exact ⟨fun h => .inr (.inl ⟨by assumption, ⟨by omega, by assumption⟩, h⟩), fun h => h.elim (fun h => by omega) fun h => h.elim (fun h => h.2.2) fun h => by omega⟩)
              | (have hs3 : e.state = 3 := by assumption
                 rw [Bool.eq_iff_iff, decide_eq_true_iff, beq_iff_eq]
                 exact ⟨fun h => .inr (.inr ⟨hs3, ⟨by omega, by assumption⟩, by omega, h⟩), fun h => h.elim (fun h => by omega) fun h => h.elim (fun h => by omega) fun h => h.2.2.2⟩)
              | trace_state
          · rw [decide_eq_false c5] at h5
            refine callE (h5) ?_
            refine walk1 (k := ?_)
            repeat' first | refine And.intro ?_ ?_ | intro
            all_goals refine leaf ?_
            exact doneR (congrArg V.bool (decide_eq_false fun h => c5 h.1.2.2.2.2.2.2).symm)
        · rw [decide_eq_false c4] at h4
          refine callE (h4) ?_
          refine walk1 (k := ?_)
          repeat' first | refine And.intro ?_ ?_ | intro
          all_goals refine leaf ?_
          exact doneR (congrArg V.bool (decide_eq_false fun h => c4 h.1.2.2.2.2.2.1).symm)
      · rw [decide_eq_false c3] at h3
        refine callE (h3) ?_
        refine walk1 (k := ?_)
        repeat' first | refine And.intro ?_ ?_ | intro
        all_goals refine leaf ?_
        exact doneR (congrArg V.bool (decide_eq_false fun h => c3 h.1.2.2.1).symm)
    · rw [decide_eq_false c2] at h2
      refine callE (h2) ?_
      refine walk1 (k := ?_)
      repeat' first | refine And.intro ?_ ?_ | intro
      all_goals refine leaf ?_
      exact doneR (congrArg V.bool (decide_eq_false fun h => c2 h.1.2.1).symm)
  · rw [decide_eq_false c1] at h1
    refine callE (h1) ?_
    refine walk1 (k := ?_)
    repeat' first | refine And.intro ?_ ?_ | intro
    all_goals refine leaf ?_
    exact doneR (congrArg V.bool (decide_eq_false fun h => c1 h.1.1).symm)
end Go.Proofs.YtjgcgepfidcihaaGreatDoor
