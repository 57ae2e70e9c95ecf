/-
  May an entry be? The code.
-/
import Derived.Test.YtjgcgepfidcihaaGreatDoorEntD
import Derived.Test.YtjgcgepfidcihaaGreatDoorPathC
namespace Go.Proofs.YtjgcgepfidcihaaGreatDoor
open Go Go.CM
set_option maxRecDepth 100000
set_option maxHeartbeats 4000000

abbrev keyOK (k : List UInt8) : Prop := keyP k.length ((sgs k 0).map (·.1))
abbrev namP (e : Entry) : Prop := 0 ≤ e.tenant ∧ e.tenant < 4 ∧ keyOK e.key
theorem named_prog (e : Entry) : CallsR Tryz.prog nentry_named [.agg e.enc] [] fun v => v = .bool (decide (namP e)) := by
  unfold Entry.enc
  have hk := keyR e.key
  refine sentry_named fun H hh => ?_
  dsimp only [centry_named]
  refine walk (k := ?_)
  repeat' first | refine And.intro ?_ ?_ | intro
  all_goals refine leaf ?_
  · skip
    refine callE (hk) ?_
    refine walk1 (k := ?_)
    repeat' first | refine And.intro ?_ ?_ | intro
    all_goals refine leaf ?_
    refine doneR (congrArg V.bool ?_)
    rw [decide_eq_decide]
    exact ⟨fun h => ⟨by omega, by omega, h⟩, fun h => h.2.2⟩
  · exact doneR (congrArg V.bool (decide_eq_false (by rintro ⟨h1, h2, _⟩; omega)).symm)
  · exact doneR (congrArg V.bool (decide_eq_false (by rintro ⟨h1, h2, _⟩; omega)).symm)
theorem enumber_prog (n : Int) : CallsR Tryz.prog nentry_number [.int .i64 n] [] fun v => v = .bool (decide (1 ≤ n ∧ n ≤ 1073741824)) := by
  refine sentry_number fun H hh => ?_
  dsimp only [centry_number]
  refine walk (k := ?_)
  repeat' first | refine And.intro ?_ ?_ | intro
  all_goals refine leaf ?_
  all_goals refine doneR (congrArg V.bool ?_)
  all_goals rw [Bool.eq_iff_iff]
  all_goals simp
  all_goals omega
theorem etime_prog (n : Int) : CallsR Tryz.prog nentry_time [.int .i64 n] [] fun v => v = .bool (decide (0 ≤ n ∧ n ≤ 1099511627776)) := by
  refine sentry_time fun H hh => ?_
  dsimp only [centry_time]
  refine walk (k := ?_)
  repeat' first | refine And.intro ?_ ?_ | intro
  all_goals refine leaf ?_
  all_goals refine doneR (congrArg V.bool ?_)
  all_goals rw [Bool.eq_iff_iff]
  all_goals simp
  all_goals omega
abbrev ansP (e : Entry) : Prop := (e.status = 200 ∨ e.status = 201 ∨ e.status = 402) ∧ e.text.length ≤ 40
theorem answered_prog (e : Entry) : CallsR Tryz.prog nentry_answered [.agg e.enc] [] fun v => v = .bool (decide (ansP e)) := by
  unfold Entry.enc
  refine sentry_answered fun H hh => ?_
  dsimp only [centry_answered]
  refine walk (k := ?_)
  repeat' first | refine And.intro ?_ ?_ | intro
  all_goals refine leaf ?_
  all_goals refine doneR (congrArg V.bool ?_)
  all_goals rw [Bool.eq_iff_iff]
  all_goals simp
  all_goals omega
abbrev mNorm (m : List UInt8) : Prop := metP m ∧ m.map upB = m
abbrev pNorm (p : List UInt8) : Prop := pathL p = some p
abbrev askP (e : Entry) : Prop := mNorm e.method ∧ pNorm e.path ∧ e.body.length ≤ 80
theorem fullL_ne (o : List UInt8) : fullL o ≠ [] := by
  unfold fullL
  split
  · simp
  · assumption
theorem pathL_ne {p o : List UInt8} (h : pathL p = some o) : o ≠ [] := by
  unfold pathL at h
  split at h
  · cases h
  · split at h
    · cases h
    · split at h
      · cases h
      · cases h
        exact fullL_ne _
theorem metV_of (m : List UInt8) : (metP m ∧ m.map upB ≠ [] ∧ metV m = .tup [.str (m.map upB), .bool true]) ∨ (¬ metP m ∧ metV m = .tup [.str [], .bool false]) := by
  by_cases h : metP m
  · refine .inl ⟨h, fun e => ?_, if_pos h⟩
    have := congrArg List.length e
    rw [List.length_map, List.length_nil] at this
    have := h.1.1
    omega
  · exact .inr ⟨h, if_neg h⟩
theorem pathV_of (p : List UInt8) : (∃ o, pathL p = some o ∧ o ≠ [] ∧ pathV p = .tup [.str o, .bool true]) ∨ (pathL p = none ∧ pathV p = .tup [.str [], .bool false]) := by
  rcases h : pathL p with _ | o
  · exact .inr ⟨rfl, pathV_none h⟩
  · exact .inl ⟨o, rfl, pathL_ne h, pathV_some h⟩
theorem asked_prog (e : Entry) : CallsR Tryz.prog nentry_asked [.agg e.enc] [] fun v => v = .bool (decide (askP e)) := by
  unfold Entry.enc
  have h1 := method_prog e.method
  have h2 := path_prog e.path
  rcases metV_of e.method with ⟨hm, hm2, hv⟩ | ⟨hm, hv⟩
  · rcases pathV_of e.path with ⟨o, hp, hp2, hw⟩ | ⟨hp, hw⟩
    · rw [hv] at h1
      rw [hw] at h2
      refine sentry_asked fun H hh => ?_
      dsimp only [centry_asked]
      refine walk (k := ?_)
      repeat' first | refine And.intro ?_ ?_ | intro
      all_goals refine leaf ?_
      refine callE (h1) ?_
      refine walk1 (k := ?_)
      repeat' first | refine And.intro ?_ ?_ | intro
      all_goals refine leaf ?_
      refine callE (h2) ?_
      refine walk (k := ?_)
      repeat' first | refine And.intro ?_ ?_ | intro
      all_goals refine leaf ?_
      all_goals try
        exact absurd ‹_› hm2
      all_goals try
        exact absurd ‹_› hp2
      all_goals refine doneR (congrArg V.bool ?_)
      · rename_i q1 q2 q3 q4
        rw [decide_eq_decide]
        exact ⟨fun h => ⟨⟨hm, q2⟩, by rw [pNorm, hp, q4], by omega⟩, fun h => by have := h.2.2; omega⟩
      · rename_i q1 q2 q3 q4
        refine (decide_eq_false ?_).symm
        rintro ⟨_, h, _⟩
        rw [pNorm, hp] at h
        exact q4 (Option.some.inj h)
      · rename_i q1 q2
        refine (decide_eq_false ?_).symm
        rintro ⟨⟨_, h⟩, _⟩
        exact q2 h
    · rw [hv] at h1
      rw [hw] at h2
      have hF : ¬ askP e := by
        rintro ⟨_, h, _⟩
        rw [pNorm, hp] at h
        cases h
      refine sentry_asked fun H hh => ?_
      dsimp only [centry_asked]
      refine walk (k := ?_)
      repeat' first | refine And.intro ?_ ?_ | intro
      all_goals refine leaf ?_
      refine callE (h1) ?_
      refine walk1 (k := ?_)
      repeat' first | refine And.intro ?_ ?_ | intro
      all_goals refine leaf ?_
      refine callE (h2) ?_
      refine walk (k := ?_)
      repeat' first | refine And.intro ?_ ?_ | intro
      all_goals refine leaf ?_
      all_goals exact doneR (congrArg V.bool (decide_eq_false hF).symm)
  · have hF : ¬ askP e := fun h => hm h.1.1
    rw [hv] at h1
    rcases pathV_of e.path with ⟨o, hp, hp2, hw⟩ | ⟨hp, hw⟩
    all_goals
      rw [hw] at h2
      refine sentry_asked fun H hh => ?_
      dsimp only [centry_asked]
      refine walk (k := ?_)
      repeat' first | refine And.intro ?_ ?_ | intro
      all_goals refine leaf ?_
      refine callE (h1) ?_
      refine walk1 (k := ?_)
      repeat' first | refine And.intro ?_ ?_ | intro
      all_goals refine leaf ?_
      refine callE (h2) ?_
      refine walk (k := ?_)
      repeat' first | refine And.intro ?_ ?_ | intro
      all_goals refine leaf ?_
      all_goals exact doneR (congrArg V.bool (decide_eq_false hF).symm)
abbrev noaP (e : Entry) : Prop := e.status = 0 ∧ e.text = []
abbrev norP (e : Entry) : Prop := e.lease = 0 ∧ e.method ++ e.path ++ e.body = []
abbrev mayH (e : Entry) : Prop := namP e ∧ (1 ≤ e.epoch ∧ e.epoch ≤ 1073741824) ∧ (1 ≤ e.token ∧ e.token ≤ 1073741824) ∧ (0 ≤ e.point ∧ e.point ≤ 5) ∧ e.print.length = 32 ∧ (0 ≤ e.lease ∧ e.lease ≤ 1099511627776) ∧ (0 ≤ e.expiry ∧ e.expiry ≤ 1099511627776)
abbrev mayT (e : Entry) : Prop := e.state = 1 ∧ noaP e ∧ askP e ∨ e.state = 2 ∧ norP e ∧ ansP e ∨ e.state = 3 ∧ norP e ∧ noaP e
abbrev mayP (e : Entry) : Prop := mayH e ∧ mayT e
end Go.Proofs.YtjgcgepfidcihaaGreatDoor
