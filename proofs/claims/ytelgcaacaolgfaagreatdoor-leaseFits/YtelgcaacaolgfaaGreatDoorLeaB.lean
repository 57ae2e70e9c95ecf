/-
  Steps of an entry: the code.
-/
import Derived.Test.YtelgcaacaolgfaaGreatDoorMayB
import Derived.Test.YtelgcaacaolgfaaGreatDoorNumA
namespace Go.Proofs.YtelgcaacaolgfaaGreatDoor
open Go Go.CM
set_option maxRecDepth 100000
set_option maxHeartbeats 4000000

abbrev smallE (e : Entry) : Prop := e.method.length + e.path.length + e.body.length ≤ 9000000000000000000
abbrev canP (e : Entry) : Prop := e.state = 1 ∧ mayP e
theorem lmay_prog (e : Entry) (hl : smallE e) : CallsR Tryz.prog nlease_may [.agg e.enc] [] fun v => v = .bool (decide (canP e)) := by
  have h1 := may_prog e hl
  unfold Entry.enc at h1 ⊢
  refine slease_may fun H hh => ?_
  dsimp only [clease_may]
  refine walk (k := ?_)
  repeat' first | refine And.intro ?_ ?_ | intro
  all_goals refine leaf ?_
  · skip
    refine callE (h1) ?_
    refine walk1 (k := ?_)
    repeat' first | refine And.intro ?_ ?_ | intro
    all_goals refine leaf ?_
    refine doneR (congrArg V.bool ?_)
    rw [decide_eq_decide]
    exact ⟨fun h => ⟨by assumption, h⟩, fun h => h.2⟩
  · exact doneR (congrArg V.bool (decide_eq_false fun h => absurd h.1 (by assumption)).symm)
def ownI (e : Entry) (token : Int) : Int := if ¬ canP e then 1 else if e.token ≠ token then 9 else 0
theorem owned_prog (e : Entry) (token : Int) (hl : smallE e) : CallsR Tryz.prog nlease_owned [.agg e.enc, .int .i64 token] [] fun v => v = .int .i64 (ownI e token) := by
  have h1 := lmay_prog e hl
  unfold Entry.enc at h1 ⊢
  unfold ownI
  by_cases hc : canP e
  · rw [decide_eq_true hc] at h1
    rw [if_neg (fun h => h hc)]
    refine slease_owned fun H hh => ?_
    dsimp only [clease_owned]
    refine walk (k := ?_)
    repeat' first | refine And.intro ?_ ?_ | intro
    all_goals refine leaf ?_
    refine callE (h1) ?_
    refine walk (k := ?_)
    repeat' first | refine And.intro ?_ ?_ | intro
    all_goals refine leaf ?_
    · exact doneR (by rw [if_pos (by assumption)])
    · exact doneR (by rw [if_neg (by omega)])
  · rw [decide_eq_false hc] at h1
    rw [if_pos hc]
    refine slease_owned fun H hh => ?_
    dsimp only [clease_owned]
    refine walk (k := ?_)
    repeat' first | refine And.intro ?_ ?_ | intro
    all_goals refine leaf ?_
    refine callE (h1) ?_
    refine walk (k := ?_)
    repeat' first | refine And.intro ?_ ?_ | intro
    all_goals refine leaf ?_
    exact doneR rfl
def stV (x : Entry × Int) : V := .tup [.agg x.1.enc, .int .i64 x.2]
def takeL (e : Entry) (now : Int) (c : Conf) : Entry × Int :=
  if ¬ canP e then (Entry.zero, 1) else if heldP e now then (Entry.zero, 8) else if 1073741824 ≤ e.token then (Entry.zero, 10)
  else ({ e with token := e.token + 1, lease := plusI now c.br.lease }, 0)
theorem take_prog (e : Entry) (now : Int) (c : Conf) (hl : smallE e) : CallsR Tryz.prog nlease_Take [.agg e.enc, .int .i64 now, .agg c.enc] [] fun v => v = stV (takeL e now c) := by
  have h1 := lmay_prog e hl
  have h2 := held_prog e now
  have h3 := next_prog e.token
  have h4 := config_prog c
  have h5 := plus_prog now c.br.lease
  unfold Entry.enc at h1 h2
  unfold stV takeL Entry.enc
  have hce : c.enc = [.int .i64 c.workers, .int .i64 c.lease, .int .i64 c.ttl, .int .i64 c.quota, .int .i64 c.segment, .int .i64 c.disk] := rfl
  have hbe : c.br.enc = [.int .i64 c.br.workers, .int .i64 c.br.lease, .int .i64 c.br.ttl, .int .i64 c.br.quota, .int .i64 c.br.segment, .int .i64 c.br.disk] := rfl
  rw [hce] at h4 ⊢
  rw [hbe] at h4
  by_cases hc : canP e
  · rw [decide_eq_true hc] at h1
    rw [if_neg (fun h => h hc)]
    have ht : ¬ e.token < 0 := by have := hc.2.1.2.2.1; omega
    rw [if_neg ht] at h3
    by_cases hh0 : heldP e now
    · rw [decide_eq_true hh0] at h2
      rw [if_pos hh0]
      refine slease_Take fun H hh => ?_
      dsimp only [clease_Take]
      refine walk1 (k := ?_)
      repeat' first | refine And.intro ?_ ?_ | intro
      all_goals refine leaf ?_
      refine callE (h1) ?_
      refine walk1 (k := ?_)
      repeat' first | refine And.intro ?_ ?_ | intro
      all_goals refine leaf ?_
      refine callE (h2) ?_
      refine walk1 (k := ?_)
      repeat' first | refine And.intro ?_ ?_ | intro
      all_goals refine leaf ?_
      exact doneR rfl
    · rw [decide_eq_false hh0] at h2
      rw [if_neg hh0]
      by_cases ht2 : 1073741824 ≤ e.token
      · rw [if_pos ht2] at h3 ⊢
        refine slease_Take fun H hh => ?_
        dsimp only [clease_Take]
        refine walk1 (k := ?_)
        repeat' first | refine And.intro ?_ ?_ | intro
        all_goals refine leaf ?_
        refine callE (h1) ?_
        refine walk1 (k := ?_)
        repeat' first | refine And.intro ?_ ?_ | intro
        all_goals refine leaf ?_
        refine callE (h2) ?_
        refine walk1 (k := ?_)
        repeat' first | refine And.intro ?_ ?_ | intro
        all_goals refine leaf ?_
        refine callE (h3) ?_
        refine walk1 (k := ?_)
        repeat' first | refine And.intro ?_ ?_ | intro
        all_goals refine leaf ?_
        exact doneR rfl
      · rw [if_neg ht2] at h3 ⊢
        refine slease_Take fun H hh => ?_
        dsimp only [clease_Take]
        refine walk1 (k := ?_)
        repeat' first | refine And.intro ?_ ?_ | intro
        all_goals refine leaf ?_
        refine callE (h1) ?_
        refine walk1 (k := ?_)
        repeat' first | refine And.intro ?_ ?_ | intro
        all_goals refine leaf ?_
        refine callE (h2) ?_
        refine walk1 (k := ?_)
        repeat' first | refine And.intro ?_ ?_ | intro
        all_goals refine leaf ?_
        refine callE (h3) ?_
        refine walk1 (k := ?_)
        repeat' first | refine And.intro ?_ ?_ | intro
        all_goals refine leaf ?_
        refine callE (h4) ?_
        refine walk1 (k := ?_)
        repeat' first | refine And.intro ?_ ?_ | intro
        all_goals refine leaf ?_
        refine callE (h5) ?_
        refine walk1 (k := ?_)
        repeat' first | refine And.intro ?_ ?_ | intro
        all_goals refine leaf ?_
        exact doneR rfl
  · rw [decide_eq_false hc] at h1
    rw [if_pos hc]
    refine slease_Take fun H hh => ?_
    dsimp only [clease_Take]
    refine walk1 (k := ?_)
    repeat' first | refine And.intro ?_ ?_ | intro
    all_goals refine leaf ?_
    refine callE (h1) ?_
    refine walk1 (k := ?_)
    repeat' first | refine And.intro ?_ ?_ | intro
    all_goals refine leaf ?_
    exact doneR rfl
end Go.Proofs.YtelgcaacaolgfaaGreatDoor
