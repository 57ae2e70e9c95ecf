/-
  The other steps of an entry: the code.
-/
import Derived.Test.YtelgcaacaolgfaaGreatDoorLeaC
namespace Go.Proofs.YtelgcaacaolgfaaGreatDoor
open Go Go.CM
set_option maxRecDepth 100000
set_option maxHeartbeats 4000000

def passL (e : Entry) (token now : Int) (c : Conf) : Entry × Int :=
  if ownI e token ≠ 0 then (Entry.zero, ownI e token) else if e.point = 5 then (Entry.zero, 10) else ({ e with point := e.point + 1, lease := plusI now c.br.lease }, 0)
theorem ownI_can {e : Entry} {token : Int} (h : ownI e token = 0) : canP e ∧ e.token = token := by
  unfold ownI at h
  split at h
  · omega
  · rename_i h1
    split at h
    · omega
    · rename_i h2
      exact ⟨Classical.byContradiction h1, Classical.byContradiction h2⟩
theorem pass_prog (e : Entry) (token now : Int) (c : Conf) (hl : smallE e) : CallsR Tryz.prog nlease_Pass [.agg e.enc, .int .i64 token, .int .i64 now, .agg c.enc] [] fun v => v = stV (passL e token now c) := by
  have h1 := owned_prog e token hl
  have h4 := config_prog c
  have h5 := plus_prog now c.br.lease
  have hce : c.enc = [.int .i64 c.workers, .int .i64 c.lease, .int .i64 c.ttl, .int .i64 c.quota, .int .i64 c.segment, .int .i64 c.disk] := rfl
  have hbe : c.br.enc = [.int .i64 c.br.workers, .int .i64 c.br.lease, .int .i64 c.br.ttl, .int .i64 c.br.quota, .int .i64 c.br.segment, .int .i64 c.br.disk] := rfl
  rw [hce] at h4 ⊢
  rw [hbe] at h4
  unfold stV passL
  by_cases hk : ownI e token ≠ 0
  · rw [if_pos hk]
    unfold Entry.enc at h1 ⊢
    refine slease_Pass fun H hh => ?_
    dsimp only [clease_Pass]
    refine walk (k := ?_)
    repeat' first | refine And.intro ?_ ?_ | intro
    all_goals refine leaf ?_
    refine callE (h1) ?_
    refine walk (k := ?_)
    repeat' first | refine And.intro ?_ ?_ | intro
    all_goals refine leaf ?_
    all_goals first
      | exact doneR rfl
      | (exfalso; omega)
  · rw [if_neg hk]
    have hk0 : ownI e token = 0 := by omega
    rw [hk0] at h1
    have hpt : 0 ≤ e.point ∧ e.point ≤ 5 := (ownI_can hk0).1.2.1.2.2.2.1
    clear hk hk0
    generalize plusI now c.br.lease = t1 at *
    generalize c.br.lease = cl at *
    clear hce hbe
    by_cases hp : e.point = 5
    · rw [if_pos hp]
      unfold Entry.enc at h1 ⊢
      refine slease_Pass fun H hh => ?_
      dsimp only [clease_Pass]
      refine walk1 (k := ?_)
      repeat' first | refine And.intro ?_ ?_ | intro
      all_goals refine leaf ?_
      refine callE (h1) ?_
      refine walk (k := ?_)
      repeat' first | refine And.intro ?_ ?_ | intro
      all_goals refine leaf ?_
      all_goals first
        | exact doneR rfl
        | (exfalso; omega)
    · rw [if_neg hp]
      unfold Entry.enc at h1 ⊢
      refine slease_Pass fun H hh => ?_
      dsimp only [clease_Pass]
      refine walk1 (k := ?_)
      repeat' first | refine And.intro ?_ ?_ | intro
      all_goals refine leaf ?_
      refine callE (h1) ?_
      refine walk (k := ?_)
      repeat' first | refine And.intro ?_ ?_ | intro
      all_goals refine leaf ?_
      all_goals try
        exfalso
        omega
      refine callE (h4) ?_
      refine walk1 (k := ?_)
      repeat' first | refine And.intro ?_ ?_ | intro
      all_goals refine leaf ?_
      refine callE (h5) ?_
      refine walk1 (k := ?_)
      repeat' first | refine And.intro ?_ ?_ | intro
      all_goals refine leaf ?_
      exact doneR rfl
def failL (e : Entry) (token : Int) : Entry × Int := if ownI e token ≠ 0 then (Entry.zero, ownI e token) else (overE e 3, 0)
theorem fail_prog (e : Entry) (token : Int) (hl : smallE e) : CallsR Tryz.prog nlease_Fail [.agg e.enc, .int .i64 token] [] fun v => v = stV (failL e token) := by
  have h1 := owned_prog e token hl
  have h2 := over_prog e 3
  unfold stV failL
  by_cases hk : ownI e token ≠ 0
  · rw [if_pos hk]
    unfold Entry.enc at h1 ⊢
    refine slease_Fail fun H hh => ?_
    dsimp only [clease_Fail]
    refine walk (k := ?_)
    repeat' first | refine And.intro ?_ ?_ | intro
    all_goals refine leaf ?_
    refine callE (h1) ?_
    refine walk (k := ?_)
    repeat' first | refine And.intro ?_ ?_ | intro
    all_goals refine leaf ?_
    all_goals first
      | exact doneR rfl
      | (exfalso; omega)
  · rw [if_neg hk]
    have hk0 : ownI e token = 0 := by omega
    rw [hk0] at h1
    unfold overE at *
    unfold Entry.enc at h1 h2 ⊢
    refine slease_Fail fun H hh => ?_
    dsimp only [clease_Fail]
    refine walk1 (k := ?_)
    repeat' first | refine And.intro ?_ ?_ | intro
    all_goals refine leaf ?_
    refine callE (h1) ?_
    refine walk1 (k := ?_)
    repeat' first | refine And.intro ?_ ?_ | intro
    all_goals refine leaf ?_
    refine callE (h2) ?_
    refine walk1 (k := ?_)
    repeat' first | refine And.intro ?_ ?_ | intro
    all_goals refine leaf ?_
    exact doneR rfl
def relL (e : Entry) (token now : Int) : Entry × Int := if ownI e token ≠ 0 then (Entry.zero, ownI e token) else ({ e with lease := timI now }, 0)
theorem release_prog (e : Entry) (token now : Int) (hl : smallE e) : CallsR Tryz.prog nlease_Release [.agg e.enc, .int .i64 token, .int .i64 now] [] fun v => v = stV (relL e token now) := by
  have h1 := owned_prog e token hl
  have h2 := time_prog now
  unfold stV relL
  by_cases hk : ownI e token ≠ 0
  · rw [if_pos hk]
    unfold Entry.enc at h1 ⊢
    refine slease_Release fun H hh => ?_
    dsimp only [clease_Release]
    refine walk (k := ?_)
    repeat' first | refine And.intro ?_ ?_ | intro
    all_goals refine leaf ?_
    refine callE (h1) ?_
    refine walk (k := ?_)
    repeat' first | refine And.intro ?_ ?_ | intro
    all_goals refine leaf ?_
    all_goals first
      | exact doneR rfl
      | (exfalso; omega)
  · rw [if_neg hk]
    have hk0 : ownI e token = 0 := by omega
    rw [hk0] at h1
    generalize timI now = t1 at *
    unfold Entry.enc at h1 ⊢
    refine slease_Release fun H hh => ?_
    dsimp only [clease_Release]
    refine walk1 (k := ?_)
    repeat' first | refine And.intro ?_ ?_ | intro
    all_goals refine leaf ?_
    refine callE (h1) ?_
    refine walk1 (k := ?_)
    repeat' first | refine And.intro ?_ ?_ | intro
    all_goals refine leaf ?_
    refine callE (h2) ?_
    refine walk1 (k := ?_)
    repeat' first | refine And.intro ?_ ?_ | intro
    all_goals refine leaf ?_
    exact doneR rfl
end Go.Proofs.YtelgcaacaolgfaaGreatDoor
