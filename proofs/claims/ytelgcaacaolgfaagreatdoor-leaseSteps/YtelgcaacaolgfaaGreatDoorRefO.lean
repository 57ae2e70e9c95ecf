/-
  Steps of an entry: the document's, in all.
-/
import Derived.Test.YtelgcaacaolgfaaGreatDoorRefM
namespace Go.Proofs.YtelgcaacaolgfaaGreatDoor
open Go Go.CM
set_option maxRecDepth 100000
set_option maxHeartbeats 4000000

theorem rtake_prog (e : Entry) (now : Int) (c : Conf) (hk : e.key.length ≤ 1000000) : CallsR Tryz.prog nref21_Take [.agg e.enc, .int .i64 now, .agg c.enc] [] fun v => v = stV (takeL e now c) := by
  have h1 := rown_prog e e.token hk
  have h2 := rheld_prog e now
  have h5 := rlease_until now c
  have hce : c.enc = [.int .i64 c.workers, .int .i64 c.lease, .int .i64 c.ttl, .int .i64 c.quota, .int .i64 c.segment, .int .i64 c.disk] := rfl
  have hbe : c.br.enc = [.int .i64 c.br.workers, .int .i64 c.br.lease, .int .i64 c.br.ttl, .int .i64 c.br.quota, .int .i64 c.br.segment, .int .i64 c.br.disk] := rfl
  have h4 := rconfig_prog c
  rw [hce] at h4 ⊢
  rw [hbe] at h4
  unfold stV takeL
  by_cases hc : canP e
  · rw [if_neg (fun h => h hc)]
    have ht : e.token ≤ 1073741824 := hc.2.1.2.2.1.2
    have ht1 : 1 ≤ e.token := hc.2.1.2.2.1.1
    have ho : ownI e e.token = 0 := by rw [ownI, if_neg (fun h => h hc), if_neg (fun h => h rfl)]
    rw [ho] at h1
    by_cases hh0 : heldP e now
    · rw [decide_eq_true hh0] at h2
      rw [if_pos hh0]
      unfold Entry.enc at *
      refine sref21_Take fun H hh => ?_
      dsimp only [cref21_Take]
      refine walk1 (k := ?_)
      repeat' first | refine And.intro ?_ ?_ | intro
      all_goals refine leaf ?_
      refine callE (h1) ?_
      refine walk1 (k := ?_)
      repeat' first | refine And.intro ?_ ?_ | intro
      all_goals refine leaf ?_
      refine callE (h2) ?_
      refine walk1 (k := ?_)
      repeat' first | refine And.intro ?_ ?_ | intro
      all_goals refine leaf ?_
      exact doneR rfl
    · rw [decide_eq_false hh0] at h2
      rw [if_neg hh0]
      generalize plusI now c.br.lease = t1 at *
      generalize c.br.lease = cl at *
      clear hce hbe hh0 ho hc
      by_cases ht2 : 1073741824 ≤ e.token
      · rw [if_pos ht2]
        unfold Entry.enc at *
        refine sref21_Take fun H hh => ?_
        dsimp only [cref21_Take]
        refine walk1 (k := ?_)
        repeat' first | refine And.intro ?_ ?_ | intro
        all_goals refine leaf ?_
        refine callE (h1) ?_
        refine walk1 (k := ?_)
        repeat' first | refine And.intro ?_ ?_ | intro
        all_goals refine leaf ?_
        refine callE (h2) ?_
        refine walk (k := ?_)
        repeat' first | refine And.intro ?_ ?_ | intro
        all_goals refine leaf ?_
        all_goals first
          | exact doneR rfl
          | (exfalso; omega)
      · rw [if_neg ht2]
        unfold Entry.enc at *
        refine sref21_Take fun H hh => ?_
        dsimp only [cref21_Take]
        refine walk1 (k := ?_)
        repeat' first | refine And.intro ?_ ?_ | intro
        all_goals refine leaf ?_
        refine callE (h1) ?_
        refine walk1 (k := ?_)
        repeat' first | refine And.intro ?_ ?_ | intro
        all_goals refine leaf ?_
        refine callE (h2) ?_
        refine walk (k := ?_)
        repeat' first | refine And.intro ?_ ?_ | intro
        all_goals refine leaf ?_
        all_goals try
          exfalso
          omega
        refine callE (h4) ?_
        refine walk1 (k := ?_)
        repeat' first | refine And.intro ?_ ?_ | intro
        all_goals refine leaf ?_
        refine callE (h5) ?_
        refine walk1 (k := ?_)
        repeat' first | refine And.intro ?_ ?_ | intro
        all_goals refine leaf ?_
        exact doneR rfl
  · rw [if_pos hc]
    have ho : ownI e e.token = 1 := by rw [ownI, if_pos hc]
    rw [ho] at h1
    unfold Entry.enc at *
    refine sref21_Take fun H hh => ?_
    dsimp only [cref21_Take]
    refine walk1 (k := ?_)
    repeat' first | refine And.intro ?_ ?_ | intro
    all_goals refine leaf ?_
    refine callE (h1) ?_
    refine walk1 (k := ?_)
    repeat' first | refine And.intro ?_ ?_ | intro
    all_goals refine leaf ?_
    exact doneR rfl
theorem rpass_prog (e : Entry) (token now : Int) (c : Conf) (hk : e.key.length ≤ 1000000) : CallsR Tryz.prog nref21_Pass [.agg e.enc, .int .i64 token, .int .i64 now, .agg c.enc] [] fun v => v = stV (passL e token now c) := by
  have h1 := rown_prog e token hk
  have h5 := rlease_until now c
  have hce : c.enc = [.int .i64 c.workers, .int .i64 c.lease, .int .i64 c.ttl, .int .i64 c.quota, .int .i64 c.segment, .int .i64 c.disk] := rfl
  have hbe : c.br.enc = [.int .i64 c.br.workers, .int .i64 c.br.lease, .int .i64 c.br.ttl, .int .i64 c.br.quota, .int .i64 c.br.segment, .int .i64 c.br.disk] := rfl
  have h4 := rconfig_prog c
  rw [hce] at h4 ⊢
  rw [hbe] at h4
  unfold stV passL
  by_cases hk : ownI e token ≠ 0
  · rw [if_pos hk]
    unfold Entry.enc at h1 ⊢
    refine sref21_Pass fun H hh => ?_
    dsimp only [cref21_Pass]
    refine walk (k := ?_)
    repeat' first | refine And.intro ?_ ?_ | intro
    all_goals refine leaf ?_
    refine callE (h1) ?_
    refine walk (k := ?_)
    repeat' first | refine And.intro ?_ ?_ | intro
    all_goals refine leaf ?_
    all_goals first
      | exact doneR rfl
      | (exfalso; omega)
  · rw [if_neg hk]
    have hk0 : ownI e token = 0 := by omega
    rw [hk0] at h1
    have hpt : 0 ≤ e.point ∧ e.point ≤ 5 := (ownI_can hk0).1.2.1.2.2.2.1
    clear hk hk0
    generalize plusI now c.br.lease = t1 at *
    generalize c.br.lease = cl at *
    clear hce hbe
    by_cases hp : e.point = 5
    · rw [if_pos hp]
      unfold Entry.enc at h1 ⊢
      refine sref21_Pass fun H hh => ?_
      dsimp only [cref21_Pass]
      refine walk1 (k := ?_)
      repeat' first | refine And.intro ?_ ?_ | intro
      all_goals refine leaf ?_
      refine callE (h1) ?_
      refine walk (k := ?_)
      repeat' first | refine And.intro ?_ ?_ | intro
      all_goals refine leaf ?_
      all_goals first
        | exact doneR rfl
        | (exfalso; omega)
    · rw [if_neg hp]
      unfold Entry.enc at h1 ⊢
      refine sref21_Pass fun H hh => ?_
      dsimp only [cref21_Pass]
      refine walk1 (k := ?_)
      repeat' first | refine And.intro ?_ ?_ | intro
      all_goals refine leaf ?_
      refine callE (h1) ?_
      refine walk (k := ?_)
      repeat' first | refine And.intro ?_ ?_ | intro
      all_goals refine leaf ?_
      all_goals try
        exfalso
        omega
      refine callE (h4) ?_
      refine walk1 (k := ?_)
      repeat' first | refine And.intro ?_ ?_ | intro
      all_goals refine leaf ?_
      refine callE (h5) ?_
      refine walk1 (k := ?_)
      repeat' first | refine And.intro ?_ ?_ | intro
      all_goals refine leaf ?_
      exact doneR rfl
theorem rfail_prog (e : Entry) (token : Int) (hk : e.key.length ≤ 1000000) (hn : ownI e token = 0 → e.status = 0 ∧ e.text = []) : CallsR Tryz.prog nref21_Fail [.agg e.enc, .int .i64 token] [] fun v => v = stV (failL e token) := by
  have h1 := rown_prog e token hk
  unfold stV failL
  by_cases hk : ownI e token ≠ 0
  · rw [if_pos hk]
    unfold Entry.enc at h1 ⊢
    refine sref21_Fail fun H hh => ?_
    dsimp only [cref21_Fail]
    refine walk (k := ?_)
    repeat' first | refine And.intro ?_ ?_ | intro
    all_goals refine leaf ?_
    refine callE (h1) ?_
    refine walk (k := ?_)
    repeat' first | refine And.intro ?_ ?_ | intro
    all_goals refine leaf ?_
    all_goals first
      | exact doneR rfl
      | (exfalso; omega)
  · rw [if_neg hk]
    have hk0 : ownI e token = 0 := by omega
    obtain ⟨hst, htx⟩ := hn hk0
    rw [hk0] at h1
    unfold overE at *
    unfold Entry.enc at h1 ⊢
    dsimp only
    rw [hst, htx] at h1 ⊢
    refine sref21_Fail fun H hh => ?_
    dsimp only [cref21_Fail]
    refine walk1 (k := ?_)
    repeat' first | refine And.intro ?_ ?_ | intro
    all_goals refine leaf ?_
    refine callE (h1) ?_
    refine walk1 (k := ?_)
    repeat' first | refine And.intro ?_ ?_ | intro
    all_goals refine leaf ?_
    exact doneR rfl
theorem rrelease_prog (e : Entry) (token now : Int) (hk : e.key.length ≤ 1000000) : CallsR Tryz.prog nref21_Release [.agg e.enc, .int .i64 token, .int .i64 now] [] fun v => v = stV (relL e token now) := by
  have h1 := rown_prog e token hk
  have h2 := rtime_prog now
  unfold stV relL
  by_cases hk : ownI e token ≠ 0
  · rw [if_pos hk]
    unfold Entry.enc at h1 ⊢
    refine sref21_Release fun H hh => ?_
    dsimp only [cref21_Release]
    refine walk (k := ?_)
    repeat' first | refine And.intro ?_ ?_ | intro
    all_goals refine leaf ?_
    refine callE (h1) ?_
    refine walk (k := ?_)
    repeat' first | refine And.intro ?_ ?_ | intro
    all_goals refine leaf ?_
    all_goals first
      | exact doneR rfl
      | (exfalso; omega)
  · rw [if_neg hk]
    have hk0 : ownI e token = 0 := by omega
    rw [hk0] at h1
    generalize timI now = t1 at *
    unfold Entry.enc at h1 ⊢
    refine sref21_Release fun H hh => ?_
    dsimp only [cref21_Release]
    refine walk1 (k := ?_)
    repeat' first | refine And.intro ?_ ?_ | intro
    all_goals refine leaf ?_
    refine callE (h1) ?_
    refine walk1 (k := ?_)
    repeat' first | refine And.intro ?_ ?_ | intro
    all_goals refine leaf ?_
    refine callE (h2) ?_
    refine walk1 (k := ?_)
    repeat' first | refine And.intro ?_ ?_ | intro
    all_goals refine leaf ?_
    exact doneR rfl
end Go.Proofs.YtelgcaacaolgfaaGreatDoor
