/-
  diff: what the laws look at first.
-/
import Derived.Test.YtebhddpildfgcaaDiffG
namespace Go.Proofs.Ytebhddpildfgcaa
open Go Go.CM
set_option maxRecDepth 100000
set_option maxHeartbeats 4000000

theorem small19_prog (s : Nat) (b : Bool) (l : List Entry) : CallsR Try.prog nlaw19_Small [.slice s 0 l.length 14, .int .i64 20] [EL s b l] fun v => ∃ c : Bool, v = .bool c ∧ (c = true → l.length ≤ 20) := by
  refine slaw19_Small fun H hh => ?_
  dsimp only [claw19_Small]
  refine walk1 (k := ?_)
  repeat' first | refine And.intro ?_ ?_ | intro
  all_goals refine leaf ?_
  by_cases h : l.length ≤ 20
  · refine c_cond_f (by show V.bool _ = _; simp; omega) ?_
    refine walk1 (k := ?_)
    repeat' first | refine And.intro ?_ ?_ | intro
    all_goals refine leaf ?_
    refine loopN [11, 12, 13] l.length (fun i vs L => vs = [.slice s 0 l.length 14, .int .i64 l.length, .int .i64 i] ∧ L = [EL s b l]) (Nx.here ⟨rfl, rfl⟩) ?_
    clear hh
    rintro i _ _ e H hi ⟨rfl, rfl⟩ hh
    simp only [puts]
    by_cases hn : i < l.length
    · skip
      refine walk1 (k := ?_)
      repeat' first | refine And.intro ?_ ?_ | intro
      all_goals refine leaf ?_
      refine c_cond_t (by show V.bool _ = _; simp; omega) ?_
      refine walk (k := ?_)
      repeat' first | refine And.intro ?_ ?_ | intro
      all_goals refine leaf ?_
      all_goals first
        | exact Nx.next hn ⟨rfl, rfl⟩
        | exact doneR ⟨false, rfl, fun h => by cases h⟩
    · skip
      refine walk1 (k := ?_)
      repeat' first | refine And.intro ?_ ?_ | intro
      all_goals refine leaf ?_
      refine c_cond_f (by show V.bool _ = _; simp; omega) ?_
      refine walk1 (k := ?_)
      repeat' first | refine And.intro ?_ ?_ | intro
      all_goals refine leaf ?_
      exact doneR ⟨true, rfl, fun _ => h⟩
  · refine c_cond_t (by show V.bool _ = _; simp; omega) ?_
    refine walk1 (k := ?_)
    repeat' first | refine And.intro ?_ ?_ | intro
    all_goals refine leaf ?_
    exact doneR ⟨false, rfl, fun h => by cases h⟩
theorem small18_prog (s : Nat) (b : Bool) (l : List Rec) : CallsR Try.prog nlaw18_Small [.slice s 0 l.length 15, .int .i64 20] [RL s b l] fun v => ∃ c : Bool, v = .bool c ∧ (c = true → l.length ≤ 20) := by
  refine slaw18_Small fun H hh => ?_
  dsimp only [claw18_Small]
  refine walk1 (k := ?_)
  repeat' first | refine And.intro ?_ ?_ | intro
  all_goals refine leaf ?_
  by_cases h : l.length ≤ 20
  · refine c_cond_f (by show V.bool _ = _; simp; omega) ?_
    refine walk1 (k := ?_)
    repeat' first | refine And.intro ?_ ?_ | intro
    all_goals refine leaf ?_
    refine loopN [12, 13, 14] l.length (fun i vs L => vs = [.slice s 0 l.length 15, .int .i64 l.length, .int .i64 i] ∧ L = [RL s b l]) (Nx.here ⟨rfl, rfl⟩) ?_
    clear hh
    rintro i _ _ e H hi ⟨rfl, rfl⟩ hh
    simp only [puts]
    by_cases hn : i < l.length
    · skip
      refine walk1 (k := ?_)
      repeat' first | refine And.intro ?_ ?_ | intro
      all_goals refine leaf ?_
      refine c_cond_t (by show V.bool _ = _; simp; omega) ?_
      refine walk (k := ?_)
      repeat' first | refine And.intro ?_ ?_ | intro
      all_goals refine leaf ?_
      all_goals first
        | exact Nx.next hn ⟨rfl, rfl⟩
        | exact doneR ⟨false, rfl, fun h => by cases h⟩
    · skip
      refine walk1 (k := ?_)
      repeat' first | refine And.intro ?_ ?_ | intro
      all_goals refine leaf ?_
      refine c_cond_f (by show V.bool _ = _; simp; omega) ?_
      refine walk1 (k := ?_)
      repeat' first | refine And.intro ?_ ?_ | intro
      all_goals refine leaf ?_
      exact doneR ⟨true, rfl, fun _ => h⟩
  · refine c_cond_t (by show V.bool _ = _; simp; omega) ?_
    refine walk1 (k := ?_)
    repeat' first | refine And.intro ?_ ?_ | intro
    all_goals refine leaf ?_
    exact doneR ⟨false, rfl, fun h => by cases h⟩
def eA : Entry := { Entry.zero with key := [97] }
def eB : Entry := { Entry.zero with key := [98] }
def lAB : List Rec := [dropR (0, [97]), putR eB]
theorem merge_AB : mergeR (srtL [eA]) (srtL [eB]) = lAB := by
  rw [show srtL [eA] = [eA] from rfl, show srtL [eB] = [eB] from rfl, mergeR, if_pos (by decide), mergeR, mergeR]; rfl
theorem awake_prog : CallsR Try.prog nlaw43_awake [] [] fun v => v = .bool true := by
  refine slaw43_awake fun H hh => ?_
  dsimp only [claw43_awake]
  refine walk1 (k := ?_)
  repeat' first | refine And.intro ?_ ?_ | intro
  all_goals refine leaf ?_
  rename_i i1 _ _ i2 _ _ _ _ _ _ i3 _ _ i4 _ hh
  have hm1 := dmake_prog i3 i4 true true [eA] [eB] (by decide) (by decide)
  rw [merge_AB] at hm1
  refine callN (hm1) ?_
  rintro v Lo H' ⟨o, rfl, rfl⟩ hh
  refine walk1 (k := ?_)
  repeat' first | refine And.intro ?_ ?_ | intro
  all_goals refine leaf ?_
  rename_i i5 _ hh
  have ha := dapply_prog i5 o true true [eA] lAB (by decide) (by decide)
  rw [show applyL (srtL [eA]) lAB = [eB] by with_unfolding_all rfl] at ha
  refine callN (ha) ?_
  rintro v Lo H' ⟨o2, rfl, rfl⟩ hh
  refine walk1 (k := ?_)
  repeat' first | refine And.intro ?_ ?_ | intro
  all_goals refine leaf ?_
  refine wps_slot (s := 47) (v := .bool true) (by with_unfolding_all rfl) ?_
  refine walk1 (k := ?_)
  repeat' first | refine And.intro ?_ ?_ | intro
  all_goals refine leaf ?_
  have hj := djoin2_prog o true lAB (by decide)
  refine callN (hj) ?_
  rintro v Lo H' ⟨o3, ks, hp, hs, rfl, rfl⟩ hh
  have hk2 : ks.length = 2 := by rw [hp.length_eq]; with_unfolding_all rfl
  rw [hk2]
  refine walk1 (k := ?_)
  repeat' first | refine And.intro ?_ ?_ | intro
  all_goals refine leaf ?_
  exact doneR rfl
end Go.Proofs.Ytebhddpildfgcaa
