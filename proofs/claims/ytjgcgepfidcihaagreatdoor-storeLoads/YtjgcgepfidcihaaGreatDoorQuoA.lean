/-
  The quota: how many each tenant has.
-/
import Derived.Test.YtjgcgepfidcihaaGreatDoorC0
import Derived.Test.YtjgcgepfidcihaaGreatDoorC1
import Derived.Test.YtjgcgepfidcihaaGreatDoorC2
import Derived.Test.YtjgcgepfidcihaaGreatDoorCmG
namespace Go.Proofs.YtjgcgepfidcihaaGreatDoor
open Go Go.CM
set_option maxRecDepth 100000
set_option maxHeartbeats 4000000

abbrev QuC (o : Nat) (m : Int) (u : Int → Int) : Ob := (o, .cells true [.int .i64 m, .int .i64 (u 0), .int .i64 (u 1), .int .i64 (u 2), .int .i64 (u 3)])
def quoI (m : Int) : Int := min (max m 0) 200
theorem quoI_at (m : Int) : (if 200 < (if m < 0 then 0 else m) then 200 else if m < 0 then 0 else m) = quoI m := by
  unfold quoI
  repeat' split
  all_goals omega
theorem qunew_prog (m : Int) : CallsL Tryz.prog nquota_New [.int .i64 m] [] fun v L' => ∃ o, v = .ptr o 0 ∧ L' = [QuC o (quoI m) fun _ => 0] := by
  refine squota_New fun H hh => ?_
  dsimp only [cquota_New]
  refine walk1 (k := ?_)
  repeat' first | refine And.intro ?_ ?_ | intro
  all_goals refine leaf ?_
  rename_i hh
  rw [quoI_at] at hh
  exact done ⟨_, rfl, rfl⟩
theorem quhas_prog (o : Nat) (t : Int) : CallsR Tryz.prog nquota_Quota_has [.ptr o 0, .int .i64 t] [] fun v => v = .bool (decide (0 ≤ t ∧ t < 4)) := by
  refine squota_Quota_has fun H hh => ?_
  dsimp only [cquota_Quota_has]
  refine walk (k := ?_)
  repeat' first | refine And.intro ?_ ?_ | intro
  all_goals refine leaf ?_
  · rename_i h
    refine doneR (congrArg V.bool ?_)
    rw [decide_eq_decide]
    exact ⟨fun k => ⟨h, k⟩, fun k => k.2⟩
  · rename_i h
    refine doneR (congrArg V.bool ?_)
    rw [eq_comm, decide_eq_false_iff_not]
    exact fun k => h k.1
theorem four {t : Int} (h : 0 ≤ t ∧ t < 4) : t = 0 ∨ t = 1 ∨ t = 2 ∨ t = 3 := by omega
theorem wrap_sm {n : Int} (h : -1001 ≤ n ∧ n ≤ 1001) : IntKind.i64.wrap n = n := by rw [IntKind.wrap_i64]; omega
theorem wrap_s2 {n : Int} (h : -3000 ≤ n ∧ n ≤ 3000) : IntKind.i64.wrap n = n := by rw [IntKind.wrap_i64]; omega
theorem qutake_prog (o : Nat) (m : Int) (u : Int → Int) (t : Int) (ht : 0 ≤ t ∧ t < 4) (hu : u t < m) (hb : -1000 ≤ u t ∧ u t ≤ 1000) : CallsL Tryz.prog nquota_Quota_Take [.ptr o 0, .int .i64 t] [QuC o m u] fun v L' => v = .int .i64 0 ∧ L' = [QuC o m fun s => if s = t then u s + 1 else u s] := by
  have hq := quhas_prog o t
  rw [decide_eq_true ht] at hq
  have hw := wrap_sm (n := u t + 1) (by omega)
  rcases four ht with rfl | rfl | rfl | rfl
  · skip
    refine squota_Quota_Take fun H hh => ?_
    dsimp only [cquota_Quota_Take]
    refine walk1 (k := ?_)
    repeat' first | refine And.intro ?_ ?_ | intro
    all_goals refine leaf ?_
    refine callE (hq) ?_
    refine walk1 (k := ?_)
    repeat' first | refine And.intro ?_ ?_ | intro
    all_goals refine leaf ?_
    refine c_cond_f (by show V.bool _ = _; rw [decide_eq_false (by omega)]) ?_
    refine walk1 (k := ?_)
    repeat' first | refine And.intro ?_ ?_ | intro
    all_goals refine leaf ?_
    exact done ⟨rfl, rfl⟩
  · skip
    refine squota_Quota_Take fun H hh => ?_
    dsimp only [cquota_Quota_Take]
    refine walk1 (k := ?_)
    repeat' first | refine And.intro ?_ ?_ | intro
    all_goals refine leaf ?_
    refine callE (hq) ?_
    refine walk1 (k := ?_)
    repeat' first | refine And.intro ?_ ?_ | intro
    all_goals refine leaf ?_
    refine c_cond_f (by show V.bool _ = _; rw [decide_eq_false (by omega)]) ?_
    refine walk1 (k := ?_)
    repeat' first | refine And.intro ?_ ?_ | intro
    all_goals refine leaf ?_
    exact done ⟨rfl, rfl⟩
  · skip
    refine squota_Quota_Take fun H hh => ?_
    dsimp only [cquota_Quota_Take]
    refine walk1 (k := ?_)
    repeat' first | refine And.intro ?_ ?_ | intro
    all_goals refine leaf ?_
    refine callE (hq) ?_
    refine walk1 (k := ?_)
    repeat' first | refine And.intro ?_ ?_ | intro
    all_goals refine leaf ?_
    refine c_cond_f (by show V.bool _ = _; rw [decide_eq_false (by omega)]) ?_
    refine walk1 (k := ?_)
    repeat' first | refine And.intro ?_ ?_ | intro
    all_goals refine leaf ?_
    exact done ⟨rfl, rfl⟩
  · skip
    refine squota_Quota_Take fun H hh => ?_
    dsimp only [cquota_Quota_Take]
    refine walk1 (k := ?_)
    repeat' first | refine And.intro ?_ ?_ | intro
    all_goals refine leaf ?_
    refine callE (hq) ?_
    refine walk1 (k := ?_)
    repeat' first | refine And.intro ?_ ?_ | intro
    all_goals refine leaf ?_
    refine c_cond_f (by show V.bool _ = _; rw [decide_eq_false (by omega)]) ?_
    refine walk1 (k := ?_)
    repeat' first | refine And.intro ?_ ?_ | intro
    all_goals refine leaf ?_
    exact done ⟨rfl, rfl⟩
theorem qugive_prog (o : Nat) (m : Int) (u : Int → Int) (t : Int) (ht : 0 ≤ t ∧ t < 4) (hu : u t ≠ 0) (hb : -1000 ≤ u t ∧ u t ≤ 1000) : CallsL Tryz.prog nquota_Quota_Give [.ptr o 0, .int .i64 t] [QuC o m u] fun v L' => v = .int .i64 0 ∧ L' = [QuC o m fun s => if s = t then u s - 1 else u s] := by
  have hq := quhas_prog o t
  rw [decide_eq_true ht] at hq
  have hw := wrap_sm (n := u t - 1) (by omega)
  rcases four ht with rfl | rfl | rfl | rfl
  · skip
    refine squota_Quota_Give fun H hh => ?_
    dsimp only [cquota_Quota_Give]
    refine walk1 (k := ?_)
    repeat' first | refine And.intro ?_ ?_ | intro
    all_goals refine leaf ?_
    refine callE (hq) ?_
    refine walk1 (k := ?_)
    repeat' first | refine And.intro ?_ ?_ | intro
    all_goals refine leaf ?_
    refine c_cond_f (by show V.bool _ = _; rw [beq_false_of_ne hu]) ?_
    refine walk1 (k := ?_)
    repeat' first | refine And.intro ?_ ?_ | intro
    all_goals refine leaf ?_
    exact done ⟨rfl, rfl⟩
  · skip
    refine squota_Quota_Give fun H hh => ?_
    dsimp only [cquota_Quota_Give]
    refine walk1 (k := ?_)
    repeat' first | refine And.intro ?_ ?_ | intro
    all_goals refine leaf ?_
    refine callE (hq) ?_
    refine walk1 (k := ?_)
    repeat' first | refine And.intro ?_ ?_ | intro
    all_goals refine leaf ?_
    refine c_cond_f (by show V.bool _ = _; rw [beq_false_of_ne hu]) ?_
    refine walk1 (k := ?_)
    repeat' first | refine And.intro ?_ ?_ | intro
    all_goals refine leaf ?_
    exact done ⟨rfl, rfl⟩
  · skip
    refine squota_Quota_Give fun H hh => ?_
    dsimp only [cquota_Quota_Give]
    refine walk1 (k := ?_)
    repeat' first | refine And.intro ?_ ?_ | intro
    all_goals refine leaf ?_
    refine callE (hq) ?_
    refine walk1 (k := ?_)
    repeat' first | refine And.intro ?_ ?_ | intro
    all_goals refine leaf ?_
    refine c_cond_f (by show V.bool _ = _; rw [beq_false_of_ne hu]) ?_
    refine walk1 (k := ?_)
    repeat' first | refine And.intro ?_ ?_ | intro
    all_goals refine leaf ?_
    exact done ⟨rfl, rfl⟩
  · skip
    refine squota_Quota_Give fun H hh => ?_
    dsimp only [cquota_Quota_Give]
    refine walk1 (k := ?_)
    repeat' first | refine And.intro ?_ ?_ | intro
    all_goals refine leaf ?_
    refine callE (hq) ?_
    refine walk1 (k := ?_)
    repeat' first | refine And.intro ?_ ?_ | intro
    all_goals refine leaf ?_
    refine c_cond_f (by show V.bool _ = _; rw [beq_false_of_ne hu]) ?_
    refine walk1 (k := ?_)
    repeat' first | refine And.intro ?_ ?_ | intro
    all_goals refine leaf ?_
    exact done ⟨rfl, rfl⟩
theorem quleft_prog (o : Nat) (m : Int) (u : Int → Int) (t : Int) (ht : 0 ≤ t ∧ t < 4) (hb : -1000 ≤ u t ∧ u t ≤ 1000) (hm : -1000 ≤ m ∧ m ≤ 1000) : CallsR Tryz.prog nquota_Quota_Left [.ptr o 0, .int .i64 t] [QuC o m u] fun v => v = .int .i64 (m - u t) := by
  have hq := quhas_prog o t
  rw [decide_eq_true ht] at hq
  have hw := wrap_s2 (n := m - u t) (by omega)
  rcases four ht with rfl | rfl | rfl | rfl
  · skip
    refine squota_Quota_Left fun H hh => ?_
    dsimp only [cquota_Quota_Left]
    refine walk1 (k := ?_)
    repeat' first | refine And.intro ?_ ?_ | intro
    all_goals refine leaf ?_
    refine callE (hq) ?_
    refine walk1 (k := ?_)
    repeat' first | refine And.intro ?_ ?_ | intro
    all_goals refine leaf ?_
    exact doneR rfl
  · skip
    refine squota_Quota_Left fun H hh => ?_
    dsimp only [cquota_Quota_Left]
    refine walk1 (k := ?_)
    repeat' first | refine And.intro ?_ ?_ | intro
    all_goals refine leaf ?_
    refine callE (hq) ?_
    refine walk1 (k := ?_)
    repeat' first | refine And.intro ?_ ?_ | intro
    all_goals refine leaf ?_
    exact doneR rfl
  · skip
    refine squota_Quota_Left fun H hh => ?_
    dsimp only [cquota_Quota_Left]
    refine walk1 (k := ?_)
    repeat' first | refine And.intro ?_ ?_ | intro
    all_goals refine leaf ?_
    refine callE (hq) ?_
    refine walk1 (k := ?_)
    repeat' first | refine And.intro ?_ ?_ | intro
    all_goals refine leaf ?_
    exact doneR rfl
  · skip
    refine squota_Quota_Left fun H hh => ?_
    dsimp only [cquota_Quota_Left]
    refine walk1 (k := ?_)
    repeat' first | refine And.intro ?_ ?_ | intro
    all_goals refine leaf ?_
    refine callE (hq) ?_
    refine walk1 (k := ?_)
    repeat' first | refine And.intro ?_ ?_ | intro
    all_goals refine leaf ?_
    exact doneR rfl
end Go.Proofs.YtjgcgepfidcihaaGreatDoor
