/-
  The pool of workers: what its small functions answer (contracts over abstract jobs).
-/
import Derived.Test.YtjeipnnobgijmaaC0
namespace Go.Proofs.Ytjeipnnobgijmaa
open Go Go.CM
set_option maxRecDepth 100000
structure Job where
  client : Int
  serial : Int
  tenant : Int
  key : List UInt8
  epoch : Int
  token : Int
  waits : Bool
  phase : Int
  deriving Inhabited
structure Reply where
  tenant : Int
  key : List UInt8
  epoch : Int
  phase : Int
  token : Int
  code : Int
  deriving Inhabited
def Job.enc (j : Job) : List V := [.int .i64 j.client, .int .i64 j.serial, .int .i64 j.tenant, .str j.key, .int .i64 j.epoch, .int .i64 j.token, .bool j.waits, .int .i64 j.phase]
def Reply.enc (r : Reply) : List V := [.int .i64 r.tenant, .str r.key, .int .i64 r.epoch, .int .i64 r.phase, .int .i64 r.token, .int .i64 r.code]
def Job.zero : Job := ⟨0, 0, 0, [], 0, 0, false, 0⟩
def mine (j : Job) (r : Reply) : Bool := j.waits && (j.tenant == r.tenant && (j.key == r.key && (j.epoch == r.epoch && (j.token == r.token && j.phase == r.phase))))

theorem mine_prog (j : Job) (r : Reply) : CallsR Try.prog njob_Mine [.agg j.enc, .agg r.enc] [] fun v => v = .bool (mine j r) := by
  refine sjob_Mine fun H hh => ?_
  dsimp only [cjob_Mine]
  refine walk (k := ?_)
  repeat' first | refine And.intro ?_ ?_ | intro
  all_goals refine leaf ?_
  all_goals refine doneR ?_
  all_goals simp_all [mine]
  grind

abbrev Jobs := List (Option (Nat × Job))
def slotV : Option (Nat × Job) → V
  | none => .nilp
  | some (id, _) => .ptr id 0
def slotC (o : Option (Nat × Job)) : List V := [slotV o]
def objJ : Option (Nat × Job) → List Ob
  | none => []
  | some (id, j) => [(id, .cells true j.enc)]
/-- A pool's objects. -/
abbrev PL (p s : Nat) (jobs : Jobs) : List Ob :=
  (p, .cells true [.slice s 0 jobs.length 1]) :: (s, .cells true (jobs.flatMap slotC)) :: jobs.flatMap objJ

theorem len_prog (p s : Nat) (jobs : Jobs) : CallsR Try.prog npool_Pool_Len [.ptr p 0] (PL p s jobs) fun v => v = .int .i64 jobs.length := by
  refine spool_Pool_Len fun H hh => ?_
  dsimp only [cpool_Pool_Len]
  refine walk (k := ?_)
  repeat' first | refine And.intro ?_ ?_ | intro
  all_goals refine leaf ?_
  exact doneR rfl
theorem len_nil : CallsR Try.prog npool_Pool_Len [.nilp] [] fun v => v = .int .i64 0 := by
  refine spool_Pool_Len fun H hh => ?_
  dsimp only [cpool_Pool_Len]
  refine walk (k := ?_)
  repeat' first | refine And.intro ?_ ?_ | intro
  all_goals refine leaf ?_
  exact doneR rfl

def hasR (jobs : Jobs) (w : Int) : Int := if 0 ≤ w ∧ w < jobs.length then (if (nth jobs w.toNat).isSome then 0 else 6) else 1
def getJ (jobs : Jobs) (w : Int) : Option Job := if 0 ≤ w then (nth jobs w.toNat).map (·.2) else none

theorem has_nil (w : Int) : CallsR Try.prog npool_Pool_has [.nilp, .int .i64 w] [] fun v => v = .int .i64 1 := by
  refine spool_Pool_has fun H hh => ?_
  dsimp only [cpool_Pool_has]
  refine walk (k := ?_)
  repeat' first | refine And.intro ?_ ?_ | intro
  all_goals refine leaf ?_
  · exact doneR rfl
  · skip
    refine callE (len_nil) ?_
    refine walk (k := ?_)
    repeat' first | refine And.intro ?_ ?_ | intro
    all_goals refine leaf ?_
    · exact doneR rfl
    · omega
theorem has_prog (p s : Nat) (jobs : Jobs) (w : Int) : CallsR Try.prog npool_Pool_has [.ptr p 0, .int .i64 w] (PL p s jobs) fun v => v = .int .i64 (hasR jobs w) := by
  refine spool_Pool_has fun H hh => ?_
  dsimp only [cpool_Pool_has]
  refine walk (k := ?_)
  repeat' first | refine And.intro ?_ ?_ | intro
  all_goals refine leaf ?_
  · exact doneR (by simp [hasR]; omega)
  · skip
    refine callE (len_prog p s jobs) ?_
    refine walk (k := ?_)
    repeat' first | refine And.intro ?_ ?_ | intro
    all_goals refine leaf ?_
    · exact doneR (by simp [hasR]; omega)
    · generalize ho : nth jobs w.toNat = o
      rcases o with _ | ⟨id, j⟩
      all_goals
        refine walk (k := ?_)
        repeat' first | refine And.intro ?_ ?_ | intro
        all_goals refine leaf ?_
        exact doneR (by rw [hasR, if_pos (by omega), ho]; rfl)

theorem has_cases (jobs : Jobs) (w : Int) : (hasR jobs w ≠ 0 ∧ getJ jobs w = none) ∨ ∃ id j, 0 ≤ w ∧ w < jobs.length ∧ nth jobs w.toNat = some (id, j) ∧ hasR jobs w = 0 ∧ getJ jobs w = some j := by
  unfold hasR getJ
  by_cases h : 0 ≤ w ∧ w < jobs.length
  · rw [if_pos h, if_pos h.1]
    rcases nth jobs w.toNat with _ | ⟨id, j⟩
    · left; simp
    · right; exact ⟨id, j, h.1, h.2, rfl, rfl, rfl⟩
  · rw [if_neg h]
    left
    refine ⟨by simp, ?_⟩
    split
    · rw [nth_out (by omega)]; rfl
    · rfl

/-- A worker's job among the pool's objects. -/
theorem job_at : ∀ {jobs : Jobs} {i id : Nat} {j : Job}, nth jobs i = some (id, j) → (id, HObj.cells true j.enc) ∈ jobs.flatMap objJ
  | [], i, id, j, h => by rw [nth_nil] at h; cases h
  | o :: jobs, 0, id, j, h => by rw [nth_zero] at h; subst h; simp [objJ]
  | o :: jobs, i + 1, id, j, h => by
    simp only [List.flatMap_cons, List.mem_append]
    exact .inr (job_at (by rwa [nth_succ] at h))
theorem at_mem {x : Ob} {A R : List Ob} (h : x ∈ A) : At x (A ++ R) := by
  obtain ⟨B, C, rfl⟩ := List.append_of_mem h
  rw [List.append_assoc]
  exact .skip .here
theorem at_mem' {x : Ob} {A : List Ob} (h : x ∈ A) : At x A := by
  have := at_mem (R := []) h
  rwa [List.append_nil] at this

theorem get_nil (w : Int) : CallsR Try.prog npool_Pool_Get [.nilp, .int .i64 w] [] fun v => v = .tup [.agg Job.zero.enc, .bool false] := by
  refine spool_Pool_Get fun H hh => ?_
  dsimp only [cpool_Pool_Get]
  refine walk (k := ?_)
  repeat' first | refine And.intro ?_ ?_ | intro
  all_goals refine leaf ?_
  refine callE (has_nil w) ?_
  refine walk (k := ?_)
  repeat' first | refine And.intro ?_ ?_ | intro
  all_goals refine leaf ?_
  exact doneR rfl
theorem get_prog (p s : Nat) (jobs : Jobs) (w : Int) : CallsR Try.prog npool_Pool_Get [.ptr p 0, .int .i64 w] (PL p s jobs) fun v => v = .tup [.agg ((getJ jobs w).getD Job.zero).enc, .bool (getJ jobs w).isSome] := by
  refine spool_Pool_Get fun H hh => ?_
  dsimp only [cpool_Pool_Get]
  refine walk (k := ?_)
  repeat' first | refine And.intro ?_ ?_ | intro
  all_goals refine leaf ?_
  have hp := has_prog p s jobs w
  rcases has_cases jobs w with ⟨h1, h2⟩ | ⟨id, j, hw, hw2, hj, h0, h2⟩
  · skip
    refine callE (hp) ?_
    refine walk (k := ?_)
    repeat' first | refine And.intro ?_ ?_ | intro
    all_goals refine leaf ?_
    all_goals first | omega | exact doneR (by rw [h2]; rfl)
  · rw [h0] at hp
    refine callE (hp) ?_
    refine walk (k := ?_)
    repeat' first | refine And.intro ?_ ?_ | intro
    all_goals refine leaf ?_
    rename_i hh
    rw [hj]
    refine walk1 (k := ?_)
    repeat' first | refine And.intro ?_ ?_ | intro
    all_goals refine leaf ?_
    refine wps_lda hh rfl (.there (.there (.there (at_mem' (job_at hj))))) rfl ?_
    refine walk (k := ?_)
    repeat' first | refine And.intro ?_ ?_ | intro
    all_goals refine leaf ?_
    exact doneR (by rw [h2]; rfl)

theorem done_nil (w : Int) : CallsR Try.prog npool_Pool_Done [.nilp, .int .i64 w] [] fun v => v = .int .i64 1 := by
  refine spool_Pool_Done fun H hh => ?_
  dsimp only [cpool_Pool_Done]
  refine walk (k := ?_)
  repeat' first | refine And.intro ?_ ?_ | intro
  all_goals refine leaf ?_
  refine callE (has_nil w) ?_
  refine walk (k := ?_)
  repeat' first | refine And.intro ?_ ?_ | intro
  all_goals refine leaf ?_
  exact doneR rfl
theorem set_nil (w : Int) (j : Job) : CallsR Try.prog npool_Pool_Set [.nilp, .int .i64 w, .agg j.enc] [] fun v => v = .int .i64 1 := by
  refine spool_Pool_Set fun H hh => ?_
  dsimp only [cpool_Pool_Set]
  refine walk (k := ?_)
  repeat' first | refine And.intro ?_ ?_ | intro
  all_goals refine leaf ?_
  refine callE (has_nil w) ?_
  refine walk (k := ?_)
  repeat' first | refine And.intro ?_ ?_ | intro
  all_goals refine leaf ?_
  exact doneR rfl

/-- One of a row's owners is another one: its objects in place of the old one's. -/
theorem flatMap_set {α β : Type} (f : α → List β) (x : α) : ∀ (l : List α) (i : Nat), ∃ M, ((l.set i x).flatMap f).Perm M ∧ M.Sublist (f x ++ l.flatMap f)
  | [], i => ⟨[], by simp, by simp⟩
  | a :: l, 0 => ⟨f x ++ l.flatMap f, by simp, by simp⟩
  | a :: l, i + 1 => by
    obtain ⟨M, h1, h2⟩ := flatMap_set f x l i
    obtain ⟨M1, M2, rfl, h3, h4⟩ := List.sublist_append_iff.1 h2
    refine ⟨M1 ++ (f a ++ M2), ?_, ?_⟩
    · simp only [List.set_cons_succ, List.flatMap_cons]
      refine (h1.append_left (f a)).trans ?_
      rw [← List.append_assoc, ← List.append_assoc]
      exact List.perm_append_comm.append_right M2
    · simp only [List.flatMap_cons]
      exact h3.append ((List.Sublist.refl _).append h4)
/-- A place of the pool has another job: its objects. -/
theorem PL_set {H : Heap} {p s : Nat} {jobs : Jobs} {w : Nat} {o : Option (Nat × Job)}
    (h : Has H (objJ o ++ (p, .cells true [.slice s 0 jobs.length 1]) :: (s, .cells true ((jobs.set w o).flatMap slotC)) :: jobs.flatMap objJ)) : Has H (PL p s (jobs.set w o)) := by
  obtain ⟨M, h1, h2⟩ := flatMap_set objJ o jobs w
  have h' := h.perm (L' := (p, .cells true [.slice s 0 jobs.length 1]) :: (s, .cells true ((jobs.set w o).flatMap slotC)) :: (objJ o ++ jobs.flatMap objJ)) (by
    have := List.perm_append_comm (l₁ := objJ o) (l₂ := [(p, HObj.cells true [V.slice s 0 jobs.length 1]), (s, .cells true ((jobs.set w o).flatMap slotC))])
    simpa using this.append_right (jobs.flatMap objJ))
  rw [PL, List.length_set]
  exact (h'.sub ((h2.cons_cons _).cons_cons _)).perm ((h1.symm.cons _).cons _)

theorem done_prog (p s : Nat) (jobs : Jobs) (w : Int) : CallsL Try.prog npool_Pool_Done [.ptr p 0, .int .i64 w] (PL p s jobs) fun v L' => v = .int .i64 (hasR jobs w) ∧ L' = PL p s (if hasR jobs w = 0 then jobs.set w.toNat none else jobs) := by
  refine spool_Pool_Done fun H hh => ?_
  dsimp only [cpool_Pool_Done]
  refine walk (k := ?_)
  repeat' first | refine And.intro ?_ ?_ | intro
  all_goals refine leaf ?_
  have hp := has_prog p s jobs w
  rcases has_cases jobs w with ⟨h1, h2⟩ | ⟨id, j, hw, hw2, hj, h0, h2⟩
  · skip
    refine callE (hp) ?_
    refine walk (k := ?_)
    repeat' first | refine And.intro ?_ ?_ | intro
    all_goals refine leaf ?_
    all_goals first | omega | exact done ⟨rfl, by rw [if_neg h1]⟩
  · rw [h0] at hp
    refine callE (hp) ?_
    refine walk (k := ?_)
    repeat' first | refine And.intro ?_ ?_ | intro
    all_goals refine leaf ?_
    refine wps_sr hh (u := none) (l := jobs) (enc := slotC) rfl rfl rfl rfl (fun _ => rfl) (by omega) (.there .here1) fun _ hh => ?_
    refine walk (k := ?_)
    repeat' first | refine And.intro ?_ ?_ | intro
    all_goals refine leaf ?_
    exact .mk (PL_set (o := none) hh) ⟨by rw [h0], by rw [if_pos h0]⟩

theorem set_prog (p s : Nat) (jobs : Jobs) (w : Int) (j : Job) : CallsL Try.prog npool_Pool_Set [.ptr p 0, .int .i64 w, .agg j.enc] (PL p s jobs) fun v L' => v = .int .i64 (hasR jobs w) ∧ ∃ id, L' = PL p s (if hasR jobs w = 0 then jobs.set w.toNat (some (id, j)) else jobs) := by
  refine spool_Pool_Set fun H hh => ?_
  dsimp only [cpool_Pool_Set]
  refine walk (k := ?_)
  repeat' first | refine And.intro ?_ ?_ | intro
  all_goals refine leaf ?_
  have hp := has_prog p s jobs w
  rcases has_cases jobs w with ⟨h1, h2⟩ | ⟨id, j', hw, hw2, hj, h0, h2⟩
  · skip
    refine callE (hp) ?_
    refine walk (k := ?_)
    repeat' first | refine And.intro ?_ ?_ | intro
    all_goals refine leaf ?_
    all_goals first | omega | exact done ⟨rfl, 0, by rw [if_neg h1]⟩
  · rw [h0] at hp
    refine callE (hp) ?_
    refine walk (k := ?_)
    repeat' first | refine And.intro ?_ ?_ | intro
    all_goals refine leaf ?_
    rename_i nid _ hh
    refine wps_sr hh (u := some (nid, j)) (l := jobs) (enc := slotC) rfl rfl rfl rfl (fun _ => rfl) (by omega) (.there (.there .here1)) fun _ hh => ?_
    refine walk (k := ?_)
    repeat' first | refine And.intro ?_ ?_ | intro
    all_goals refine leaf ?_
    exact .mk (PL_set (o := some (nid, j)) hh) ⟨by rw [h0], nid, by rw [if_pos h0]⟩
end Go.Proofs.Ytjeipnnobgijmaa
