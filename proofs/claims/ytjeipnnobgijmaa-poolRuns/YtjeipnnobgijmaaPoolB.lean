/-
  The pool of workers: who is free, all jobs, who waits for a reply.
-/
import Derived.Test.YtjeipnnobgijmaaPoolA
namespace Go.Proofs.Ytjeipnnobgijmaa
open Go Go.CM
set_option maxRecDepth 100000

def firstR (jobs : Jobs) : Option Nat := jobs.findIdx? (·.isNone)
theorem findIdx_at {α : Type} [Inhabited α] {p : α → Bool} {l : List α} {i : Nat} (hi : i < l.length) (hp : p (nth l i) = true) (hall : (l.take i).all (fun x => !p x) = true) : l.findIdx? p = some i := by
  rw [List.findIdx?_eq_some_iff_getElem]
  have h := getD_some hi
  rw [List.getElem?_eq_getElem hi] at h
  refine ⟨hi, by rw [Option.some.inj h]; exact hp, fun k hk => ?_⟩
  have := List.all_eq_true.1 hall (l[k]'(by omega)) (List.mem_iff_getElem.2 ⟨k, by simp; omega, by simp⟩)
  simpa using this
theorem findIdx_no {α : Type} {p : α → Bool} {l : List α} (hall : (l.take l.length).all (fun x => !p x) = true) : l.findIdx? p = none := by
  rw [List.findIdx?_eq_none_iff]
  intro x hx
  rw [List.take_length] at hall
  simpa using List.all_eq_true.1 hall x hx
theorem all_step {α : Type} [Inhabited α] {q : α → Bool} {l : List α} {i : Nat} (hi : i < l.length) (hall : (l.take i).all q = true) (hq : q (nth l i) = true) : (l.take (i + 1)).all q = true := by
  rw [take_getD hi, List.all_append, hall]; simp only [List.all_cons, List.all_nil, hq]; rfl

theorem give_nil (j : Job) : CallsR Try.prog npool_Pool_Give [.nilp, .agg j.enc] [] fun v => v = .tup [.int .i64 0, .int .i64 1] := by
  refine spool_Pool_Give fun H hh => ?_
  dsimp only [cpool_Pool_Give]
  refine walk (k := ?_)
  repeat' first | refine And.intro ?_ ?_ | intro
  all_goals refine leaf ?_
  exact doneR rfl
theorem give_prog (p s : Nat) (jobs : Jobs) (hl : jobs.length ≤ 4) (j : Job) : CallsL Try.prog npool_Pool_Give [.ptr p 0, .agg j.enc] (PL p s jobs) fun v L' => ∃ id,
    (match firstR jobs with
      | some i => v = .tup [.int .i64 i, .int .i64 0] ∧ L' = PL p s (jobs.set i (some (id, j)))
      | none => v = .tup [.int .i64 0, .int .i64 2] ∧ L' = PL p s jobs) := by
  refine spool_Pool_Give fun H hh => ?_
  dsimp only [cpool_Pool_Give]
  refine walk (k := ?_)
  repeat' first | refine And.intro ?_ ?_ | intro
  all_goals refine leaf ?_
  rename_i nid _ hh
  refine loopN [0, 3, 13, 14, 15] jobs.length (fun i vs L => (jobs.take i).all (fun o => !o.isNone) = true ∧ vs = [.ptr p 0, .ptr nid 0, .slice s 0 jobs.length 1, .int .i64 jobs.length, .int .i64 i] ∧ L = (nid, .cells true j.enc) :: PL p s jobs) (Nx.here ⟨by simp, rfl, rfl⟩) ?_
  clear hh
  rintro i _ _ e H hi ⟨hall, rfl, rfl⟩ hh
  simp only [puts]
  refine walk (k := ?_)
  repeat' first | refine And.intro ?_ ?_ | intro
  all_goals refine leaf ?_
  · generalize ho : nth jobs i = o
    have hi : i < jobs.length := by omega
    rcases o with _ | ⟨id, j'⟩
    · skip
      refine walk (k := ?_)
      repeat' first | refine And.intro ?_ ?_ | intro
      all_goals refine leaf ?_
      refine wps_sr hh (u := some (nid, j)) (l := jobs) (enc := slotC) rfl rfl rfl rfl (fun _ => rfl) hi (.there (.there .here1)) fun _ hh => ?_
      refine walk (k := ?_)
      repeat' first | refine And.intro ?_ ?_ | intro
      all_goals refine leaf ?_
      refine .mk (PL_set (o := some (nid, j)) hh) ⟨nid, ?_⟩
      rw [firstR, findIdx_at hi (by rw [ho]; rfl) hall]
      exact ⟨rfl, rfl⟩
    · skip
      refine walk (k := ?_)
      repeat' first | refine And.intro ?_ ?_ | intro
      all_goals refine leaf ?_
      exact Nx.next hi ⟨all_step hi hall (by rw [ho]; rfl), rfl, rfl⟩
  · have : i = jobs.length := by omega
    subst this
    refine done (N := PL p s jobs) ⟨nid, ?_⟩
    rw [firstR, findIdx_no hall]
    exact ⟨rfl, rfl⟩

def allR (jobs : Jobs) : List Job := jobs.filterMap fun o => o.map (·.2)
theorem all_le (jobs : Jobs) : (allR jobs).length ≤ jobs.length := List.length_filterMap_le _ _
theorem all_next {jobs : Jobs} {i : Nat} {o : Option (Nat × Job)} (hi : i < jobs.length) (ho : nth jobs i = o) : allR (jobs.take (i + 1)) = allR (jobs.take i) ++ (o.map (·.2)).toList := by
  rw [take_getD hi, ho, allR, List.filterMap_append]; rcases o with _ | x <;> rfl

theorem all_nil : CallsR Try.prog npool_Pool_All [.nilp] [] fun v => v = .nils := by
  refine spool_Pool_All fun H hh => ?_
  dsimp only [cpool_Pool_All]
  refine walk (k := ?_)
  repeat' first | refine And.intro ?_ ?_ | intro
  all_goals refine leaf ?_
  exact doneR rfl
theorem all_prog (p s : Nat) (jobs : Jobs) (hl : jobs.length ≤ 4) : CallsN Try.prog npool_Pool_All [.ptr p 0] (PL p s jobs) fun v Lo => ∃ o, v = .slice o 0 (allR jobs).length 8 ∧ Lo = [(o, .cells true ((allR jobs).flatMap Job.enc))] := by
  refine spool_Pool_All fun H hh => ?_
  dsimp only [cpool_Pool_All]
  refine walk (k := ?_)
  repeat' first | refine And.intro ?_ ?_ | intro
  all_goals refine leaf ?_
  refine loopN [3, 11, 12, 13] jobs.length (fun i vs L => ∃ o, vs = [.slice o 0 (allR (jobs.take i)).length 8, .slice s 0 jobs.length 1, .int .i64 jobs.length, .int .i64 i] ∧ L = (o, .cells true ((allR (jobs.take i)).flatMap Job.enc)) :: PL p s jobs) (Nx.hereW [.slice 0 0 0 8, _, _, _] ⟨0, rfl, rfl⟩) ?_
  clear hh
  rintro i _ _ e H hi ⟨o, rfl, rfl⟩ hh
  simp only [puts]
  have hle : (allR (jobs.take i)).length ≤ i := Nat.le_trans (all_le _) (by simp; omega)
  refine walk (k := ?_)
  repeat' first | refine And.intro ?_ ?_ | intro
  all_goals refine leaf ?_
  · generalize ho : nth jobs i = x
    have hi : i < jobs.length := by omega
    have hn := all_next hi ho
    rcases x with _ | ⟨id, j⟩
    · skip
      refine walk (k := ?_)
      repeat' first | refine And.intro ?_ ?_ | intro
      all_goals refine leaf ?_
      replace hn : allR (jobs.take (i + 1)) = allR (jobs.take i) := by simpa using hn
      exact Nx.next hi ⟨o, by rw [hn]; rfl, by rw [hn]⟩
    · skip
      refine walk1 (k := ?_)
      repeat' first | refine And.intro ?_ ?_ | intro
      all_goals refine leaf ?_
      refine wps_lda hh rfl (.there (.there (.there (at_mem' (job_at ho))))) rfl ?_
      refine walk (k := ?_)
      repeat' first | refine And.intro ?_ ?_ | intro
      all_goals refine leaf ?_
      rename_i t o' _ _
      exact Nx.next hi ⟨o', by rw [hn]; rfl, by rw [hn]⟩
  · have : i = jobs.length := by omega
    subst this
    rw [List.take_length] at hh ⊢
    exact doneN ⟨o, rfl, rfl⟩
theorem free_prog (p s : Nat) (jobs : Jobs) (hl : jobs.length ≤ 4) : CallsR Try.prog npool_Pool_Free [.ptr p 0] (PL p s jobs) fun v => v = .int .i64 ((jobs.length : Int) - (allR jobs).length) := by
  refine spool_Pool_Free fun H hh => ?_
  dsimp only [cpool_Pool_Free]
  refine walk (k := ?_)
  repeat' first | refine And.intro ?_ ?_ | intro
  all_goals refine leaf ?_
  refine callE (len_prog p s jobs) ?_
  refine walk (k := ?_)
  repeat' first | refine And.intro ?_ ?_ | intro
  all_goals refine leaf ?_
  refine callN (all_prog p s jobs hl) ?_
  rintro _ _ H' ⟨o, rfl, rfl⟩ hh
  have hle := all_le jobs
  refine walk (k := ?_)
  repeat' first | refine And.intro ?_ ?_ | intro
  all_goals refine leaf ?_
  exact doneR rfl
theorem free_nil : CallsR Try.prog npool_Pool_Free [.nilp] [] fun v => v = .int .i64 0 := by
  refine spool_Pool_Free fun H hh => ?_
  dsimp only [cpool_Pool_Free]
  refine walk (k := ?_)
  repeat' first | refine And.intro ?_ ?_ | intro
  all_goals refine leaf ?_
  refine callE (len_nil) ?_
  refine walk (k := ?_)
  repeat' first | refine And.intro ?_ ?_ | intro
  all_goals refine leaf ?_
  refine callE (all_nil) ?_
  refine walk (k := ?_)
  repeat' first | refine And.intro ?_ ?_ | intro
  all_goals refine leaf ?_
  exact doneR rfl

def forR (jobs : Jobs) (r : Reply) : Option Nat := jobs.findIdx? fun o => match o with | none => false | some x => mine x.2 r
def natV (o : Option Nat) : V := match o with | none => .int .i64 (-1) | some i => .int .i64 i
theorem for_nil (r : Reply) : CallsR Try.prog npool_Pool_For [.nilp, .agg r.enc] [] fun v => v = .int .i64 (-1) := by
  refine spool_Pool_For fun H hh => ?_
  dsimp only [cpool_Pool_For]
  refine walk (k := ?_)
  repeat' first | refine And.intro ?_ ?_ | intro
  all_goals refine leaf ?_
  refine callE (len_nil) ?_
  refine walk (k := ?_)
  repeat' first | refine And.intro ?_ ?_ | intro
  all_goals refine leaf ?_
  refine loopN [9, 10] 0 (fun i vs L => vs = [.int .i64 0, .int .i64 0] ∧ L = []) (Nx.here ⟨rfl, rfl⟩) ?_
  rintro i _ _ e H hi ⟨rfl, rfl⟩ hh
  simp only [puts]
  refine walk (k := ?_)
  repeat' first | refine And.intro ?_ ?_ | intro
  all_goals refine leaf ?_
  exact doneR rfl

theorem getJ_nat (jobs : Jobs) (i : Nat) : getJ jobs (i : Int) = (nth jobs i).map (·.2) := by simp [getJ, default]
theorem for_prog (p s : Nat) (jobs : Jobs) (hl : jobs.length ≤ 4) (r : Reply) : CallsR Try.prog npool_Pool_For [.ptr p 0, .agg r.enc] (PL p s jobs) fun v => v = natV (forR jobs r) := by
  refine spool_Pool_For fun H hh => ?_
  dsimp only [cpool_Pool_For]
  refine walk (k := ?_)
  repeat' first | refine And.intro ?_ ?_ | intro
  all_goals refine leaf ?_
  refine callE (len_prog p s jobs) ?_
  refine walk (k := ?_)
  repeat' first | refine And.intro ?_ ?_ | intro
  all_goals refine leaf ?_
  rename_i rid _ hh
  refine loopN [0, 3, 9, 10] jobs.length (fun i vs L => (jobs.take i).all (fun o => !(match o with | none => false | some x => mine x.2 r)) = true ∧ vs = [.ptr p 0, .ptr rid 0, .int .i64 jobs.length, .int .i64 i] ∧ L = (rid, .cells true r.enc) :: PL p s jobs) (Nx.here ⟨by simp, rfl, rfl⟩) ?_
  clear hh
  rintro i _ _ e H hi ⟨hall, rfl, rfl⟩ hh
  simp only [puts]
  refine walk (k := ?_)
  repeat' first | refine And.intro ?_ ?_ | intro
  all_goals refine leaf ?_
  · have hg := get_prog p s jobs i
    rw [getJ_nat] at hg
    generalize ho : nth jobs i = o at hg
    have hi : i < jobs.length := by omega
    refine callE (hg) ?_
    refine walk (k := ?_)
    repeat' first | refine And.intro ?_ ?_ | intro
    all_goals refine leaf ?_
    all_goals rcases o with _ | ⟨id, j⟩
    all_goals try (rename_i hc; cases hc; done)
    · skip
      refine callE (mine_prog j r) ?_
      refine walk (k := ?_)
      repeat' first | refine And.intro ?_ ?_ | intro
      all_goals refine leaf ?_
      · rename_i hc
        refine doneR ?_
        rw [forR, findIdx_at hi (by rw [ho]; exact hc) hall]; rfl
      · rename_i hc
        exact Nx.next hi ⟨all_step hi hall (by rw [ho]; simp only [hc]; rfl), rfl, rfl⟩
    · skip
      refine walk (k := ?_)
      repeat' first | refine And.intro ?_ ?_ | intro
      all_goals refine leaf ?_
      exact Nx.next hi ⟨all_step hi hall (by rw [ho]; rfl), rfl, rfl⟩
  · have : i = jobs.length := by omega
    subst this
    refine doneR ?_
    rw [forR, findIdx_no hall]; rfl

def clampN (n : Int) : Nat := (min (max n 1) 4).toNat
theorem rep_jobs : ∀ k : Nat, rep [.nilp] k = (List.replicate k none : Jobs).flatMap slotC
  | 0 => rfl
  | k + 1 => by simp [rep, rep_jobs k, List.replicate_succ, slotC, slotV]
theorem new_prog (n : Int) : CallsL Try.prog npool_New [.int .i64 n] [] fun v L' => ∃ p s, v = .ptr p 0 ∧ L' = PL p s (List.replicate (clampN n) none) := by
  refine spool_New fun H hh => ?_
  dsimp only [cpool_New]
  refine walk (k := ?_)
  repeat' first | refine And.intro ?_ ?_ | intro
  all_goals refine leaf ?_
  have hk : clampN n = (min (max n 1) 4).toNat := rfl
  refine wps_slot (s := 5) (v := .int .i64 (clampN n : Nat)) (by show V.int _ _ = _; congr 1; split <;> omega) ?_
  refine wps_mkSl hh rfl rfl (by omega) fun sid _ hh => ?_
  rw [show ((clampN n : Nat) : Int).toNat = clampN n from rfl, rep_jobs] at hh
  refine walk (k := ?_)
  repeat' first | refine And.intro ?_ ?_ | intro
  all_goals refine leaf ?_
  rename_i pid _ _
  refine done (N := PL pid sid (List.replicate (clampN n) none)) ⟨pid, sid, rfl, rfl⟩ (by assumption) (R := []) ?_
  rw [PL, List.length_replicate, show (List.replicate (clampN n) (none : Option (Nat × Job))).flatMap objJ = [] by simp [objJ]]
  exact .cons .here (.cons .here .nil)
end Go.Proofs.Ytjeipnnobgijmaa
