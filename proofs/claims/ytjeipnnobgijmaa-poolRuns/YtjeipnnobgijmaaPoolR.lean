/-
  The pool of workers: the document's answer, over the same abstract jobs; who is awake, and nobody.
-/
import Derived.Test.YtjeipnnobgijmaaPoolB
namespace Go.Proofs.Ytjeipnnobgijmaa
open Go Go.CM
set_option maxRecDepth 100000

theorem rmine_prog (j : Job) (r : Reply) : CallsR Try.prog nref29_Mine [.agg j.enc, .agg r.enc] [] fun v => v = .bool (mine j r) := by
  refine sref29_Mine fun H hh => ?_
  dsimp only [cref29_Mine]
  refine walk (k := ?_)
  repeat' first | refine And.intro ?_ ?_ | intro
  all_goals refine leaf ?_
  all_goals refine doneR ?_
  all_goals simp_all [mine]

structure Slot where
  busy : Bool
  job : Job
  deriving Inhabited
def Slot.enc (s : Slot) : List V := .bool s.busy :: s.job.enc
def slotOf : Option (Nat × Job) → Slot
  | none => ⟨false, Job.zero⟩
  | some (_, j) => ⟨true, j⟩
abbrev SL (t : Nat) (ss : List Slot) : List Ob := [(t, .cells true (ss.flatMap Slot.enc))]

def firstS (ss : List Slot) : Option Nat := ss.findIdx? fun s => !s.busy
theorem rfirst_prog (t : Nat) (ss : List Slot) (hl : ss.length ≤ 4) : CallsR Try.prog nref30_First [.slice t 0 ss.length 9] (SL t ss) fun v => v = natV (firstS ss) := by
  refine sref30_First fun H hh => ?_
  dsimp only [cref30_First]
  refine walk (k := ?_)
  repeat' first | refine And.intro ?_ ?_ | intro
  all_goals refine leaf ?_
  refine loopN [0, 3] ss.length (fun i vs L => (ss.take i).all (fun s => !!s.busy) = true ∧ vs = [.slice t 0 ss.length 9, .int .i64 i] ∧ L = SL t ss) (Nx.here ⟨by simp, rfl, rfl⟩) ?_
  clear hh
  rintro i _ _ e H hi ⟨hall, rfl, rfl⟩ hh
  simp only [puts]
  refine walk (k := ?_)
  repeat' first | refine And.intro ?_ ?_ | intro
  all_goals refine leaf ?_
  · rename_i hc hb
    have hi : i < ss.length := by omega
    refine doneR ?_
    rw [firstS, findIdx_at hi hb hall]; rfl
  · rename_i hc hb
    exact Nx.next (by omega) ⟨all_step (by omega) hall (by simpa using hb), rfl, rfl⟩
  · have : i = ss.length := by omega
    subst this
    refine doneR ?_
    rw [firstS, findIdx_no hall]; rfl

def forS (ss : List Slot) (r : Reply) : Option Nat := ss.findIdx? fun s => s.busy && mine s.job r
theorem rfor_prog (t : Nat) (ss : List Slot) (hl : ss.length ≤ 4) (r : Reply) : CallsR Try.prog nref30_For [.slice t 0 ss.length 9, .agg r.enc] (SL t ss) fun v => v = natV (forS ss r) := by
  refine sref30_For fun H hh => ?_
  dsimp only [cref30_For]
  refine walk (k := ?_)
  repeat' first | refine And.intro ?_ ?_ | intro
  all_goals refine leaf ?_
  rename_i rid _ hh
  refine loopN [0, 3, 5] ss.length (fun i vs L => (ss.take i).all (fun s => !(s.busy && mine s.job r)) = true ∧ vs = [.slice t 0 ss.length 9, .ptr rid 0, .int .i64 i] ∧ L = (rid, .cells true r.enc) :: SL t ss) (Nx.here ⟨by simp, rfl, rfl⟩) ?_
  clear hh
  rintro i _ _ e H hi ⟨hall, rfl, rfl⟩ hh
  simp only [puts]
  refine walk (k := ?_)
  repeat' first | refine And.intro ?_ ?_ | intro
  all_goals refine leaf ?_
  · have hi : i < ss.length := by omega
    rename_i hc hb
    refine callE (rmine_prog (nth ss i).job r) ?_
    refine walk (k := ?_)
    repeat' first | refine And.intro ?_ ?_ | intro
    all_goals refine leaf ?_
    · rename_i hq
      refine doneR ?_
      rw [forS, findIdx_at hi (by simp only [hb, hq]; rfl) hall]; rfl
    · rename_i hq
      exact Nx.next hi ⟨all_step hi hall (by simp only [hb, hq]; rfl), rfl, rfl⟩
  · rename_i hc hb
    exact Nx.next (by omega) ⟨all_step (by omega) hall (by simp only [hb]; rfl), rfl, rfl⟩
  · have : i = ss.length := by omega
    subst this
    refine doneR ?_
    rw [forS, findIdx_no hall]; rfl

def hasS (ss : List Slot) (w : Int) : Int := if 0 ≤ w ∧ w < ss.length then (if (nth ss w.toNat).busy then 0 else 6) else 1
theorem rhas_prog (t : Nat) (ss : List Slot) (w : Int) : CallsR Try.prog nref30_Has [.slice t 0 ss.length 9, .int .i64 w] (SL t ss) fun v => v = .int .i64 (hasS ss w) := by
  refine sref30_Has fun H hh => ?_
  dsimp only [cref30_Has]
  refine walk (k := ?_)
  repeat' first | refine And.intro ?_ ?_ | intro
  all_goals refine leaf ?_
  · exact doneR (by rw [hasS, if_neg (by omega)])
  · exact doneR (by rw [hasS, if_neg (by omega)])
  all_goals
    rename_i hb
    simp at hb
    exact doneR (by rw [hasS, if_pos (by omega), hb]; rfl)

def allS (ss : List Slot) : List Job := ss.filterMap fun s => bif s.busy then some s.job else none
theorem allS_le (ss : List Slot) : (allS ss).length ≤ ss.length := List.length_filterMap_le _ _
theorem allS_next {ss : List Slot} {i : Nat} {b : Bool} (hi : i < ss.length) (hb : (nth ss i).busy = b) : allS (ss.take (i + 1)) = allS (ss.take i) ++ bif b then [(nth ss i).job] else [] := by
  rw [take_getD hi, allS, List.filterMap_append]; cases b <;> simp only [List.filterMap_cons, List.filterMap_nil, hb] <;> rfl
theorem rall_prog (t : Nat) (ss : List Slot) (hl : ss.length ≤ 4) : CallsN Try.prog nref30_All [.slice t 0 ss.length 9] (SL t ss) fun v Lo => ∃ o, v = .slice o 0 (allS ss).length 8 ∧ Lo = [(o, .cells true ((allS ss).flatMap Job.enc))] := by
  refine sref30_All fun H hh => ?_
  dsimp only [cref30_All]
  refine walk (k := ?_)
  repeat' first | refine And.intro ?_ ?_ | intro
  all_goals refine leaf ?_
  refine loopN [0, 3, 4] ss.length (fun i vs L => ∃ o, vs = [.slice t 0 ss.length 9, .slice o 0 (allS (ss.take i)).length 8, .int .i64 i] ∧ L = (o, .cells true ((allS (ss.take i)).flatMap Job.enc)) :: SL t ss) (Nx.hereW [_, .slice 0 0 0 8, _] ⟨0, rfl, rfl⟩) ?_
  clear hh
  rintro i _ _ e H hi ⟨o, rfl, rfl⟩ hh
  simp only [puts]
  have hle : (allS (ss.take i)).length ≤ i := Nat.le_trans (allS_le _) (by simp; omega)
  refine walk (k := ?_)
  repeat' first | refine And.intro ?_ ?_ | intro
  all_goals refine leaf ?_
  · rename_i hc hb _ o' _ _
    have hn := allS_next (by omega) hb
    exact Nx.next (by omega) ⟨o', by rw [hn] <;> rfl, by rw [hn] <;> rfl⟩
  · rename_i hc hb
    have hn := allS_next (by omega) hb
    rw [cond_false, List.append_nil] at hn
    exact Nx.next (by omega) ⟨o, by rw [hn]; rfl, by rw [hn]⟩
  · have : i = ss.length := by omega
    subst this
    rw [List.take_length] at hh ⊢
    exact doneN ⟨o, rfl, rfl⟩

theorem rep_slots : ∀ k : Nat, rep [.bool false, .int .i64 0, .int .i64 0, .int .i64 0, .str [], .int .i64 0, .int .i64 0, .bool false, .int .i64 0] k = (List.replicate k ⟨false, Job.zero⟩).flatMap Slot.enc
  | 0 => rfl
  | k + 1 => by simp [rep, rep_slots k, List.replicate_succ, Slot.enc, Job.zero, Job.enc]
theorem rnew_prog (n : Int) : CallsL Try.prog nref30_New [.int .i64 n] [] fun v L' => ∃ t, v = .slice t 0 (clampN n) 9 ∧ L' = SL t (List.replicate (clampN n) ⟨false, Job.zero⟩) := by
  refine sref30_New fun H hh => ?_
  dsimp only [cref30_New]
  refine walk (k := ?_)
  repeat' first | refine And.intro ?_ ?_ | intro
  all_goals refine leaf ?_
  all_goals have hk : clampN n = (min (max n 1) 4).toNat := rfl
  all_goals refine wps_slot (s := 7) (v := .int .i64 (clampN n : Nat)) (by show V.int _ _ = _; congr 1; omega) ?_
  all_goals refine wps_mkSl hh rfl rfl (by omega) fun sid _ hh => ?_
  all_goals rw [show ((clampN n : Nat) : Int).toNat = clampN n from rfl, rep_slots] at hh
  all_goals
    refine walk (k := ?_)
    repeat' first | refine And.intro ?_ ?_ | intro
    all_goals refine leaf ?_
    exact done ⟨sid, rfl, rfl⟩

theorem same_prog (l : List Job) (a b : Nat) (hl : l.length ≤ 4) : CallsR Try.prog nref30_Same [.slice a 0 l.length 8, .slice b 0 l.length 8] [(a, .cells true (l.flatMap Job.enc)), (b, .cells true (l.flatMap Job.enc))] fun v => v = .bool true := by
  refine sref30_Same fun H hh => ?_
  dsimp only [cref30_Same]
  refine walk (k := ?_)
  repeat' first | refine And.intro ?_ ?_ | intro
  all_goals refine leaf ?_
  · omega
  · refine loopN [0, 1, 5] l.length (fun i vs L => vs = [.slice a 0 l.length 8, .slice b 0 l.length 8, .int .i64 i] ∧ L = [(a, .cells true (l.flatMap Job.enc)), (b, .cells true (l.flatMap Job.enc))]) (Nx.here ⟨rfl, rfl⟩) ?_
    clear hh
    rintro i _ _ e H hi ⟨rfl, rfl⟩ hh
    simp only [puts]
    refine walk (k := ?_)
    repeat' first | refine And.intro ?_ ?_ | intro
    all_goals refine leaf ?_
    · rename_i hb
      simp at hb
    · exact Nx.next (by omega) ⟨rfl, rfl⟩
    · exact doneR rfl
end Go.Proofs.Ytjeipnnobgijmaa
