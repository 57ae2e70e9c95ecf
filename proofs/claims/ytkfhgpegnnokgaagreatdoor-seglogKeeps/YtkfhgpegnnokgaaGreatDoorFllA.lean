/-
  The files of a word: their numbers, the last one, their bytes; those below a number go.
-/
import Derived.Test.YtkfhgpegnnokgaaGreatDoorFilN
import Derived.Test.YtkfhgpegnnokgaaGreatDoorDskD
namespace Go.Proofs.YtkfhgpegnnokgaaGreatDoor
open Go Go.CM
set_option maxRecDepth 100000
set_option maxHeartbeats 4000000

def inC (n : Int) : List V := [.int .i64 n]
abbrev IL (s : Nat) (b : Bool) (l : List Int) : Ob := (s, .cells b (l.flatMap inC))
noncomputable def numsL (w : Tx) (names : List Tx) : List Int := (names.map (numOf w)).filter fun n => decide (0 < n)
def srtN (l : List Int) : List Int := l.mergeSort fun x y => decide (x ≤ y)
noncomputable def allL (w : Tx) (l : List (Tx × Tx)) : List Int := srtN (numsL w (l.map (·.1)))
theorem nums_app (w : Tx) (a b : List Tx) : numsL w (a ++ b) = numsL w a ++ numsL w b := by unfold numsL; rw [List.map_append, List.filter_append]
theorem nums_one (w : Tx) (x : Tx) : numsL w [x] = if 0 < numOf w x then [numOf w x] else [] := by
  unfold numsL
  show List.filter _ [numOf w x] = _
  by_cases h : 0 < numOf w x
  · rw [if_pos h, List.filter_cons_of_pos (by simpa using h)]; rfl
  · rw [if_neg h, List.filter_cons_of_neg (by simpa using h)]; rfl
theorem nums_le (w : Tx) (a : List Tx) : (numsL w a).length ≤ a.length := by
  have := List.length_filter_le (fun n : Int => decide (0 < n)) (a.map (numOf w))
  rwa [List.length_map] at this
theorem nums_perm {w : Tx} {a b : List Tx} (h : a.Perm b) : (numsL w a).Perm (numsL w b) := (h.map _).filter _
theorem srtN_perm (l : List Int) : (srtN l).Perm l := List.mergeSort_perm _ _
theorem srtN_pw (l : List Int) : (srtN l).Pairwise (· ≤ ·) := by
  have := List.pairwise_mergeSort (le := fun x y : Int => decide (x ≤ y)) (fun a b c h1 h2 => by simp at *; omega) (fun a b => by simp; omega) l
  exact this.imp fun h => by simpa using h
theorem srtN_of {a b : List Int} (h : a.Perm b) : srtN a = srtN b := by
  refine List.Perm.eq_of_pairwise (le := (· ≤ ·)) (fun x y _ _ h1 h2 => by omega) (srtN_pw a) (srtN_pw b) ?_
  exact (srtN_perm a).trans (h.trans (srtN_perm b).symm)
theorem all_len (w : Tx) (l : List (Tx × Tx)) : (allL w l).length ≤ l.length := by
  unfold allL
  rw [(srtN_perm _).length_eq]
  have := nums_le w (l.map (·.1))
  rwa [List.length_map] at this
theorem sortI_prog (o : Nat) (ks : List Int) (hl : ks.length ≤ 100000) : CallsL Tryz.prog nslices_Sort_int [.slice o 0 ks.length 1] [IL o true ks] fun v L' => v = .tup [] ∧ L' = [IL o true (srtN ks)] :=
  sortInts sortI_is ks (by omega)
theorem all_prog (d m ws n : Nat) (room fuse : Int) (down : Bool) (l : List (Tx × Tx)) (w : Tx) (e : Nat) (hw : w.length ≤ 1000000) (hl : l.length ≤ 1000) :
    CallsN Tryz.prog nfiles_All [.ptr d 0, .str w] (DO d m ws n room fuse down :: MO m l :: LO e) fun v Lo => ∃ o, v = .slice o 0 (allL w l).length 1 ∧ Lo = [IL o true (allL w l)] := by
  have h1 := dnames_prog d m ws n room fuse down l (by omega)
  have hN : (srtT (l.map (·.1))).length = l.length := by rw [(srtT_perm _).length_eq, List.length_map]
  have hfin : srtN (numsL w (srtT (l.map (·.1)))) = allL w l := srtN_of (nums_perm (srtT_perm _))
  generalize srtT (l.map (·.1)) = N at *
  refine sfiles_All fun H hh => ?_
  dsimp only [cfiles_All]
  refine walk1 (k := ?_)
  repeat' first | refine And.intro ?_ ?_ | intro
  all_goals refine leaf ?_
  refine callL (h1) ?_
  rintro v L' H' ⟨q, rfl, rfl⟩ hh
  refine walk1 (k := ?_)
  repeat' first | refine And.intro ?_ ?_ | intro
  all_goals refine leaf ?_
  refine loopN [1, 5, 11, 12, 13] N.length (fun i vs L => ∃ o, vs = [.str w, .slice o 0 (numsL w (N.take i)).length 1, .slice q 0 N.length 1, .int .i64 N.length, .int .i64 (i : Nat)] ∧
      L = IL o true (numsL w (N.take i)) :: TL q true N :: DO d m ws n room fuse down :: MO m l :: LO e)
    (Nx.hereW [_, .slice 0 0 0 1, _, _, _] ⟨0, rfl, rfl⟩) ?_
  clear hh
  rintro i _ _ env H hi ⟨o, rfl, rfl⟩ hh
  simp only [puts]
  have hle := nums_le w (N.take i)
  rw [List.length_take] at hle
  by_cases hn : i < N.length
  · have h2 := fnumber_prog w (nth N i) hw e
    have hst := nums_app w (N.take i) [nth N i]
    rw [← take_getD hn, nums_one] at hst
    refine walk1 (k := ?_)
    repeat' first | refine And.intro ?_ ?_ | intro
    all_goals refine leaf ?_
    refine c_cond_t (by show V.bool _ = _; simp; omega) ?_
    refine walk1 (k := ?_)
    repeat' first | refine And.intro ?_ ?_ | intro
    all_goals refine leaf ?_
    refine callE (h2) ?_
    refine walk1 (k := ?_)
    repeat' first | refine And.intro ?_ ?_ | intro
    all_goals refine leaf ?_
    by_cases hp : 0 < numOf w (nth N i)
    · rw [if_pos hp] at hst
      have hint : Hint inC (numOf w (nth N i)) := trivial
      refine c_cond_t (by show V.bool _ = _; rw [decide_eq_true hp]) ?_
      refine walk1 (k := ?_)
      repeat' first | refine And.intro ?_ ?_ | intro
      all_goals refine leaf ?_
      exact Nx.next hn ⟨_, by rw [hst]; rfl, by rw [hst]⟩
    · rw [if_neg hp, List.append_nil] at hst
      refine c_cond_f (by show V.bool _ = _; rw [decide_eq_false hp]) ?_
      refine walk1 (k := ?_)
      repeat' first | refine And.intro ?_ ?_ | intro
      all_goals refine leaf ?_
      exact Nx.next hn ⟨o, by rw [hst]; rfl, by rw [hst]⟩
  · skip
    refine walk1 (k := ?_)
    repeat' first | refine And.intro ?_ ?_ | intro
    all_goals refine leaf ?_
    refine c_cond_f (by show V.bool _ = _; simp; omega) ?_
    refine walk1 (k := ?_)
    repeat' first | refine And.intro ?_ ?_ | intro
    all_goals refine leaf ?_
    rw [List.take_of_length_le (by omega)] at *
    refine callL (sortI_prog o (numsL w N) (by omega)) ?_
    rintro v L' H' ⟨rfl, rfl⟩ hh
    have hll : (numsL w N).length = (allL w l).length := by rw [← hfin, (srtN_perm _).length_eq]
    rw [hfin] at hh
    rw [hll]
    refine walk1 (k := ?_)
    repeat' first | refine And.intro ?_ ?_ | intro
    all_goals refine leaf ?_
    exact doneN ⟨o, rfl, rfl⟩
def fileT (D : Dsk) (s : Tx) : Tx := if hasT s D.sure = true then getT s D.sure ++ lateL s D.waits else []
noncomputable def sizeF (D : Dsk) (w : Tx) (l : List Int) : Nat := (l.map fun n => (fileT D (nameL w n)).length).sum
theorem getT_le (s : Tx) (l : List (Tx × Tx)) : (getT s l).length ≤ sumL l := by
  unfold getT
  cases hf : fat s l with
  | none => exact Nat.zero_le _
  | some i =>
    have h4 := sumL_sub (List.singleton_sublist.2 (nth_mem (fat_some hf).1))
    rw [sumL_cons, sumL_nil] at h4
    exact h4
theorem file_le {D : Dsk} (h : DOk D) (s : Tx) : (fileT D s).length ≤ 60000 := by
  have h1 := getT_le s D.sure
  have h2 := late_le s D.waits
  have h3 := h.used
  unfold Dsk.used at h3
  unfold fileT
  split
  · rw [List.length_append]; omega
  · exact Nat.zero_le _
end Go.Proofs.YtkfhgpegnnokgaaGreatDoor
