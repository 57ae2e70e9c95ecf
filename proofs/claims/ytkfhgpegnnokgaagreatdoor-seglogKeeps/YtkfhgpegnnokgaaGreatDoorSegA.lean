/-
  A log in segments: its name, its numbers, its sizes.
-/
import Derived.Test.YtkfhgpegnnokgaaGreatDoorFllA
import Derived.Test.YtkfhgpegnnokgaaGreatDoorFrmB
import Derived.Test.YtkfhgpegnnokgaaGreatDoorDskG
namespace Go.Proofs.YtkfhgpegnnokgaaGreatDoor
open Go Go.CM
set_option maxRecDepth 100000
set_option maxHeartbeats 4000000

def lgW : Tx := [108, 111, 103]
def segN (n : Int) : Tx := nameL lgW n
theorem sname_prog (n : Int) (e : Nat) : CallsR Tryz.prog nseglog_name [.int .i64 n] (LO e) fun v => v = .str (segN n) := by
  have h := fname_prog lgW n e
  refine sseglog_name fun H hh => ?_
  dsimp only [cseglog_name]
  refine walk1 (k := ?_)
  repeat' first | refine And.intro ?_ ?_ | intro
  all_goals refine leaf ?_
  refine callE (h) ?_
  refine walk1 (k := ?_)
  repeat' first | refine And.intro ?_ ?_ | intro
  all_goals refine leaf ?_
  exact doneR rfl
def numO (first : Int) : List Int → List Int → Option (List Int)
  | [], out => some out
  | n :: l, out => if n < first then numO first l out else if n = first + out.length then numO first l (out ++ [n]) else none
theorem numO_cons (first n : Int) (l out : List Int) : numO first (n :: l) out = if n < first then numO first l out else if n = first + out.length then numO first l (out ++ [n]) else none := rfl
theorem snumbers_prog (d m ws n : Nat) (room fuse : Int) (down : Bool) (l : List (Tx × Tx)) (first : Int) (e : Nat) (h0 : 1 ≤ first) (h1 : first ≤ 99999) (hl : l.length ≤ 1000) :
    CallsN Tryz.prog nseglog_numbers [.ptr d 0, .int .i64 first] (DO d m ws n room fuse down :: MO m l :: LO e) fun v Lo => match numO first (allL lgW l) [] with
      | none => v = .tup [.nils, .bool false] ∧ Lo = []
      | some out => ∃ o, v = .tup [.slice o 0 out.length 1, .bool true] ∧ Lo = [IL o true out] := by
  have hal := all_prog d m ws n room fuse down l lgW e (by decide) hl
  have hle := all_len lgW l
  refine sseglog_numbers fun H hh => ?_
  dsimp only [cseglog_numbers]
  refine walk1 (k := ?_)
  repeat' first | refine And.intro ?_ ?_ | intro
  all_goals refine leaf ?_
  refine callN (hal) ?_
  rintro v Lo H' ⟨q, rfl, rfl⟩ hh
  generalize allL lgW l = A at *
  refine walk1 (k := ?_)
  repeat' first | refine And.intro ?_ ?_ | intro
  all_goals refine leaf ?_
  refine loopN [0, 1, 6, 10, 11, 12] A.length (fun i vs L => ∃ o out, out.length ≤ i ∧ numO first A [] = numO first (A.drop i) out ∧ vs = [.ptr d 0, .int .i64 first, .slice o 0 out.length 1, .slice q 0 A.length 1, .int .i64 A.length, .int .i64 (i : Nat)] ∧
      L = IL o true out :: IL q true A :: DO d m ws n room fuse down :: MO m l :: LO e)
    (Nx.hereW [_, _, .slice 0 0 0 1, _, _, _] ⟨0, [], Nat.le_refl _, rfl, rfl, rfl⟩) ?_
  clear hh
  rintro i _ _ env H hi ⟨o, out, hol, hnum, rfl, rfl⟩ hh
  simp only [puts]
  by_cases hn : i < A.length
  · rw [drop_getD hn] at hnum
    rw [numO_cons] at hnum
    refine walk1 (k := ?_)
    repeat' first | refine And.intro ?_ ?_ | intro
    all_goals refine leaf ?_
    refine c_cond_t (by show V.bool _ = _; simp; omega) ?_
    refine walk1 (k := ?_)
    repeat' first | refine And.intro ?_ ?_ | intro
    all_goals refine leaf ?_
    have hint : Hint inC (nth A i) := trivial
    by_cases hf : nth A i < first
    · rw [if_pos hf] at hnum
      refine c_cond_t (by show V.bool _ = _; rw [decide_eq_true hf]) ?_
      refine walk1 (k := ?_)
      repeat' first | refine And.intro ?_ ?_ | intro
      all_goals refine leaf ?_
      exact Nx.next hn ⟨o, out, by omega, hnum, rfl, rfl⟩
    rw [if_neg hf] at hnum
    refine c_cond_f (by show V.bool _ = _; rw [decide_eq_false hf]) ?_
    refine walk1 (k := ?_)
    repeat' first | refine And.intro ?_ ?_ | intro
    all_goals refine leaf ?_
    by_cases he : nth A i = first + out.length
    · rw [if_pos he] at hnum
      refine c_cond_f (by show V.bool _ = _; simp [he]) ?_
      refine walk1 (k := ?_)
      repeat' first | refine And.intro ?_ ?_ | intro
      all_goals refine leaf ?_
      exact Nx.next hn ⟨_, out ++ [nth A i], by rw [List.length_append, List.length_singleton]; omega, hnum, rfl, rfl⟩
    · rw [if_neg he] at hnum
      refine c_cond_t (by show V.bool _ = _; simpa using he) ?_
      refine walk1 (k := ?_)
      repeat' first | refine And.intro ?_ ?_ | intro
      all_goals refine leaf ?_
      rw [hnum]
      exact doneN (Lo := []) ⟨rfl, rfl⟩
  · skip
    refine walk1 (k := ?_)
    repeat' first | refine And.intro ?_ ?_ | intro
    all_goals refine leaf ?_
    refine c_cond_f (by show V.bool _ = _; simp; omega) ?_
    refine walk1 (k := ?_)
    repeat' first | refine And.intro ?_ ?_ | intro
    all_goals refine leaf ?_
    rw [List.drop_of_length_le (by omega)] at hnum
    rw [hnum]
    exact doneN (Lo := [IL o true out]) ⟨o, rfl, rfl⟩
abbrev GO (g d : Nat) (first last limit : Int) : Ob := (g, .cells true [.ptr d 0, .int .i64 first, .int .i64 last, .int .i64 limit])
def sizeS (D : Dsk) (last : Int) : Int := if hasT (segN last) D.sure = true then ((fileT D (segN last)).length : Nat) else -1
theorem ssize_prog (g d m ws : Nat) (D : Dsk) (first last limit : Int) (e : Nat) (h : DOk D) : CallsR Tryz.prog nseglog_Log_size [.ptr g 0] (GO g d first last limit :: DO d m ws D.waits.length D.room D.fuse D.down :: MO m D.sure :: WO ws D.waits :: LO e) fun v => v = .int .i64 (sizeS D last) := by
  have h1 := sname_prog last e
  have h2 := dread_prog d m ws D (segN last) h
  unfold sizeS fileT
  refine sseglog_Log_size fun H hh => ?_
  dsimp only [cseglog_Log_size]
  refine walk1 (k := ?_)
  repeat' first | refine And.intro ?_ ?_ | intro
  all_goals refine leaf ?_
  refine callE (h1) ?_
  refine walk1 (k := ?_)
  repeat' first | refine And.intro ?_ ?_ | intro
  all_goals refine leaf ?_
  by_cases hp : hasT (segN last) D.sure = true
  · rw [if_pos hp] at h2
    rw [if_pos hp, if_pos hp]
    refine callE (h2) ?_
    refine walk1 (k := ?_)
    repeat' first | refine And.intro ?_ ?_ | intro
    all_goals refine leaf ?_
    exact doneR rfl
  · rw [if_neg hp] at h2
    rw [if_neg hp]
    refine callE (h2) ?_
    refine walk1 (k := ?_)
    repeat' first | refine And.intro ?_ ?_ | intro
    all_goals refine leaf ?_
    exact doneR rfl
theorem slast_prog (g d : Nat) (first last limit : Int) : CallsR Tryz.prog nseglog_Log_Last [.ptr g 0] [GO g d first last limit] fun v => v = .int .i64 last := by
  refine sseglog_Log_Last fun H hh => ?_
  dsimp only [cseglog_Log_Last]
  refine walk1 (k := ?_)
  repeat' first | refine And.intro ?_ ?_ | intro
  all_goals refine leaf ?_
  exact doneR rfl
theorem ssync_prog (g d m ws : Nat) (D : Dsk) (first last limit : Int) (e : Nat) (h : DOk D) : CallsL Tryz.prog nseglog_Log_Sync [.ptr g 0] (GO g d first last limit :: DO d m ws D.waits.length D.room D.fuse D.down :: MO m D.sure :: WO ws D.waits :: LO e) fun v L' =>
    v = .int .i64 (if sizeS D last < 0 then 0 else readyE D (segN last)) ∧ L' = GO g d first last limit :: (DL d m ws (if sizeS D last < 0 then D else syncR D (segN last)) ++ LO e) := by
  have h0 := ssize_prog g d m ws D first last limit e h
  have h1 := sname_prog last e
  have h2 := dsync_prog d m ws D (segN last) h
  by_cases hp : sizeS D last < 0
  · rw [if_pos hp, if_pos hp]
    refine sseglog_Log_Sync fun H hh => ?_
    dsimp only [cseglog_Log_Sync]
    refine walk1 (k := ?_)
    repeat' first | refine And.intro ?_ ?_ | intro
    all_goals refine leaf ?_
    refine callE (h0) ?_
    refine walk1 (k := ?_)
    repeat' first | refine And.intro ?_ ?_ | intro
    all_goals refine leaf ?_
    refine c_cond_t (by show V.bool _ = _; rw [decide_eq_true hp]) ?_
    refine walk1 (k := ?_)
    repeat' first | refine And.intro ?_ ?_ | intro
    all_goals refine leaf ?_
    exact done ⟨rfl, rfl⟩
  · rw [if_neg hp, if_neg hp]
    refine sseglog_Log_Sync fun H hh => ?_
    dsimp only [cseglog_Log_Sync]
    refine walk1 (k := ?_)
    repeat' first | refine And.intro ?_ ?_ | intro
    all_goals refine leaf ?_
    refine callE (h0) ?_
    refine walk1 (k := ?_)
    repeat' first | refine And.intro ?_ ?_ | intro
    all_goals refine leaf ?_
    refine c_cond_f (by show V.bool _ = _; rw [decide_eq_false hp]) ?_
    refine walk1 (k := ?_)
    repeat' first | refine And.intro ?_ ?_ | intro
    all_goals refine leaf ?_
    refine callE (h1) ?_
    refine walk1 (k := ?_)
    repeat' first | refine And.intro ?_ ?_ | intro
    all_goals refine leaf ?_
    refine callL (h2) ?_
    rintro v L' H' ⟨rfl, rfl⟩ hh
    refine walk1 (k := ?_)
    repeat' first | refine And.intro ?_ ?_ | intro
    all_goals refine leaf ?_
    exact done ⟨rfl, rfl⟩
end Go.Proofs.YtkfhgpegnnokgaaGreatDoor
