/-
  Signs of texts: their sorts.
-/
import Derived.Test.YtjgcgepfidcihaaGreatDoorBldA
namespace Go.Proofs.YtjgcgepfidcihaaGreatDoor
open Go Go.CM
set_option maxRecDepth 100000
set_option maxHeartbeats 4000000

abbrev amgP (r a b c : Int) : Prop := a ≤ r ∧ r ≤ b ∧ r ≠ c
theorem among_prog (r a b c : Int) : CallsR Tryz.prog nsign_among [.int .i32 r, .int .i32 a, .int .i32 b, .int .i32 c] [] fun v => v = .bool (decide (amgP r a b c)) := by
  refine ssign_among fun H hh => ?_
  dsimp only [csign_among]
  refine walk (k := ?_)
  repeat' first | refine And.intro ?_ ?_ | intro
  all_goals refine leaf ?_
  all_goals refine doneR (congrArg V.bool ?_)
  all_goals rw [Bool.eq_iff_iff]
  all_goals simp
  all_goals omega
theorem validRune_prog (r : Int) : CallsR Tryz.prog nutf8_ValidRune [.int .i32 r] [] fun v => v = .bool (decide (0 ≤ r ∧ r < 55296 ∨ 57343 < r ∧ r ≤ 1114111)) := by
  refine sutf8_ValidRune fun H hh => ?_
  dsimp only [cutf8_ValidRune]
  refine walk (k := ?_)
  repeat' first | refine And.intro ?_ ?_ | intro
  all_goals refine leaf ?_
  all_goals refine doneR (congrArg V.bool ?_)
  all_goals rw [Bool.eq_iff_iff]
  all_goals simp
  all_goals omega
abbrev ctlP (r : Int) : Prop := r < 32 ∨ amgP r 127 159 0 ∨ r = 65533 ∨ 1114111 < r ∨ amgP r 55296 57343 0
theorem control_prog (r : Int) : CallsR Tryz.prog nsign_control [.int .i32 r] [] fun v => v = .bool (decide (ctlP r)) := by
  have h1 := among_prog r 127 159 0
  have h2 := validRune_prog r
  refine ssign_control fun H hh => ?_
  dsimp only [csign_control]
  refine walk (k := ?_)
  repeat' first | refine And.intro ?_ ?_ | intro
  all_goals refine leaf ?_
  · refine doneR (congrArg V.bool ?_)
    rw [Bool.eq_iff_iff]; simp; omega
  · skip
    refine callE (h1) ?_
    refine walk (k := ?_)
    repeat' first | refine And.intro ?_ ?_ | intro
    all_goals refine leaf ?_
    · refine doneR (congrArg V.bool ?_)
      rw [Bool.eq_iff_iff]; simp; omega
    · refine doneR (congrArg V.bool ?_)
      rw [Bool.eq_iff_iff]; simp; omega
    · skip
      refine callE (h2) ?_
      refine walk (k := ?_)
      repeat' first | refine And.intro ?_ ?_ | intro
      all_goals refine leaf ?_
      refine doneR (congrArg V.bool ?_)
      rw [Bool.eq_iff_iff]; simp; omega
abbrev blkP (r : Int) : Prop := r = 32 ∨ r = 160 ∨ amgP r 8192 8202 0 ∨ r = 12288
theorem blank_prog (r : Int) : CallsR Tryz.prog nsign_blank [.int .i32 r] [] fun v => v = .bool (decide (blkP r)) := by
  have h1 := among_prog r 8192 8202 0
  refine ssign_blank fun H hh => ?_
  dsimp only [csign_blank]
  refine walk (k := ?_)
  repeat' first | refine And.intro ?_ ?_ | intro
  all_goals refine leaf ?_
  · refine doneR (congrArg V.bool ?_)
    rw [Bool.eq_iff_iff]; simp; omega
  · refine doneR (congrArg V.bool ?_)
    rw [Bool.eq_iff_iff]; simp; omega
  · skip
    refine callE (h1) ?_
    refine walk (k := ?_)
    repeat' first | refine And.intro ?_ ?_ | intro
    all_goals refine leaf ?_
    all_goals refine doneR (congrArg V.bool ?_)
    all_goals rw [Bool.eq_iff_iff]
    all_goals simp
    all_goals omega
abbrev letP (r : Int) : Prop := amgP r 65 90 0 ∨ amgP r 97 122 0 ∨ (amgP r 192 591 215 ∧ r ≠ 247) ∨ amgP r 913 969 930
theorem signletter_prog (r : Int) : CallsR Tryz.prog nsign_letter [.int .i32 r] [] fun v => v = .bool (decide (letP r)) := by
  have h1 := among_prog r 65 90 0
  have h2 := among_prog r 97 122 0
  have h3 := among_prog r 192 591 215
  have h4 := among_prog r 913 969 930
  refine ssign_letter fun H hh => ?_
  dsimp only [csign_letter]
  refine walk (k := ?_)
  repeat' first | refine And.intro ?_ ?_ | intro
  all_goals refine leaf ?_
  refine callE (h1) ?_
  refine walk (k := ?_)
  repeat' first | refine And.intro ?_ ?_ | intro
  all_goals refine leaf ?_
  · refine doneR (congrArg V.bool ?_)
    rw [Bool.eq_iff_iff]; simp; omega
  refine callE (h2) ?_
  refine walk (k := ?_)
  repeat' first | refine And.intro ?_ ?_ | intro
  all_goals refine leaf ?_
  · refine doneR (congrArg V.bool ?_)
    rw [Bool.eq_iff_iff]; simp; omega
  refine callE (h3) ?_
  refine walk (k := ?_)
  repeat' first | refine And.intro ?_ ?_ | intro
  all_goals refine leaf ?_
  · refine doneR (congrArg V.bool ?_)
    rw [Bool.eq_iff_iff]; simp; omega
  · skip
    refine callE (h4) ?_
    refine walk (k := ?_)
    repeat' first | refine And.intro ?_ ?_ | intro
    all_goals refine leaf ?_
    all_goals refine doneR (congrArg V.bool ?_)
    all_goals rw [Bool.eq_iff_iff]
    all_goals simp
    all_goals omega
  · skip
    refine callE (h4) ?_
    refine walk (k := ?_)
    repeat' first | refine And.intro ?_ ?_ | intro
    all_goals refine leaf ?_
    all_goals refine doneR (congrArg V.bool ?_)
    all_goals rw [Bool.eq_iff_iff]
    all_goals simp
    all_goals omega
def srtI (r : Int) : Int := if ctlP r then 0 else if blkP r then 1 else if amgP r 48 57 0 then 2 else if letP r then 3 else 4
theorem sort_prog (r : Int) : CallsR Tryz.prog nsign_Sort [.int .i32 r] [] fun v => v = .int .i64 (srtI r) := by
  have h1 := control_prog r
  have h2 := blank_prog r
  have h3 := among_prog r 48 57 0
  have h4 := signletter_prog r
  refine ssign_Sort fun H hh => ?_
  dsimp only [csign_Sort]
  refine walk (k := ?_)
  repeat' first | refine And.intro ?_ ?_ | intro
  all_goals refine leaf ?_
  refine callE (h1) ?_
  refine walk (k := ?_)
  repeat' first | refine And.intro ?_ ?_ | intro
  all_goals refine leaf ?_
  · exact doneR (by rw [srtI, if_pos ‹_›])
  refine callE (h2) ?_
  refine walk (k := ?_)
  repeat' first | refine And.intro ?_ ?_ | intro
  all_goals refine leaf ?_
  · exact doneR (by rw [srtI, if_neg ‹_›, if_pos ‹_›])
  refine callE (h3) ?_
  refine walk (k := ?_)
  repeat' first | refine And.intro ?_ ?_ | intro
  all_goals refine leaf ?_
  · exact doneR (by rw [srtI, if_neg ‹_›, if_neg ‹_›, if_pos ‹_›])
  refine callE (h4) ?_
  refine walk (k := ?_)
  repeat' first | refine And.intro ?_ ?_ | intro
  all_goals refine leaf ?_
  · exact doneR (by rw [srtI, if_neg ‹_›, if_neg ‹_›, if_neg ‹_›, if_pos ‹_›])
  · exact doneR (by rw [srtI, if_neg ‹_›, if_neg ‹_›, if_neg ‹_›, if_neg ‹_›])
theorem rsort_prog (r : Int) : CallsR Tryz.prog nref04_Sort [.int .i64 r] [] fun v => v = .int .i64 (srtI r) := by
  refine sref04_Sort fun H hh => ?_
  dsimp only [cref04_Sort]
  repeat (first | refine c_seq ?_ | refine c_block ?_ | refine c_ops (wps_rd rfl (wps_nil ?_)) | refine k_seq_n ?_ | refine c_skip ?_)
  refine condP 28 [0] (ctlP r) [.int .i64 r] [] ?_ ?_ ?_
  · skip
    refine walk (k := ?_)
    repeat' first | refine And.intro ?_ ?_ | intro
    all_goals refine leaf ?_
    all_goals exact Nx.cnd rfl rfl (by simp; omega) (by assumption) Tk.nil
  · intro e H hh hp
    refine walk1 (k := ?_)
    repeat' first | refine And.intro ?_ ?_ | intro
    all_goals refine leaf ?_
    exact doneR (by rw [srtI, if_pos hp])
  intro e H hh n1
  repeat (first | refine c_seq ?_ | refine c_block ?_ | refine c_ops (wps_rd rfl (wps_nil ?_)) | refine k_seq_n ?_ | refine c_skip ?_)
  refine condP 46 [0] (blkP r) [.int .i64 r] [] ?_ ?_ ?_
  · skip
    refine walk (k := ?_)
    repeat' first | refine And.intro ?_ ?_ | intro
    all_goals refine leaf ?_
    all_goals exact Nx.cnd rfl rfl (by simp; omega) (by assumption) Tk.nil
  · intro e H hh hp
    refine walk1 (k := ?_)
    repeat' first | refine And.intro ?_ ?_ | intro
    all_goals refine leaf ?_
    exact doneR (by rw [srtI, if_neg n1, if_pos hp])
  intro e H hh n2
  repeat (first | refine c_seq ?_ | refine c_block ?_ | refine c_ops (wps_rd rfl (wps_nil ?_)) | refine k_seq_n ?_ | refine c_skip ?_)
  refine condP 52 [0] (amgP r 48 57 0) [.int .i64 r] [] ?_ ?_ ?_
  · skip
    refine walk (k := ?_)
    repeat' first | refine And.intro ?_ ?_ | intro
    all_goals refine leaf ?_
    all_goals exact Nx.cnd rfl rfl (by simp; omega) (by assumption) Tk.nil
  · intro e H hh hp
    refine walk1 (k := ?_)
    repeat' first | refine And.intro ?_ ?_ | intro
    all_goals refine leaf ?_
    exact doneR (by rw [srtI, if_neg n1, if_neg n2, if_pos hp])
  intro e H hh n3
  repeat (first | refine c_seq ?_ | refine c_block ?_ | refine c_ops (wps_rd rfl (wps_nil ?_)) | refine k_seq_n ?_ | refine c_skip ?_)
  refine condP 94 [0] (letP r) [.int .i64 r] [] ?_ ?_ ?_
  · skip
    refine walk (k := ?_)
    repeat' first | refine And.intro ?_ ?_ | intro
    all_goals refine leaf ?_
    all_goals exact Nx.cnd rfl rfl (by simp; omega) (by assumption) Tk.nil
  · intro e H hh hp
    refine walk1 (k := ?_)
    repeat' first | refine And.intro ?_ ?_ | intro
    all_goals refine leaf ?_
    exact doneR (by rw [srtI, if_neg n1, if_neg n2, if_neg n3, if_pos hp])
  intro e H hh n4
  refine walk1 (k := ?_)
  repeat' first | refine And.intro ?_ ?_ | intro
  all_goals refine leaf ?_
  exact doneR (by rw [srtI, if_neg n1, if_neg n2, if_neg n3, if_neg n4])
end Go.Proofs.YtjgcgepfidcihaaGreatDoor
