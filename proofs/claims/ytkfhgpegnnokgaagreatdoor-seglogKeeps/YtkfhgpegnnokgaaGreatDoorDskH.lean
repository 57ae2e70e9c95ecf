/-
  The disk, in plain words: it stays as it may be.
-/
import Derived.Test.YtkfhgpegnnokgaaGreatDoorDskG
namespace Go.Proofs.YtkfhgpegnnokgaaGreatDoor
open Go Go.CM
set_option maxRecDepth 100000
set_option maxHeartbeats 4000000

theorem but_late (s : Tx) : ∀ l : List (Tx × Tx), sumL (butW s l) + (lateL s l).length = sumL l
  | [] => rfl
  | x :: l => by
    have ih := but_late s l
    rw [late_cons, List.length_append, sumL_cons]
    unfold butW at ih ⊢
    by_cases h : x.1 = s
    · rw [if_pos h, List.filter_cons_of_neg (by simpa using h)]; omega
    · rw [if_neg h, List.filter_cons_of_pos (by simpa using h), sumL_cons, List.length_nil]; omega
theorem DOk.other {D : Dsk} (h : DOk D) {s t : Tx} (hs : hasT s D.sure = true) (ht : t.length ≤ (getT s D.sure ++ lateL s D.waits).length) : DOk ⟨setT s t D.sure, butW s D.waits, D.room, D.fuse, D.down⟩ := by
  have hk := set_keys t (hasT_iff.1 hs)
  have hsub : (butW s D.waits).Sublist D.waits := List.filter_sublist
  refine ⟨?_, ?_, ?_, fun w hw => h.ne w (hsub.subset hw), fun w hw => ?_, h.room0, h.room1, h.fuse0, h.fuse1⟩
  · have h1 := but_late s D.waits
    have h2 := set_sum s t D.sure
    have h3 := h.used
    rw [List.length_append] at ht
    show sumL (butW s D.waits) + sumL (setT s t D.sure) ≤ _
    unfold Dsk.used at h3; omega
  · have := congrArg List.length hk
    rw [List.length_map, List.length_map] at this
    show (setT s t D.sure).length ≤ 16
    rw [this]; exact h.files
  · show ((setT s t D.sure).map (·.1)).Nodup
    rw [hk]; exact h.nd
  · show w.1 ∈ (setT s t D.sure).map (·.1)
    rw [hk]; exact h.inn w (hsub.subset hw)
theorem DOk.sync {D : Dsk} (h : DOk D) (s : Tx) : DOk (syncR D s) := by
  unfold syncR
  split
  · rename_i h0
    exact h.dead.other (readyE_0.1 h0).2 (Nat.le_refl _)
  · exact h.dead
theorem DOk.cut {D : Dsk} (h : DOk D) (s : Tx) (n : Int) : DOk (cutR D s n) := by
  unfold cutR
  split
  · rename_i h0
    exact h.dead.other (readyE_0.1 h0).2 (by rw [List.length_take]; exact Nat.min_le_right _ _)
  · exact h.dead
end Go.Proofs.YtkfhgpegnnokgaaGreatDoor
