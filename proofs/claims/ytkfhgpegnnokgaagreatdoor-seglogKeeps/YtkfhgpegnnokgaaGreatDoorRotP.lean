/-
  A log on its disk, in plain words.
-/
import Derived.Test.YtkfhgpegnnokgaaGreatDoorLogP
import Derived.Test.YtkfhgpegnnokgaaGreatDoorSegC
import Derived.Test.YtkfhgpegnnokgaaGreatDoorFllB
namespace Go.Proofs.YtkfhgpegnnokgaaGreatDoor
open Go Go.CM
set_option maxRecDepth 100000
set_option maxHeartbeats 4000000

/- a frame of which one byte is turned -/
theorem split_whole (l : List Tx) (h : ∀ r ∈ l, r.length ≤ 2000) : splitT (framesT l) = (l, (framesT l).length, 0) := by
  have := split_frames l [] h
  rw [List.append_nil, splitT_nil] at this
  rw [this]; simp

/- the names of segments -/
theorem dig_ok : ∀ (u : Nat), ∀ b ∈ Lib.decDigits u, okB b = true := by
  intro u
  induction u using Nat.strongRecOn with
  | _ u ih =>
    have one : ∀ d, d < 10 → okB (UInt8.ofNat (48 + d)) = true := fun d hd => by
      rw [okB_iff]
      have e : (UInt8.ofNat (48 + d)).toNat = 48 + d := by simp; omega
      rw [e]
      unfold okP; omega
    rw [Lib.decDigits]
    split
    · rename_i h
      intro b hb
      simp only [List.mem_singleton] at hb
      subst hb
      exact one u h
    · rename_i h
      intro b hb
      rcases List.mem_append.1 hb with k | k
      · exact ih (u / 10) (by omega) b k
      · simp only [List.mem_singleton] at k
        subst k
        exact one _ (by omega)
theorem lgW_right : rightW lgW = true := by decide
theorem seg_is {n : Int} (h1 : 1 ≤ n) (h2 : n ≤ 99999) : IsNum lgW (segN n) n ∧ segN n = lgW ++ 46 :: Lib.decDigits n.toNat := by
  have e : segN n = lgW ++ 46 :: Lib.decDigits n.toNat := nameL_yes lgW_right h1 h2
  exact ⟨⟨lgW_right, h1, h2, e.symm⟩, e⟩
theorem seg_num {n : Int} (h1 : 1 ≤ n) (h2 : n ≤ 99999) : numOf lgW (segN n) = n := numOf_is (seg_is h1 h2).1
theorem seg_ne {n m : Int} (h1 : 1 ≤ n) (h2 : n ≤ 99999) (k1 : 1 ≤ m) (k2 : m ≤ 99999) (h : n ≠ m) : segN n ≠ segN m := fun e => h (by rw [← seg_num h1 h2, e, seg_num k1 k2])
theorem seg_right {n : Int} (h1 : 1 ≤ n) (h2 : n ≤ 99999) : rightN (segN n) = true := by
  rw [(seg_is h1 h2).2]
  have hl := decDigits_len 5 n.toNat (by omega) (by decide)
  unfold rightN
  rw [decide_eq_true (by simp [lgW]), decide_eq_true (by simp [lgW]; omega), Bool.true_and, Bool.true_and, List.all_append, List.all_cons]
  have e1 : lgW.all okB = true := by decide
  have e2 : okB 46 = true := by decide
  rw [e1, e2, Bool.true_and, Bool.true_and, List.all_eq_true]
  exact dig_ok n.toNat

/- what a map of texts has -/
theorem getT_of {l : List (Tx × Tx)} {s t : Tx} (hnd : (l.map (·.1)).Nodup) (h : (s, t) ∈ l) : getT s l = t := by
  have hs : hasT s l = true := hasT_iff.2 (List.mem_map.2 ⟨_, h, rfl⟩)
  obtain ⟨j, hj⟩ := Option.isSome_iff_exists.1 hs
  obtain ⟨i, hi, e⟩ := List.mem_iff_getElem.1 h
  have h1 := fat_some hj
  unfold getT
  rw [hj]
  show (nth l j).2 = t
  have : i = j := by
    rw [List.nodup_iff_pairwise_ne, List.pairwise_iff_getElem] at hnd
    have e2 : (l[i]).1 = (nth l j).1 := by rw [e, h1.2]
    rw [nth_getElem h1.1] at e2
    rcases Nat.lt_trichotomy i j with k | k | k
    · exact absurd (by rw [List.getElem_map, List.getElem_map]; exact e2) (hnd i j (by simpa using hi) (by simpa using h1.1) k)
    · exact k
    · exact absurd (by rw [List.getElem_map, List.getElem_map]; exact e2.symm) (hnd j i (by simpa using h1.1) (by simpa using hi) k)
  subst this
  rw [nth_getElem h1.1, e]
end Go.Proofs.YtkfhgpegnnokgaaGreatDoor
