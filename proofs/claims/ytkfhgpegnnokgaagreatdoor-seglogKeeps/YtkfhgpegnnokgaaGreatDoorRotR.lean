/-
  A log of which a byte is turned is opened, in plain words; the first example.
-/
import Derived.Test.YtkfhgpegnnokgaaGreatDoorRotQ
namespace Go.Proofs.YtkfhgpegnnokgaaGreatDoor
open Go Go.CM
set_option maxRecDepth 100000
set_option maxHeartbeats 4000000

theorem fat_hd {α : Type} (s : Tx) (t : α) (l : List (Tx × α)) : fat s ((s, t) :: l) = some 0 := by simp [fat, List.findIdx?_cons]
theorem getT_hd (s t : Tx) (l : List (Tx × Tx)) : getT s ((s, t) :: l) = t := by unfold getT; rw [fat_hd]; show (nth ((s, t) :: l) 0).2 = t; rw [nth_zero]
theorem hasT_hd {α : Type} (s : Tx) (t : α) (l : List (Tx × α)) : hasT s ((s, t) :: l) = true := by unfold hasT; rw [fat_hd]; rfl
theorem setT_hd (s t u : Tx) (l : List (Tx × Tx)) : setT s u ((s, t) :: l) = (s, u) :: l := by unfold setT; rw [fat_hd]; rfl
theorem LOk.sync {olds : List (List Tx)} {cur : List Tx} (h : LOk olds cur) : ¬ sizeS (logD olds cur) (olds.length + 1) < 0 ∧ readyE (logD olds cur) (segN (olds.length + 1)) = 0 ∧ syncR (logD olds cur) (segN (olds.length + 1)) = logS (olds ++ [cur]) := by
  obtain ⟨f1, f2, f3, f4, f5, f6⟩ := h.facts
  have hrd : readyE (logD olds cur) (segN (olds.length + 1)) = 0 := readyE_0.2 ⟨rfl, f3⟩
  refine ⟨?_, hrd, ?_⟩
  · unfold sizeS
    rw [if_pos f3, f4]; omega
  · unfold syncR
    rw [if_pos hrd]
    have hg : getT (segN (olds.length + 1)) (logD olds cur).sure ++ lateL (segN (olds.length + 1)) (logD olds cur).waits = framesT cur := by
      have := f4
      unfold fileT at this
      rwa [if_pos f3] at this
    show (⟨setT (segN (olds.length + 1)) (getT (segN (olds.length + 1)) (logD olds cur).sure ++ lateL (segN (olds.length + 1)) (logD olds cur).waits) (sureI 1 olds ++ [(segN (olds.length + 1), [])]), butW (segN (olds.length + 1)) (cur.map fun r => (segN (olds.length + 1), makeT r)), 9000, -1, false⟩ : Dsk) = _
    rw [hg, set_last f1, but_same]
    unfold logS
    rw [sureI_app]
    show _ = (⟨sureI 1 olds ++ [(segN (1 + olds.length), framesT cur)], [], 9000, -1, false⟩ : Dsk)
    rw [Int.add_comm 1]
theorem LOk.segs {olds : List (List Tx)} {cur : List Tx} (h : LOk olds cur) : (olds ++ [cur]).flatten = olds.flatten ++ cur ∧ (olds ++ [cur]).length ≤ 12 := by
  have := h.olds
  refine ⟨by rw [List.flatten_append, List.flatten_cons, List.flatten_nil, List.append_nil], ?_⟩
  rw [List.length_append, List.length_singleton]; omega
theorem nums_up : ∀ (n : Nat) (i : Int), 1 ≤ i → i + n ≤ 100000 → numsL lgW ((upI i n).map segN) = upI i n
  | 0, _, _, _ => rfl
  | n + 1, i, h1, h2 => by
    have e := nums_app lgW [segN i] ((upI (i + 1) n).map segN)
    have h3 := seg_num (n := i) h1 (by push_cast at h2; omega)
    rw [nums_one, h3, if_pos (by omega), nums_up n (i + 1) (by omega) (by push_cast at h2; omega)] at e
    exact e
theorem srt_up (n : Nat) (i : Int) : srtN (upI i n) = upI i n :=
  List.Perm.eq_of_pairwise (le := (· ≤ ·)) (fun x y _ _ h1 h2 => by omega) (srtN_pw _) ((up_pw n i).imp fun h => by omega) (srtN_perm _)
theorem all_up {l : List (Tx × Tx)} {n : Nat} (hk : l.map (·.1) = (upI 1 n).map segN) (hn : n ≤ 99999) : allL lgW l = upI 1 n := by
  unfold allL
  rw [hk, nums_up n 1 (by omega) (by omega), srt_up]
theorem numO_up (first : Int) : ∀ (n : Nat) (out : List Int), numO first (upI (first + out.length) n) out = some (out ++ upI (first + out.length) n)
  | 0, out => by show some out = some (out ++ []); rw [List.append_nil]
  | n + 1, out => by
    show numO first ((first + out.length) :: upI (first + out.length + 1) n) out = some (out ++ (first + out.length) :: upI (first + out.length + 1) n)
    rw [numO_cons, if_neg (by omega), if_pos rfl]
    have ih := numO_up first n (out ++ [first + out.length])
    have e : first + ((out ++ [first + (out.length : Int)]).length : Int) = first + out.length + 1 := by rw [List.length_append]; push_cast; show _ + (_ + 1) = _; omega
    rw [e] at ih
    rw [ih, List.append_assoc]; rfl
end Go.Proofs.YtkfhgpegnnokgaaGreatDoor
