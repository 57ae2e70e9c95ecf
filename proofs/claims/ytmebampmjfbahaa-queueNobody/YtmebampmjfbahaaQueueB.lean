/-
  The queue of what is due: the heap's row, and its five deeds.
-/
import Derived.Test.YtmebampmjfbahaaQueueA
namespace Go.Proofs.Ytmebampmjfbahaa
open Go Go.CM
set_option maxRecDepth 100000
set_option maxHeartbeats 4000000

abbrev It := Nat × Due
abbrev Its := List It
def itC (x : It) : List V := [.ptr x.1 0]
def obI (x : It) (i : Nat) : Ob := (x.1, .cells true [.int .i64 x.2.tenant, .str x.2.key, .int .i64 x.2.at_, .int .i64 i])
abbrev rowO (s : Nat) (its : Its) : Ob := (s, .cells true (its.flatMap itC))
def itO (its : Its) : List Ob := (List.range its.length).map fun i => obI (nth its i) i
theorem itO_get {its : Its} {i : Nat} (h : i < its.length) : (itO its)[i]? = some (obI (nth its i) i) := by
  simp [itO, h]
theorem itO_mem {its : Its} {i : Nat} (h : i < its.length) : obI (nth its i) i ∈ itO its := List.mem_of_getElem? (itO_get h)
theorem itO_length (its : Its) : (itO its).length = its.length := by simp [itO]

theorem less_prog (s : Nat) (its : Its) (i j : Nat) (hi : i < its.length) (hj : j < its.length) : CallsR Try.prog nqueue_row_Less [.slice s 0 its.length 1, .int .i64 i, .int .i64 j] (rowO s its :: itO its) fun v => v = .bool (decide (lt (nth its i).2 (nth its j).2)) := by
  refine squeue_row_Less fun H hh => ?_
  dsimp only [cqueue_row_Less]
  refine walk (k := ?_)
  repeat' first | refine And.intro ?_ ?_ | intro
  all_goals refine leaf ?_
  refine wps_ldn hh rfl (.there (at_mem' (itO_mem hi))) (vs' := (nth its i).2.enc) rfl rfl ?_
  refine walk (k := ?_)
  repeat' first | refine And.intro ?_ ?_ | intro
  all_goals refine leaf ?_
  refine wps_ldn hh rfl (.there (at_mem' (itO_mem hj))) (vs' := (nth its j).2.enc) rfl rfl ?_
  refine walk (k := ?_)
  repeat' first | refine And.intro ?_ ?_ | intro
  all_goals refine leaf ?_
  refine callE (order_prog (nth its i).2 (nth its j).2) ?_
  refine walk (k := ?_)
  repeat' first | refine And.intro ?_ ?_ | intro
  all_goals refine leaf ?_
  exact doneR rfl

theorem len_prog (s : Nat) (n : Nat) : CallsR Try.prog nqueue_row_Len [.slice s 0 n 1] [] fun v => v = .int .i64 n := by
  refine squeue_row_Len fun H hh => ?_
  dsimp only [cqueue_row_Len]
  refine walk (k := ?_)
  repeat' first | refine And.intro ?_ ?_ | intro
  all_goals refine leaf ?_
  exact doneR rfl

theorem itO_swap {its : Its} {i j : Nat} (hi : i < its.length) (hj : j < its.length) :
    (((itO its).set j (obI (nth its j) i)).set i (obI (nth its i) j)).Perm (itO (swapL its i j)) := by
  by_cases hij : i = j
  · subst hij
    have h1 : swapL its i i = its := by
      apply List.ext_getElem? ; intro k
      by_cases hk : k < its.length
      · rw [getD_some (by rw [swapL_length]; exact hk), getD_some hk, nth_swapL hi hi hk]
        by_cases h : k = i
        · subst h; simp
        · simp [h]
      · rw [List.getElem?_eq_none (by rw [swapL_length]; omega), List.getElem?_eq_none (by omega)]
    rw [h1]
    have h2 : (itO its).set i (obI (nth its i) i) = itO its := by
      apply List.ext_getElem?; intro k
      by_cases h : k = i
      · subst h; rw [List.getElem?_set_self (by rw [itO_length]; exact hi), itO_get hi]
      · rw [List.getElem?_set_ne (Ne.symm h)]
    rw [h2, h2]
  · haveI : Inhabited Ob := ⟨(0, .map [])⟩
    have hl : (itO (swapL its i j)).length = its.length := by rw [itO_length, swapL_length]
    have key : ((itO its).set j (obI (nth its j) i)).set i (obI (nth its i) j) = swapL (itO (swapL its i j)) i j := by
      have n1 : nth (itO (swapL its i j)) i = obI (nth its j) i := by
        rw [nth_of (itO_get (by rw [swapL_length]; exact hi)), nth_swapL hi hj hi, if_pos rfl]
      have n2 : nth (itO (swapL its i j)) j = obI (nth its i) j := by
        rw [nth_of (itO_get (by rw [swapL_length]; exact hj)), nth_swapL hi hj hj, if_neg (Ne.symm hij), if_pos rfl]
      apply List.ext_getElem?; intro k
      by_cases hk : k < its.length
      · by_cases h1 : k = i
        · subst h1
          rw [List.getElem?_set_self (by simp [itO_length]; exact hk), getD_some (by rw [swapL_length, hl]; exact hk), nth_swapL (by rw [hl]; exact hi) (by rw [hl]; exact hj) (by rw [hl]; exact hk), if_pos rfl, n2]
        · rw [List.getElem?_set_ne (Ne.symm h1)]
          by_cases h2 : k = j
          · subst h2
            rw [List.getElem?_set_self (by rw [itO_length]; exact hk), getD_some (by rw [swapL_length, hl]; exact hk), nth_swapL (by rw [hl]; exact hi) (by rw [hl]; exact hj) (by rw [hl]; exact hk), if_neg h1, if_pos rfl, n1]
          · rw [List.getElem?_set_ne (Ne.symm h2), itO_get hk, getD_some (by rw [swapL_length, hl]; exact hk), nth_swapL (by rw [hl]; exact hi) (by rw [hl]; exact hj) (by rw [hl]; exact hk), if_neg h1, if_neg h2, nth_of (itO_get (by rw [swapL_length]; exact hk)), nth_swapL hi hj hk, if_neg h1, if_neg h2]
      · rw [List.getElem?_eq_none (by simp [itO_length]; omega), List.getElem?_eq_none (by rw [swapL_length, hl]; omega)]
    rw [key]
    exact swapL_perm (by rw [hl]; exact hi) (by rw [hl]; exact hj)

theorem swap_prog (s : Nat) (its : Its) (i j : Nat) (hi : i < its.length) (hj : j < its.length) : CallsL Try.prog nqueue_row_Swap [.slice s 0 its.length 1, .int .i64 i, .int .i64 j] (rowO s its :: itO its) fun v L' => v = .tup [] ∧ L' = rowO s (swapL its i j) :: itO (swapL its i j) := by
  refine squeue_row_Swap fun H hh => ?_
  dsimp only [cqueue_row_Swap]
  refine walk (k := ?_)
  repeat' first | refine And.intro ?_ ?_ | intro
  all_goals refine leaf ?_
  rename_i hh
  have hi' : i < (swapL its i j).length := by rw [swapL_length]; exact hi
  have hj' : j < (swapL its i j).length := by rw [swapL_length]; exact hj
  change Has _ (rowO s (swapL its i j) :: itO its) at hh
  rw [show nth ((its.set i (nth its j)).set j (nth its i)) i = nth its j from by have := nth_swapL hi hj hi; rwa [if_pos rfl] at this, show nth ((its.set i (nth its j)).set j (nth its i)) j = nth its i from by
    have := nth_swapL hi hj hj
    by_cases h : j = i
    · subst h; rwa [if_pos rfl] at this
    · rwa [if_neg h, if_pos rfl] at this]
  refine wps_store (cs' := [.int .i64 (nth its j).2.tenant, .str (nth its j).2.key, .int .i64 (nth its j).2.at_, .int .i64 i]) hh rfl rfl rfl rfl rfl (.there (upd_set' (itO_get hj))) (Nat.le_of_ble_eq_true rfl) rfl fun _ hh => ?_
  refine walk1 (k := ?_)
  repeat' first | refine And.intro ?_ ?_ | intro
  all_goals refine leaf ?_
  have h1 : ((itO its).set j (obI (nth its j) i))[i]? = some (obI (nth its i) i) := by
    by_cases h : j = i
    · subst h; rw [List.getElem?_set_self (by rw [itO_length]; exact hj)]
    · rw [List.getElem?_set_ne h, itO_get hi]
  refine wps_store (cs' := [.int .i64 (nth its i).2.tenant, .str (nth its i).2.key, .int .i64 (nth its i).2.at_, .int .i64 j]) hh rfl rfl rfl rfl rfl (.there (upd_set' h1)) (Nat.le_of_ble_eq_true rfl) rfl fun _ hh => ?_
  refine walk1 (k := ?_)
  repeat' first | refine And.intro ?_ ?_ | intro
  all_goals refine leaf ?_
  exact .mk (hh.perm ((itO_swap hi hj).cons _)) ⟨rfl, rfl⟩

/-- One more behind all. -/
theorem itO_push (its : Its) (x : It) : itO (its ++ [x]) = itO its ++ [obI x its.length] := by
  simp only [itO, List.length_append, List.length_singleton, List.range_succ, List.map_append, List.map_cons, List.map_nil]
  congr 1
  · refine List.map_congr_left fun i hi => ?_
    have := List.mem_range.1 hi
    rw [nth_getElem (by simp; omega), nth_getElem this, List.getElem_append_left this]
  · rw [nth_getElem (by simp)]; simp
theorem push_prog (q s id mid : Nat) (its : Its) (d : Due) (n : Int) (hl : its.length ≤ 1000) : CallsL Try.prog nqueue_row_Push [.ptr q 0, .iface tP_queue_item (.ptr id 0)] ((q, .cells true [.slice s 0 its.length 1, .map mid]) :: rowO s its :: (id, .cells true [.int .i64 d.tenant, .str d.key, .int .i64 d.at_, .int .i64 n]) :: itO its)
    fun v L' => v = .tup [] ∧ ∃ s', L' = (q, .cells true [.slice s' 0 (its ++ [(id, d)]).length 1, .map mid]) :: rowO s' (its ++ [(id, d)]) :: itO (its ++ [(id, d)]) := by
  refine squeue_row_Push fun H hh => ?_
  dsimp only [cqueue_row_Push]
  refine walk (k := ?_)
  repeat' first | refine And.intro ?_ ?_ | intro
  all_goals refine leaf ?_
  rename_i t _ hh
  refine wps_approw hh [(id, d)] (l := its) (enc := itC) (L' := fun s' => (t, .cells true [.ptr id 0]) :: (q, .cells true [.slice s 0 its.length 1, .map mid]) :: rowO s' (its ++ [(id, d)]) :: (obI (id, d) its.length) :: itO its) rfl rfl .here (fun _ => rfl) (fun s' => .there (.there .here1)) (by simp; omega) fun s' _ hh => ?_
  refine walk1 (k := ?_)
  repeat' first | refine And.intro ?_ ?_ | intro
  all_goals refine leaf ?_
  rename_i hh
  refine .mk (L := (q, .cells true [.slice s' 0 (its ++ [(id, d)]).length 1, .map mid]) :: rowO s' (its ++ [(id, d)]) :: itO (its ++ [(id, d)])) ?_ ⟨rfl, s', rfl⟩
  rw [itO_push]
  exact hh.tail.perm (((List.perm_append_singleton _ _).symm.cons _).cons _)
theorem pop_prog (q s mid : Nat) (its : Its) (x : It) (hl : its.length ≤ 1000) : CallsL Try.prog nqueue_row_Pop [.ptr q 0] ((q, .cells true [.slice s 0 (its ++ [x]).length 1, .map mid]) :: rowO s (its ++ [x]) :: itO (its ++ [x]))
    fun v L' => v = .iface tP_queue_item (.ptr x.1 0) ∧ L' = (q, .cells true [.slice s 0 its.length 1, .map mid]) :: rowO s its :: obI x its.length :: itO its := by
  refine squeue_row_Pop fun H hh => ?_
  dsimp only [cqueue_row_Pop]
  refine walk (k := ?_)
  repeat' first | refine And.intro ?_ ?_ | intro
  all_goals refine leaf ?_
  rename_i hh
  have e : ((↑(its ++ [x]).length - 1 : Int)).toNat = its.length := by simp
  rw [e] at hh ⊢
  have e2 : nth (its ++ [x]) its.length = x := by rw [nth_getElem (by simp)]; simp
  rw [e2]
  rw [itO_push] at hh
  refine CEnds.cut hh (id := s) (cs := its.flatMap itC) (cs' := itC x) (L' := (q, .cells true [.slice s 0 its.length 1, .map mid]) :: rowO s its :: (itO its ++ [obI x its.length])) ?_ (by simp [itC]) fun H' hh => ?_
  · have : (its ++ [x]).flatMap itC = its.flatMap itC ++ itC x := by simp
    rw [rowO, this]; exact .there .here1
  · exact .mk (hh.perm (((List.perm_append_singleton _ _).cons _).cons _)) ⟨rfl, rfl⟩
end Go.Proofs.Ytmebampmjfbahaa
