/-
  The queue of what is due: the sort of those up to a time, and the document's answer.
-/
import Derived.Test.YtjgcgepfidcihaaGreatDoorKueF
import Derived.Test.YtjgcgepfidcihaaGreatDoorSort
import Derived.Test.YtjgcgepfidcihaaGreatDoorCmH
namespace Go.Proofs.YtjgcgepfidcihaaGreatDoor.Que
open Go Go.CM
set_option maxRecDepth 100000
set_option maxHeartbeats 4000000

abbrev WL (w : Nat) (b : Bool) (l : List Due) : Ob := (w, .cells b (l.flatMap Due.enc))
theorem due_inj : ∀ x y : Due, x.enc = y.enc → x = y := by
  rintro ⟨a, b, c⟩ ⟨a', b', c'⟩ h
  simp only [Due.enc, List.cons.injEq, V.int.injEq, V.str.injEq, true_and, and_true] at h
  obtain ⟨rfl, rfl, rfl⟩ := h
  rfl
theorem ord_cmp : Cmp ordD := ⟨lt_irrefl, fun x y z h1 h2 => lt_trans (a := x) (b := y) (c := z) h1 h2, fun x y z h1 h2 => le_trans' (a := z) (b := y) (c := x) h2 h1⟩
theorem sort_prog (s : Nat) (l : List Due) (hn : l.length < 4611686018427387904) : CallsL Tryz.prog nslices_SortFunc_api_Due [.slice s 0 l.length 3, .func nqueue_order []] [WL s true l] fun v L' => ∃ l' : List Due, l'.Perm l ∧ l'.Pairwise (fun x y => ¬ lt y x) ∧ v = .tup [] ∧ L' = [WL s true l'] :=
  sortL (k := 3) ⟨_, Tryz.func69, by kernel_rfl, by kernel_rfl⟩ (sortK_of Tryz.sortDue Tryz.isAgg71 Tryz.sizeOf71) (sortK0_of Tryz.sortDue) (by decide) due_inj (fun _ => rfl) ord_cmp (fun a b => order_prog a b) l hn

abbrev upTo (now : Int) (l : List Due) : List Due := l.filter fun e => decide (e.at_ ≤ now)
theorem upTo_step {now : Int} {l : List Due} {i : Nat} (hi : i < l.length) : upTo now (l.take (i + 1)) = upTo now (l.take i) ++ if (nth l i).at_ ≤ now then [nth l i] else [] := by
  show (l.take (i + 1)).filter _ = (l.take i).filter _ ++ _
  rw [take_getD hi, List.filter_append]
  by_cases h : (nth l i).at_ ≤ now <;> simp [h]
theorem upTo_le (now : Int) (l : List Due) : (upTo now l).length ≤ l.length := List.length_filter_le _ _
theorem due_prog (q s mid : Nat) (ms its : Its) (now : Int) (hl : its.length ≤ 500) : CallsN Tryz.prog nqueue_Queue_Due [.ptr q 0, .int .i64 now] (QL q s mid ms its) fun v Lo => ∃ o l',
    l'.Perm (upTo now (dues its)) ∧ l'.Pairwise (fun x y => ¬ lt y x) ∧ v = .slice o 0 l'.length 3 ∧ Lo = [WL o true l'] := by
  refine squeue_Queue_Due fun H hh => ?_
  dsimp only [cqueue_Queue_Due]
  refine walk (k := ?_)
  repeat' first | refine And.intro ?_ ?_ | intro
  all_goals refine leaf ?_
  refine loopN [0, 1, 5, 13, 14, 15] its.length (fun i vs L => ∃ o, vs = [.ptr q 0, .int .i64 now, .slice o 0 (upTo now ((dues its).take i)).length 3, .slice s 0 its.length 1, .int .i64 its.length, .int .i64 i] ∧ L = WL o true (upTo now ((dues its).take i)) :: QL q s mid ms its) (Nx.hereW [_, _, .slice 0 0 0 3, _, _, _] ⟨0, rfl, rfl⟩) ?_
  clear hh
  rintro i _ _ e H hi ⟨o, rfl, rfl⟩ hh
  simp only [puts]
  have hle : (upTo now ((dues its).take i)).length ≤ i := Nat.le_trans (upTo_le _ _) (by simp; omega)
  by_cases hn : i < its.length
  · skip
    refine walk1 (k := ?_)
    repeat' first | refine And.intro ?_ ?_ | intro
    all_goals refine leaf ?_
    refine c_cond_t (by show V.bool _ = _; simp; omega) ?_
    refine walk1 (k := ?_)
    repeat' first | refine And.intro ?_ ?_ | intro
    all_goals refine leaf ?_
    refine wps_ld ‹_› rfl (.there (.there (.there (.there (at_mem' (itO_mem hn)))))) (v := .int .i64 (nth its i).2.at_) rfl ?_
    refine walk1 (k := ?_)
    repeat' first | refine And.intro ?_ ?_ | intro
    all_goals refine leaf ?_
    have hst := upTo_step (now := now) (l := dues its) (i := i) (by simpa using hn)
    have hnd : nth (dues its) i = (nth its i).2 := nth_of (by rw [List.getElem?_map, getD_some hn]; rfl)
    rw [hnd] at hst
    by_cases ht : (nth its i).2.at_ ≤ now
    · refine c_cond_t (by show V.bool _ = _; simp [ht]) ?_
      rw [if_pos ht] at hst
      refine walk1 (k := ?_)
      repeat' first | refine And.intro ?_ ?_ | intro
      all_goals refine leaf ?_
      refine wps_ldn ‹_› rfl (.there (.there (.there (.there (at_mem' (itO_mem hn)))))) (vs' := (nth its i).2.enc) rfl rfl ?_
      refine walk1 (k := ?_)
      repeat' first | refine And.intro ?_ ?_ | intro
      all_goals refine leaf ?_
      rename_i t o2 _ _
      exact Nx.next hn ⟨o2, by rw [hst]; rfl, by rw [hst]⟩
    · refine c_cond_f (by show V.bool _ = _; simp [ht]) ?_
      rw [if_neg ht, List.append_nil] at hst
      refine walk1 (k := ?_)
      repeat' first | refine And.intro ?_ ?_ | intro
      all_goals refine leaf ?_
      exact Nx.next hn ⟨o, by rw [hst]; rfl, by rw [hst]⟩
  · skip
    refine walk1 (k := ?_)
    repeat' first | refine And.intro ?_ ?_ | intro
    all_goals refine leaf ?_
    refine c_cond_f (by show V.bool _ = _; simp; omega) ?_
    refine walk1 (k := ?_)
    repeat' first | refine And.intro ?_ ?_ | intro
    all_goals refine leaf ?_
    have : i = its.length := by omega
    subst this
    rw [List.take_of_length_le (l := dues its) (by simp)] at hh ⊢
    refine callL (sort_prog o (upTo now (dues its)) (by rw [List.take_of_length_le (l := dues its) (by simp)] at hle; omega)) ?_
    rintro _ _ H' ⟨l', hp, hs, rfl, rfl⟩ hh
    refine walk1 (k := ?_)
    repeat' first | refine And.intro ?_ ?_ | intro
    all_goals refine leaf ?_
    rw [← hp.length_eq]
    exact doneN ⟨o, l', hp, hs, rfl, rfl⟩

end Go.Proofs.YtjgcgepfidcihaaGreatDoor.Que
