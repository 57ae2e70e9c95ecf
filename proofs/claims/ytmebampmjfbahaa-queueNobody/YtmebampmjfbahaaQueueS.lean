/-
  The queue of what is due: the sort of those up to a time, and the document's answer.
-/
import Derived.Test.YtmebampmjfbahaaQueueL
import Derived.Test.YtmebampmjfbahaaSort
import Derived.Test.YtmebampmjfbahaaCmSort
namespace Go.Proofs.Ytmebampmjfbahaa
open Go Go.CM
set_option maxRecDepth 100000
set_option maxHeartbeats 4000000

theorem due_inj : ∀ x y : Due, x.enc = y.enc → x = y := by
  rintro ⟨a, b, c⟩ ⟨a', b', c'⟩ h
  simp only [Due.enc, List.cons.injEq, V.int.injEq, V.str.injEq, true_and, and_true] at h
  obtain ⟨rfl, rfl, rfl⟩ := h
  rfl
theorem ord_cmp : Cmp ordD := ⟨lt_irrefl, fun x y z h1 h2 => lt_trans (a := x) (b := y) (c := z) h1 h2, fun x y z h1 h2 => le_trans' (a := z) (b := y) (c := x) h2 h1⟩
theorem sort_prog (s : Nat) (l : List Due) (hn : l.length < 4611686018427387904) : CallsL Try.prog nslices_SortFunc_api_Due [.slice s 0 l.length 3, .func nqueue_order []] [WL s true l] fun v L' => ∃ l' : List Due, l'.Perm l ∧ l'.Pairwise (fun x y => ¬ lt y x) ∧ v = .tup [] ∧ L' = [WL s true l'] :=
  sortL (k := 3) ⟨_, Try.func26, by kernel_rfl, by kernel_rfl⟩ (sortK_of Try.sortDue Try.isAgg27 Try.sizeOf27) (sortK0_of Try.sortDue) (by decide) due_inj (fun _ => rfl) ord_cmp (fun a b => order_prog a b) l hn

abbrev upTo (now : Int) (l : List Due) : List Due := l.filter fun e => decide (e.at_ ≤ now)
theorem upTo_step {now : Int} {l : List Due} {i : Nat} (hi : i < l.length) : upTo now (l.take (i + 1)) = upTo now (l.take i) ++ if (nth l i).at_ ≤ now then [nth l i] else [] := by
  show (l.take (i + 1)).filter _ = (l.take i).filter _ ++ _
  rw [take_getD hi, List.filter_append]
  by_cases h : (nth l i).at_ ≤ now <;> simp [h]
theorem upTo_le (now : Int) (l : List Due) : (upTo now l).length ≤ l.length := List.length_filter_le _ _
theorem due_nil (now : Int) : CallsR Try.prog nqueue_Queue_Due [.nilp, .int .i64 now] [] fun v => v = .nils := by
  refine squeue_Queue_Due fun H hh => ?_
  dsimp only [cqueue_Queue_Due]
  refine walk (k := ?_)
  repeat' first | refine And.intro ?_ ?_ | intro
  all_goals refine leaf ?_
  exact doneR rfl
theorem due_prog (q s mid : Nat) (ms its : Its) (now : Int) (hl : its.length ≤ 500) : CallsN Try.prog nqueue_Queue_Due [.ptr q 0, .int .i64 now] (QL q s mid ms its) fun v Lo => ∃ o l',
    l'.Perm (upTo now (dues its)) ∧ l'.Pairwise (fun x y => ¬ lt y x) ∧ v = .slice o 0 l'.length 3 ∧ Lo = [WL o true l'] := by
  refine squeue_Queue_Due fun H hh => ?_
  dsimp only [cqueue_Queue_Due]
  refine walk (k := ?_)
  repeat' first | refine And.intro ?_ ?_ | intro
  all_goals refine leaf ?_
  refine loopN [0, 1, 5, 13, 14, 15] its.length (fun i vs L => ∃ o, vs = [.ptr q 0, .int .i64 now, .slice o 0 (upTo now ((dues its).take i)).length 3, .slice s 0 its.length 1, .int .i64 its.length, .int .i64 i] ∧ L = WL o true (upTo now ((dues its).take i)) :: QL q s mid ms its) (Nx.hereW [_, _, .slice 0 0 0 3, _, _, _] ⟨0, rfl, rfl⟩) ?_
  clear hh
  rintro i _ _ e H hi ⟨o, rfl, rfl⟩ hh
  simp only [puts]
  have hle : (upTo now ((dues its).take i)).length ≤ i := Nat.le_trans (upTo_le _ _) (by simp; omega)
  by_cases hn : i < its.length
  · skip
    refine walk1 (k := ?_)
    repeat' first | refine And.intro ?_ ?_ | intro
    all_goals refine leaf ?_
    refine c_cond_t (by show V.bool _ = _; simp; omega) ?_
    refine walk1 (k := ?_)
    repeat' first | refine And.intro ?_ ?_ | intro
    all_goals refine leaf ?_
    refine wps_ld ‹_› rfl (.there (.there (.there (.there (at_mem' (itO_mem hn)))))) (v := .int .i64 (nth its i).2.at_) rfl ?_
    refine walk1 (k := ?_)
    repeat' first | refine And.intro ?_ ?_ | intro
    all_goals refine leaf ?_
    have hst := upTo_step (now := now) (l := dues its) (i := i) (by simpa using hn)
    have hnd : nth (dues its) i = (nth its i).2 := nth_of (by rw [List.getElem?_map, getD_some hn]; rfl)
    rw [hnd] at hst
    by_cases ht : (nth its i).2.at_ ≤ now
    · refine c_cond_t (by show V.bool _ = _; simp [ht]) ?_
      rw [if_pos ht] at hst
      refine walk1 (k := ?_)
      repeat' first | refine And.intro ?_ ?_ | intro
      all_goals refine leaf ?_
      refine wps_ldn ‹_› rfl (.there (.there (.there (.there (at_mem' (itO_mem hn)))))) (vs' := (nth its i).2.enc) rfl rfl ?_
      refine walk1 (k := ?_)
      repeat' first | refine And.intro ?_ ?_ | intro
      all_goals refine leaf ?_
      rename_i t o2 _ _
      exact Nx.next hn ⟨o2, by rw [hst]; rfl, by rw [hst]⟩
    · refine c_cond_f (by show V.bool _ = _; simp [ht]) ?_
      rw [if_neg ht, List.append_nil] at hst
      refine walk1 (k := ?_)
      repeat' first | refine And.intro ?_ ?_ | intro
      all_goals refine leaf ?_
      exact Nx.next hn ⟨o, by rw [hst]; rfl, by rw [hst]⟩
  · skip
    refine walk1 (k := ?_)
    repeat' first | refine And.intro ?_ ?_ | intro
    all_goals refine leaf ?_
    refine c_cond_f (by show V.bool _ = _; simp; omega) ?_
    refine walk1 (k := ?_)
    repeat' first | refine And.intro ?_ ?_ | intro
    all_goals refine leaf ?_
    have : i = its.length := by omega
    subst this
    rw [List.take_of_length_le (l := dues its) (by simp)] at hh ⊢
    refine callL (sort_prog o (upTo now (dues its)) (by rw [List.take_of_length_le (l := dues its) (by simp)] at hle; omega)) ?_
    rintro _ _ H' ⟨l', hp, hs, rfl, rfl⟩ hh
    refine walk1 (k := ?_)
    repeat' first | refine And.intro ?_ ?_ | intro
    all_goals refine leaf ?_
    rw [← hp.length_eq]
    exact doneN ⟨o, l', hp, hs, rfl, rfl⟩

theorem until_prog (w : Nat) (b : Bool) (l : List Due) (now : Int) (hl : l.length ≤ 500) : CallsR Try.prog nref16_Until [.slice w 0 l.length 3, .int .i64 now] [WL w b l] fun v =>
    v = .slice w 0 (l.takeWhile fun e => decide (e.at_ ≤ now)).length 3 := by
  refine sref16_Until fun H hh => ?_
  dsimp only [cref16_Until]
  refine walk (k := ?_)
  repeat' first | refine And.intro ?_ ?_ | intro
  all_goals refine leaf ?_
  refine loopN [0, 1, 5] l.length (fun i vs L => (l.take i).all (fun e => decide (e.at_ ≤ now)) = true ∧ vs = [.slice w 0 l.length 3, .int .i64 now, .int .i64 i] ∧ L = [WL w b l]) (Nx.here ⟨by simp, rfl, rfl⟩) ?_
  clear hh
  rintro i _ _ e H hi ⟨hall, rfl, rfl⟩ hh
  simp only [puts]
  by_cases hn : i < l.length
  · skip
    refine walk1 (k := ?_)
    repeat' first | refine And.intro ?_ ?_ | intro
    all_goals refine leaf ?_
    refine wps_gs_d rfl (fun _ => ?_) (fun h => absurd (show (i : Int) < l.length by omega) h)
    by_cases ht : (nth l i).at_ ≤ now
    · skip
      refine walk1 (k := ?_)
      repeat' first | refine And.intro ?_ ?_ | intro
      all_goals refine leaf ?_
      refine c_cond_t (by show V.bool _ = _; simp [ht]) ?_
      refine walk1 (k := ?_)
      repeat' first | refine And.intro ?_ ?_ | intro
      all_goals refine leaf ?_
      exact Nx.next hn ⟨all_step hn hall (decide_eq_true ht), rfl, rfl⟩
    · skip
      refine walk1 (k := ?_)
      repeat' first | refine And.intro ?_ ?_ | intro
      all_goals refine leaf ?_
      refine c_cond_f (by show V.bool _ = _; simp [ht]) ?_
      refine walk1 (k := ?_)
      repeat' first | refine And.intro ?_ ?_ | intro
      all_goals refine leaf ?_
      refine doneR ?_
      rw [(while_at (p := fun e => decide (e.at_ ≤ now)) hi hall (.inr (decide_eq_false ht))).1, List.length_take, Nat.min_eq_left hi]; rfl
  · skip
    refine walk1 (k := ?_)
    repeat' first | refine And.intro ?_ ?_ | intro
    all_goals refine leaf ?_
    refine wps_gs_d rfl (fun h => absurd (show (i : Int) < l.length from h) (by omega)) (fun _ => ?_)
    refine walk1 (k := ?_)
    repeat' first | refine And.intro ?_ ?_ | intro
    all_goals refine leaf ?_
    refine doneR ?_
    rw [(while_at (p := fun e => decide (e.at_ ≤ now)) hi hall (.inl (by omega))).1, List.length_take, Nat.min_eq_left hi]; rfl

theorem due_ne {a b : Due} (h : a ≠ b) : ¬ a.tenant = b.tenant ∨ ¬ a.key = b.key ∨ ¬ a.at_ = b.at_ := by
  obtain ⟨t, k, n⟩ := a
  obtain ⟨t', k', n'⟩ := b
  by_cases h1 : t = t'
  · by_cases h2 : k = k'
    · by_cases h3 : n = n'
      · subst h1 h2 h3; exact absurd rfl h
      · exact .inr (.inr h3)
    · exact .inr (.inl h2)
  · exact .inl h1
theorem same_prog (x w : Nat) (a b : Bool) (l r : List Due) (m : Nat) (hl : l.length ≤ 500) (hm : m ≤ r.length) : CallsR Try.prog nref16_Same [.slice x 0 l.length 3, .slice w 0 m 3] [WL x a l, WL w b r] fun v =>
    v = .bool (decide (l = r.take m)) := by
  refine sref16_Same fun H hh => ?_
  dsimp only [cref16_Same]
  refine walk (k := ?_)
  repeat' first | refine And.intro ?_ ?_ | intro
  all_goals refine leaf ?_
  · rename_i h
    refine doneR (congrArg V.bool ?_)
    rw [eq_comm, decide_eq_false_iff_not]
    intro e
    have := congrArg List.length e
    rw [List.length_take] at this
    omega
  rename_i h
  have hlm : l.length = m := by omega
  clear h
  subst hlm
  refine loopN [0, 1, 5] l.length (fun i vs L => l.take i = r.take i ∧ vs = [.slice x 0 l.length 3, .slice w 0 l.length 3, .int .i64 i] ∧ L = [WL x a l, WL w b r]) (Nx.here ⟨by simp, rfl, rfl⟩) ?_
  clear hh
  rintro i _ _ e H hi ⟨hall, rfl, rfl⟩ hh
  simp only [puts]
  by_cases hn : i < l.length
  · skip
    refine walk1 (k := ?_)
    repeat' first | refine And.intro ?_ ?_ | intro
    all_goals refine leaf ?_
    refine c_cond_t (by show V.bool _ = _; simp; omega) ?_
    refine walk1 (k := ?_)
    repeat' first | refine And.intro ?_ ?_ | intro
    all_goals refine leaf ?_
    have t1 := take_getD hn
    have t2 := take_getD (l := r) (i := i) (by omega)
    by_cases heq : nth l i = nth r i
    · refine c_cond_f (by show V.bool _ = _; simp [heq]) ?_
      refine walk1 (k := ?_)
      repeat' first | refine And.intro ?_ ?_ | intro
      all_goals refine leaf ?_
      exact Nx.next hn ⟨by rw [t1, t2, hall, heq], rfl, rfl⟩
    · refine c_cond_t (by show V.bool _ = _; simp; exact due_ne heq) ?_
      refine walk1 (k := ?_)
      repeat' first | refine And.intro ?_ ?_ | intro
      all_goals refine leaf ?_
      refine doneR (congrArg V.bool ?_)
      rw [eq_comm, decide_eq_false_iff_not]
      intro e
      refine heq ?_
      have e2 : l.take (i + 1) = r.take (i + 1) := by
        conv => lhs; rw [e]
        rw [List.take_take, Nat.min_eq_left (by omega)]
      rw [t1, t2, hall] at e2
      simpa using e2
  · skip
    refine walk1 (k := ?_)
    repeat' first | refine And.intro ?_ ?_ | intro
    all_goals refine leaf ?_
    refine c_cond_f (by show V.bool _ = _; simp; omega) ?_
    refine walk1 (k := ?_)
    repeat' first | refine And.intro ?_ ?_ | intro
    all_goals refine leaf ?_
    have : i = l.length := by omega
    subst this
    refine doneR (congrArg V.bool ?_)
    rw [eq_comm, decide_eq_true_iff, ← hall, List.take_length]
end Go.Proofs.Ytmebampmjfbahaa
