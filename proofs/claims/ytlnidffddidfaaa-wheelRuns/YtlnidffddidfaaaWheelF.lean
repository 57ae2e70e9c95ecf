/-
  The wheel: the document's answer.
-/
import Derived.Test.YtlnidffddidfaaaWheelE
namespace Go.Proofs.Ytlnidffddidfaaa
open Go Go.CM
set_option maxRecDepth 100000
set_option maxHeartbeats 4000000

abbrev othersT (n : Int) (l : List Tmr) : List Tmr := l.filter fun e => decide (e.id ≠ n)
theorem othersT_le (n : Int) (l : List Tmr) : (othersT n l).length ≤ l.length := List.length_filter_le _ _
theorem othersT_step {n : Int} {l : List Tmr} {i : Nat} (hi : i < l.length) : othersT n (l.take (i + 1)) = othersT n (l.take i) ++ if (nth l i).id ≠ n then [nth l i] else [] := by
  show (l.take (i + 1)).filter _ = (l.take i).filter _ ++ _
  rw [take_getD hi, List.filter_append]
  by_cases h : (nth l i).id = n <;> simp [h]
theorem rdropT_prog (w : Nat) (b : Bool) (l : List Tmr) (n : Int) (hl : l.length ≤ 500) : CallsN Try.prog nref46_Drop [.slice w 0 l.length 2, .int .i64 n] [TL w b l] fun v Lo => ∃ o,
    v = .tup [.slice o 0 (othersT n l).length 2, .bool (decide (((othersT n l).length : Int) < (l.length : Int)))] ∧ Lo = [TL o true (othersT n l)] := by
  refine sref46_Drop fun H hh => ?_
  dsimp only [cref46_Drop]
  refine walk (k := ?_)
  repeat' first | refine And.intro ?_ ?_ | intro
  all_goals refine leaf ?_
  refine loopN [0, 1, 6, 7] l.length (fun i vs L => ∃ o, vs = [.slice w 0 l.length 2, .int .i64 n, .slice o 0 (othersT n (l.take i)).length 2, .int .i64 i] ∧ L = [TL o true (othersT n (l.take i)), TL w b l]) (Nx.hereW [_, _, .slice 0 0 0 2, _] ⟨0, rfl, rfl⟩) ?_
  clear hh
  rintro i _ _ e H hi ⟨o, rfl, rfl⟩ hh
  simp only [puts]
  have hle : (othersT n (l.take i)).length ≤ i := Nat.le_trans (othersT_le _ _) (by simp; omega)
  refine walk (k := ?_)
  repeat' first | refine And.intro ?_ ?_ | intro
  all_goals refine leaf ?_
  · rename_i hc hne _ o' _ _
    have hst := othersT_step (n := n) (l := l) (i := i) (by omega)
    rw [if_pos hne] at hst
    exact Nx.next (by omega) ⟨o', by rw [hst] <;> rfl, by rw [hst] <;> rfl⟩
  · rename_i hc hne
    have hst := othersT_step (n := n) (l := l) (i := i) (by omega)
    rw [if_neg (by simpa using hne), List.append_nil] at hst
    exact Nx.next (by omega) ⟨o, by rw [hst]; rfl, by rw [hst]⟩
  · have : i = l.length := by omega
    subst this
    rw [List.take_length] at hh ⊢
    exact doneN ⟨o, rfl, rfl⟩

abbrev IL (s : Nat) (b : Bool) (l : List Int) : Ob := (s, .cells b (l.flatMap intC))
theorem rsameT_prog (x w : Nat) (a b : Bool) (l r : List Int) (hl : l.length ≤ 1000) : CallsR Try.prog nref46_Same [.slice x 0 l.length 1, .slice w 0 r.length 1] [IL x a l, IL w b r] fun v =>
    v = .bool (decide (l = r)) := by
  refine sref46_Same fun H hh => ?_
  dsimp only [cref46_Same]
  refine walk (k := ?_)
  repeat' first | refine And.intro ?_ ?_ | intro
  all_goals refine leaf ?_
  · rename_i h
    refine doneR (congrArg V.bool ?_)
    rw [eq_comm, decide_eq_false_iff_not]
    rintro rfl
    exact h rfl
  rename_i h
  have hlm : l.length = r.length := by omega
  clear h
  refine loopN [0, 1, 5] l.length (fun i vs L => l.take i = r.take i ∧ vs = [.slice x 0 l.length 1, .slice w 0 r.length 1, .int .i64 i] ∧ L = [IL x a l, IL w b r]) (Nx.here ⟨by simp, rfl, rfl⟩) ?_
  clear hh
  rintro i _ _ e H hi ⟨hall, rfl, rfl⟩ hh
  simp only [puts]
  by_cases hn : i < l.length
  · skip
    refine walk1 (k := ?_)
    repeat' first | refine And.intro ?_ ?_ | intro
    all_goals refine leaf ?_
    refine c_cond_t (by show V.bool _ = _; simp; omega) ?_
    refine walk1 (k := ?_)
    repeat' first | refine And.intro ?_ ?_ | intro
    all_goals refine leaf ?_
    have t1 := take_getD hn
    have t2 := take_getD (l := r) (i := i) (by omega)
    by_cases heq : nth l i = nth r i
    · refine c_cond_f (by show V.bool _ = _; simp [heq]) ?_
      refine walk1 (k := ?_)
      repeat' first | refine And.intro ?_ ?_ | intro
      all_goals refine leaf ?_
      exact Nx.next hn ⟨by rw [t1, t2, hall, heq], rfl, rfl⟩
    · refine c_cond_t (by show V.bool _ = _; simp [heq]) ?_
      refine walk1 (k := ?_)
      repeat' first | refine And.intro ?_ ?_ | intro
      all_goals refine leaf ?_
      refine doneR (congrArg V.bool ?_)
      rw [eq_comm, decide_eq_false_iff_not]
      rintro rfl
      exact heq rfl
  · skip
    refine walk1 (k := ?_)
    repeat' first | refine And.intro ?_ ?_ | intro
    all_goals refine leaf ?_
    refine c_cond_f (by show V.bool _ = _; simp; omega) ?_
    refine walk1 (k := ?_)
    repeat' first | refine And.intro ?_ ?_ | intro
    all_goals refine leaf ?_
    have : i = l.length := by omega
    subst this
    refine doneR (congrArg V.bool ?_)
    rw [eq_comm, decide_eq_true_iff]
    rw [List.take_length, hlm, List.take_length] at hall
    exact hall

theorem whileT_at {p : Tmr → Bool} : ∀ {l : List Tmr} {i : Nat}, i ≤ l.length → (l.take i).all p = true → (i = l.length ∨ p (nth l i) = false) → l.takeWhile p = l.take i ∧ l.dropWhile p = l.drop i
  | [], i, _, _, _ => by simp
  | a :: l, 0, _, _, h => by
    rcases h with h | h
    · simp at h
    · rw [nth_zero] at h; simp [h]
  | a :: l, i + 1, hi, ha, h => by
    rw [List.take_succ_cons, List.all_cons, Bool.and_eq_true] at ha
    have := whileT_at (l := l) (i := i) (by simpa using hi) ha.2 (by rw [nth_succ] at h; simpa using h)
    simp [ha.1, this.1, this.2]
abbrev dueT (now : Int) (l : List Tmr) : List Tmr := l.takeWhile fun e => decide (e.at_ ≤ now)
theorem rtickT_prog (w : Nat) (b : Bool) (l : List Tmr) (now : Int) (hl : l.length ≤ 500) : CallsN Try.prog nref46_Tick [.slice w 0 l.length 2, .int .i64 now] [TL w b l] fun v Lo => ∃ o,
    v = .tup [.slice o 0 ((dueT now l).map Tmr.id).length 1, .slice w ((dueT now l).length * 2) (l.length - (dueT now l).length) 2] ∧ Lo = [IL o true ((dueT now l).map Tmr.id)] := by
  refine sref46_Tick fun H hh => ?_
  dsimp only [cref46_Tick]
  refine walk (k := ?_)
  repeat' first | refine And.intro ?_ ?_ | intro
  all_goals refine leaf ?_
  refine loopN [0, 1, 6, 7] l.length (fun i vs L => ∃ o, (l.take i).all (fun e => decide (e.at_ ≤ now)) = true ∧ vs = [.slice w 0 l.length 2, .int .i64 now, .slice o 0 ((l.take i).map Tmr.id).length 1, .int .i64 i] ∧ L = [IL o true ((l.take i).map Tmr.id), TL w b l]) (Nx.hereW [_, _, .slice 0 0 0 1, _] ⟨0, by simp, rfl, rfl⟩) ?_
  clear hh
  rintro i _ _ e H hi ⟨o, hall, rfl, rfl⟩ hh
  simp only [puts]
  have hti : ((l.take i).map Tmr.id).length = i := by simp; omega
  by_cases hn : i < l.length
  · skip
    refine walk1 (k := ?_)
    repeat' first | refine And.intro ?_ ?_ | intro
    all_goals refine leaf ?_
    refine wps_gs_d rfl (fun _ => ?_) (fun h => absurd (show (i : Int) < l.length by omega) h)
    by_cases ht : (nth l i).at_ ≤ now
    · skip
      refine walk1 (k := ?_)
      repeat' first | refine And.intro ?_ ?_ | intro
      all_goals refine leaf ?_
      refine c_cond_t (by show V.bool _ = _; simp [ht]) ?_
      refine walk1 (k := ?_)
      repeat' first | refine And.intro ?_ ?_ | intro
      all_goals refine leaf ?_
      rename_i t o2 _ _
      have hm : (l.take (i + 1)).map Tmr.id = (l.take i).map Tmr.id ++ [(nth l i).id] := by rw [take_getD hn, List.map_append]; rfl
      exact Nx.next hn ⟨o2, by rw [take_getD hn, List.all_append, hall]; simp [ht], by rw [hm] <;> rfl, by rw [hm] <;> rfl⟩
    · skip
      refine walk1 (k := ?_)
      repeat' first | refine And.intro ?_ ?_ | intro
      all_goals refine leaf ?_
      refine c_cond_f (by show V.bool _ = _; simp [ht]) ?_
      refine walk1 (k := ?_)
      repeat' first | refine And.intro ?_ ?_ | intro
      all_goals refine leaf ?_
      have hd : dueT now l = l.take i := (whileT_at (p := fun e => decide (e.at_ ≤ now)) hi hall (.inr (decide_eq_false ht))).1
      rw [Nat.zero_add, Int.toNat_natCast]
      exact doneN ⟨o, by rw [hd, List.length_take, Nat.min_eq_left hi], by rw [hd]⟩
  · skip
    refine walk1 (k := ?_)
    repeat' first | refine And.intro ?_ ?_ | intro
    all_goals refine leaf ?_
    refine wps_gs_d rfl (fun h => absurd (show (i : Int) < l.length from h) (by omega)) (fun _ => ?_)
    refine walk1 (k := ?_)
    repeat' first | refine And.intro ?_ ?_ | intro
    all_goals refine leaf ?_
    have hd : dueT now l = l.take i := (whileT_at (p := fun e => decide (e.at_ ≤ now)) hi hall (.inl (by omega))).1
    rw [Nat.zero_add, Int.toNat_natCast]
    exact doneN ⟨o, by rw [hd, List.length_take, Nat.min_eq_left hi], by rw [hd]⟩
end Go.Proofs.Ytlnidffddidfaaa
