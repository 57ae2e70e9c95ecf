/-
  The queue of what is due: the document's answer.
-/
import Derived.Test.YtmebampmjfbahaaQueueF
namespace Go.Proofs.Ytmebampmjfbahaa
open Go Go.CM
set_option maxRecDepth 100000
set_option maxHeartbeats 4000000

theorem ahead_prog (a b : Due) : CallsR Try.prog nref16_ahead [.agg a.enc, .agg b.enc] [] fun v => v = .bool (decide (lt a b)) := by
  refine sref16_ahead fun H hh => ?_
  dsimp only [cref16_ahead]
  refine walk (k := ?_)
  repeat' first | refine And.intro ?_ ?_ | intro
  all_goals refine leaf ?_
  all_goals refine doneR ?_
  all_goals refine congrArg V.bool ?_
  · rename_i h
    rw [Bool.eq_iff_iff, decide_eq_true_iff, decide_eq_true_iff, lt_iff]; omega
  · rename_i h h'
    rw [Bool.eq_iff_iff, decide_eq_true_iff, decide_eq_true_iff, lt_iff]; omega
  · rename_i h h'
    rw [Bool.eq_iff_iff, decide_eq_true_iff, lt_iff]
    have e1 : ¬ a.at_ < b.at_ := by omega
    have e2 : ¬ a.tenant < b.tenant := by omega
    have e3 : a.at_ = b.at_ := by omega
    have e4 : a.tenant = b.tenant := by omega
    simp [e3, e4]; rfl

abbrev WL (w : Nat) (b : Bool) (l : List Due) : Ob := (w, .cells b (l.flatMap Due.enc))
abbrev others (n : Int × List UInt8) (l : List Due) : List Due := l.filter fun e => decide (nm e ≠ n)
theorem others_le (n : Int × List UInt8) (l : List Due) : (others n l).length ≤ l.length := List.length_filter_le _ _
theorem others_step {n : Int × List UInt8} {l : List Due} {i : Nat} (hi : i < l.length) : others n (l.take (i + 1)) = others n (l.take i) ++ if nm (nth l i) ≠ n then [nth l i] else [] := by
  show (l.take (i + 1)).filter _ = (l.take i).filter _ ++ _
  rw [take_getD hi, List.filter_append]
  by_cases h : nm (nth l i) = n <;> simp [h]
theorem rdrop_prog (w : Nat) (b : Bool) (l : List Due) (n : Int × List UInt8) (hl : l.length ≤ 500) : CallsN Try.prog nref16_Drop [.slice w 0 l.length 3, .int .i64 n.1, .str n.2] [WL w b l] fun v Lo => ∃ o,
    v = .tup [.slice o 0 (others n l).length 3, .bool (decide (((others n l).length : Int) < (l.length : Int)))] ∧ Lo = [WL o true (others n l)] := by
  obtain ⟨t, k⟩ := n
  refine sref16_Drop fun H hh => ?_
  dsimp only [cref16_Drop]
  refine walk (k := ?_)
  repeat' first | refine And.intro ?_ ?_ | intro
  all_goals refine leaf ?_
  refine loopN [0, 1, 2, 8, 9] l.length (fun i vs L => ∃ o, vs = [.slice w 0 l.length 3, .int .i64 t, .str k, .slice o 0 (others (t, k) (l.take i)).length 3, .int .i64 i] ∧ L = [WL o true (others (t, k) (l.take i)), WL w b l]) (Nx.hereW [_, _, _, .slice 0 0 0 3, _] ⟨0, rfl, rfl⟩) ?_
  clear hh
  rintro i _ _ e H hi ⟨o, rfl, rfl⟩ hh
  simp only [puts]
  have hle : (others (t, k) (l.take i)).length ≤ i := Nat.le_trans (others_le _ _) (by simp; omega)
  refine walk (k := ?_)
  repeat' first | refine And.intro ?_ ?_ | intro
  all_goals refine leaf ?_
  · rename_i hc hne _ o' _ _
    have hst := others_step (n := (t, k)) (l := l) (i := i) (by omega)
    rw [if_pos (by simp only [nm, ne_eq, Prod.mk.injEq]; exact fun e => hne e.1)] at hst
    exact Nx.next (by omega) ⟨o', by rw [hst] <;> rfl, by rw [hst] <;> rfl⟩
  · rename_i hc he hne _ o' _ _
    have hst := others_step (n := (t, k)) (l := l) (i := i) (by omega)
    rw [if_pos (by simp only [nm, ne_eq, Prod.mk.injEq]; exact fun e => hne e.2)] at hst
    exact Nx.next (by omega) ⟨o', by rw [hst] <;> rfl, by rw [hst] <;> rfl⟩
  · rename_i hc he hne
    have hst := others_step (n := (t, k)) (l := l) (i := i) (by omega)
    rw [if_neg (by simp only [nm, ne_eq, Prod.mk.injEq, Classical.not_not]; exact ⟨he, hne⟩), List.append_nil] at hst
    exact Nx.next (by omega) ⟨o, by rw [hst]; rfl, by rw [hst]⟩
  · have : i = l.length := by omega
    subst this
    rw [List.take_length] at hh ⊢
    exact doneN ⟨o, rfl, rfl⟩

def ins (d : Due) (l : List Due) : List Due := l.takeWhile (fun e => decide (lt e d)) ++ d :: l.dropWhile (fun e => decide (lt e d))
theorem while_at {α : Type} [Inhabited α] {p : α → Bool} : ∀ {l : List α} {i : Nat}, i ≤ l.length → (l.take i).all p = true → (i = l.length ∨ p (nth l i) = false) → l.takeWhile p = l.take i ∧ l.dropWhile p = l.drop i
  | [], i, _, _, _ => by simp
  | a :: l, 0, _, _, h => by
    rcases h with h | h
    · simp at h
    · rw [nth_zero] at h; simp [h]
  | a :: l, i + 1, hi, ha, h => by
    rw [List.take_succ_cons, List.all_cons, Bool.and_eq_true] at ha
    have := while_at (l := l) (i := i) (by simpa using hi) ha.2 (by rw [nth_succ] at h; simpa using h)
    simp [ha.1, this.1, this.2]
theorem all_step {α : Type} [Inhabited α] {q : α → Bool} {l : List α} {i : Nat} (hi : i < l.length) (hall : (l.take i).all q = true) (hq : q (nth l i) = true) : (l.take (i + 1)).all q = true := by
  rw [take_getD hi, List.all_append, hall]; simp only [List.all_cons, List.all_nil, hq]; rfl
theorem rput_prog (w : Nat) (b : Bool) (l : List Due) (d : Due) (hl : l.length ≤ 499) : CallsN Try.prog nref16_Put [.slice w 0 l.length 3, .agg d.enc] [WL w b l] fun v Lo => ∃ o o',
    v = .tup [.slice o 0 (ins d (others (nm d) l)).length 3, .bool (decide (((others (nm d) l).length : Int) < (l.length : Int)))] ∧ Lo = [WL o true (ins d (others (nm d) l)), WL o' true (others (nm d) l)] := by
  refine sref16_Put fun H hh => ?_
  dsimp only [cref16_Put]
  refine walk (k := ?_)
  repeat' first | refine And.intro ?_ ?_ | intro
  all_goals refine leaf ?_
  rename_i did _ hh
  have hle := others_le (nm d) l
  refine callN (rdrop_prog w b l (nm d) (by omega)) ?_
  rintro _ _ H' ⟨o', rfl, rfl⟩ hh
  refine walk1 (k := ?_)
  repeat' first | refine And.intro ?_ ?_ | intro
  all_goals refine leaf ?_
  generalize others (nm d) l = r at *
  refine loopN [0, 3, 6, 7, 8] r.length (fun i vs L => ∃ o, (r.take i).all (fun e => decide (lt e d)) = true ∧ vs = [.slice o' 0 r.length 3, .ptr did 0, .bool (decide ((r.length : Int) < (l.length : Int))), .slice o 0 (r.take i).length 3, .int .i64 i] ∧ L = [WL o true (r.take i), WL o' true r, (did, .cells true d.enc), WL w b l]) (Nx.hereW [_, _, _, .slice 0 0 0 3, _] ⟨0, by simp, rfl, rfl⟩) ?_
  clear hh
  rintro i _ _ e H hi ⟨o, hall, rfl, rfl⟩ hh
  simp only [puts]
  have hti : (r.take i).length = i := by simp; omega
  by_cases hn : i < r.length
  · skip
    refine walk1 (k := ?_)
    repeat' first | refine And.intro ?_ ?_ | intro
    all_goals refine leaf ?_
    refine wps_gs_d rfl (fun _ => ?_) (fun h => absurd (show (i : Int) < r.length by omega) h)
    refine walk1 (k := ?_)
    repeat' first | refine And.intro ?_ ?_ | intro
    all_goals refine leaf ?_
    refine callE (ahead_prog (nth r i) d) ?_
    refine walk1 (k := ?_)
    repeat' first | refine And.intro ?_ ?_ | intro
    all_goals refine leaf ?_
    by_cases hlt : lt (nth r i) d
    · refine c_cond_t (by show V.bool _ = _; simp [hlt]) ?_
      refine walk1 (k := ?_)
      repeat' first | refine And.intro ?_ ?_ | intro
      all_goals refine leaf ?_
      rename_i t o2 _ _
      have ht := take_getD hn
      exact Nx.next hn ⟨o2, all_step hn hall (decide_eq_true hlt), by rw [ht]; rfl, by rw [ht]⟩
    · refine c_cond_f (by show V.bool _ = _; simp [hlt]) ?_
      obtain ⟨w1, w2⟩ := while_at (p := fun e => decide (lt e d)) hi hall (.inr (decide_eq_false hlt))
      refine walk1 (k := ?_)
      repeat' first | refine And.intro ?_ ?_ | intro
      all_goals refine leaf ?_
      rename_i t o2 _ hh
      refine wps_apppart hh r (l := r.take i ++ [d]) (enc := Due.enc) (m := 2) (n := r.length - i) (i := i) (L' := fun o3 => [WL o3 true (r.take i ++ [d] ++ (r.drop i).take (r.length - i)), WL o' true r, (did, .cells true d.enc), WL w b l]) rfl rfl (.there .here) (fun _ => rfl) (by omega) (fun o3 => .here1) (by simp; omega) fun o3 _ hh => ?_
      rw [show r.take i ++ [d] ++ (r.drop i).take (r.length - i) = ins d r by rw [ins, w1, w2, List.take_of_length_le (l := r.drop i) (by simp), List.append_assoc]; rfl] at hh ⊢
      refine walk (k := ?_)
      repeat' first | refine And.intro ?_ ?_ | intro
      all_goals refine leaf ?_
      exact doneN ⟨o3, o', rfl, rfl⟩
  · have hir : i = r.length := by omega
    obtain ⟨w1, w2⟩ := while_at (p := fun e => decide (lt e d)) hi hall (.inl hir)
    refine walk1 (k := ?_)
    repeat' first | refine And.intro ?_ ?_ | intro
    all_goals refine leaf ?_
    refine wps_gs_d rfl (fun h => absurd (show (i : Int) < r.length from h) (by omega)) (fun _ => ?_)
    · skip
      refine walk1 (k := ?_)
      repeat' first | refine And.intro ?_ ?_ | intro
      all_goals refine leaf ?_
      rename_i t o2 _ hh
      refine wps_apppart hh r (l := r.take i ++ [d]) (enc := Due.enc) (m := 2) (n := r.length - i) (i := i) (L' := fun o3 => [WL o3 true (r.take i ++ [d] ++ (r.drop i).take (r.length - i)), WL o' true r, (did, .cells true d.enc), WL w b l]) rfl rfl (.there .here) (fun _ => rfl) (by omega) (fun o3 => .here1) (by simp; omega) fun o3 _ hh => ?_
      rw [show r.take i ++ [d] ++ (r.drop i).take (r.length - i) = ins d r by rw [ins, w1, w2, List.take_of_length_le (l := r.drop i) (by simp), List.append_assoc]; rfl] at hh ⊢
      refine walk (k := ?_)
      repeat' first | refine And.intro ?_ ?_ | intro
      all_goals refine leaf ?_
      exact doneN ⟨o3, o', rfl, rfl⟩

theorem rat_prog (w : Nat) (b : Bool) (l : List Due) (n : Int × List UInt8) (hl : l.length ≤ 500) : CallsR Try.prog nref16_At [.slice w 0 l.length 3, .int .i64 n.1, .str n.2] [WL w b l] fun v =>
    v = match l.find? (fun e => decide (nm e = n)) with | none => .tup [.int .i64 0, .bool false] | some e => .tup [.int .i64 e.at_, .bool true] := by
  obtain ⟨t, k⟩ := n
  refine sref16_At fun H hh => ?_
  dsimp only [cref16_At]
  refine walk (k := ?_)
  repeat' first | refine And.intro ?_ ?_ | intro
  all_goals refine leaf ?_
  refine loopN [0, 1, 2, 8] l.length (fun i vs L => l.find? (fun e => decide (nm e = (t, k))) = (l.drop i).find? (fun e => decide (nm e = (t, k))) ∧ vs = [.slice w 0 l.length 3, .int .i64 t, .str k, .int .i64 i] ∧ L = [WL w b l]) (Nx.here ⟨rfl, rfl, rfl⟩) ?_
  clear hh
  rintro i _ _ e H hi ⟨hf, rfl, rfl⟩ hh
  simp only [puts]
  refine walk (k := ?_)
  repeat' first | refine And.intro ?_ ?_ | intro
  all_goals refine leaf ?_
  · rename_i hc he hk
    refine doneR ?_
    rw [hf, drop_getD (by omega), List.find?_cons_of_pos (by simp only [nm, he, hk]; simp)]
  · rename_i hc he hk
    rw [drop_getD (by omega), List.find?_cons_of_neg (by simp only [nm, decide_eq_true_eq, Prod.mk.injEq]; exact fun h => hk h.2)] at hf
    exact Nx.next (by omega) ⟨hf, rfl, rfl⟩
  · rename_i hc he
    rw [drop_getD (by omega), List.find?_cons_of_neg (by simp only [nm, decide_eq_true_eq, Prod.mk.injEq]; exact fun h => he h.1)] at hf
    exact Nx.next (by omega) ⟨hf, rfl, rfl⟩
  · refine doneR ?_
    rw [hf, List.drop_of_length_le (by omega)]; rfl
end Go.Proofs.Ytmebampmjfbahaa
