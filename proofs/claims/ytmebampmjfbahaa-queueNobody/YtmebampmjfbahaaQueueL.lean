/-
  The statements about the queue: all that was put is taken once, in order.
-/
import Derived.Test.YtmebampmjfbahaaQueueR
namespace Go.Proofs.Ytmebampmjfbahaa
open Go Go.CM
set_option maxRecDepth 100000
set_option maxHeartbeats 4000000

/-! The plain law. -/
abbrev SortedD (l : List Due) : Prop := l.Pairwise lt
theorem ins_perm (d : Due) (r : List Due) : (ins d r).Perm (d :: r) := by
  unfold ins
  refine List.perm_middle.trans (.cons _ ?_)
  rw [List.takeWhile_append_dropWhile]
theorem drop_not {p : Due → Prop} {q : Due → Bool} : ∀ {l : List Due}, l.Pairwise (fun a b => q a = false → q b = false) → ∀ e ∈ l.dropWhile q, q e = false
  | [], _, e, h => by simp at h
  | a :: l, hp, e, h => by
    rw [List.dropWhile_cons] at h
    cases ha : q a with
    | true => rw [ha] at h; exact drop_not (p := p) (List.pairwise_cons.1 hp).2 e h
    | false =>
      rw [ha] at h
      rcases List.mem_cons.1 h with rfl | h
      · exact ha
      · exact (List.pairwise_cons.1 hp).1 e h ha
theorem ins_sorted {d : Due} {r : List Due} (h : SortedD r) (hd : ∀ e ∈ r, e ≠ d) : SortedD (ins d r) := by
  unfold ins SortedD
  have hle : r.Pairwise fun a b => decide (lt a d) = false → decide (lt b d) = false := h.imp fun {a b} hab ha => by
    simp only [decide_eq_false_iff_not] at ha ⊢
    exact fun hb => ha (lt_trans hab hb)
  rw [List.pairwise_append]
  refine ⟨h.sublist (List.takeWhile_sublist _), ?_, ?_⟩
  · rw [List.pairwise_cons]
    refine ⟨fun e he => ?_, h.sublist (List.dropWhile_sublist _)⟩
    have h1 := drop_not (p := fun _ => True) hle e he
    simp only [decide_eq_false_iff_not] at h1
    by_cases h2 : lt d e
    · exact h2
    · exact absurd (lt_tri h1 h2) (hd e ((List.dropWhile_sublist _).subset he))
  · intro a ha b hb
    have h1 : lt a d := by
      have := List.all_eq_true.1 (List.all_takeWhile (p := fun e => decide (lt e d)) (l := r)) a ha
      simpa using this
    rcases List.mem_cons.1 hb with rfl | hb
    · exact h1
    · have h2 := drop_not (p := fun _ => True) hle b hb
      simp only [decide_eq_false_iff_not] at h2
      by_cases h3 : lt d b
      · exact lt_trans h1 h3
      · exact absurd (lt_tri h2 h3) (hd b ((List.dropWhile_sublist _).subset hb))
theorem heap_root {its : Its} (h : Heapy its its.length) : ∀ k, k < its.length → ¬ lt (nth its k).2 (nth its 0).2 := by
  intro k
  induction k using Nat.strongRecOn with
  | _ k ih =>
    intro hk
    rcases Nat.eq_zero_or_pos k with rfl | h0
    · exact lt_irrefl _
    · have : par k < k := by unfold par; omega
      exact le_trans' (ih (par k) this (by omega)) (h k h0 hk)
theorem first_is {its : Its} {x : Due} {l : List Due} (h : Heapy its its.length) (hp : (x :: l).Perm (dues its)) (hs : SortedD (x :: l)) : its ≠ [] ∧ (nth its 0).2 = x := by
  have hx : x ∈ dues its := hp.mem_iff.1 (by simp)
  obtain ⟨y, hy, e⟩ := List.mem_map.1 hx
  have hne : its ≠ [] := fun e => by subst e; simp at hy
  have hlt : 0 < its.length := List.length_pos_iff.2 hne
  refine ⟨hne, ?_⟩
  obtain ⟨k, hk, rfl⟩ := List.mem_iff_getElem.1 hy
  have h1 := heap_root h k hk
  rw [nth_getElem hk, e] at h1
  have h2 : (nth its 0).2 ∈ x :: l := hp.mem_iff.2 (List.mem_map_of_mem (nth_mem hlt))
  rcases List.mem_cons.1 h2 with h2 | h2
  · exact h2
  · exact absurd ((List.pairwise_cons.1 hs).1 _ h2) h1
theorem nd_perm {a b : List Due} (h : a.Perm b) (nd : (b.map nm).Nodup) : (a.map nm).Nodup := ((h.map nm).nodup_iff).2 nd

/-- What the queue has is what the document's list has. -/
structure Both (its ms : Its) (want : List Due) : Prop where
  ok : QOk its ms
  perm : want.Perm (dues its)
  sorted : SortedD want
theorem Both.len {its ms : Its} {want : List Due} (h : Both its ms want) : want.length = its.length := by rw [h.perm.length_eq, List.length_map]
theorem Both.put {its ms its' ms' : Its} {want : List Due} {d : Due} (h : Both its ms want) (hq : QOk its' ms') (hp : (dues its').Perm (d :: others (nm d) (dues its))) : Both its' ms' (ins d (others (nm d) want)) := by
  refine ⟨hq, ?_, ins_sorted (h.sorted.sublist List.filter_sublist) fun e he k => ?_⟩
  · refine (ins_perm _ _).trans (.trans (.cons _ (h.perm.filter _)) hp.symm)
  · subst k
    have := (List.mem_filter.1 he).2
    simp at this

theorem all_iff {a b : List Due} (h : a.Perm b) (n : Int × List UInt8) : decide (∀ e ∈ b, nm e ≠ n) = decide (∀ e ∈ a, nm e ≠ n) := by
  rw [Bool.eq_iff_iff, decide_eq_true_iff, decide_eq_true_iff]
  exact ⟨fun k e he => k e (h.mem_iff.1 he), fun k e he => k e (h.mem_iff.2 he)⟩
theorem bput_prog (q s mid : Nat) (ms its : Its) (want : List Due) (d : Due) (hl : want.length ≤ 500) (h : Both its ms want) : CallsL Try.prog nqueue_Queue_Put [.ptr q 0, .agg d.enc] (QL q s mid ms its) fun v L' => ∃ s' ms' its',
    Both its' ms' (ins d (others (nm d) want)) ∧ v = .bool (decide (∀ e ∈ want, nm e ≠ nm d)) ∧ L' = QL q s' mid ms' its' :=
  (put_prog q s mid ms its d (by rw [← h.len]; exact hl) h.ok).mono fun _ _ ⟨s', ms', its', h1, h2, h3, h4⟩ => ⟨s', ms', its', h.put h1 h2, by rw [h3, all_iff h.perm], h4⟩
theorem btake_prog (q s mid : Nat) (ms its : Its) (want : List Due) (hl : want.length ≤ 500) (h : Both its ms want) : CallsL Try.prog nqueue_Queue_Take [.ptr q 0] (QL q s mid ms its) fun v L' => ∃ ms' its',
    Both its' ms' (want.drop 1) ∧ v = (match want with | [] => .tup [.agg Due.zero.enc, .bool false] | d :: _ => .tup [.agg d.enc, .bool true]) ∧ L' = QL q s mid ms' its' := by
  refine (take_prog q s mid ms its (by rw [← h.len]; exact hl) h.ok).mono ?_
  rintro v L' ⟨ms', its', h1, rfl, h2⟩
  refine ⟨ms', its', ?_⟩
  cases want with
  | nil =>
    have : its = [] := List.eq_nil_of_length_eq_zero (by rw [← h.len]; rfl)
    rw [if_pos this] at h2
    obtain ⟨rfl, rfl⟩ := h2
    exact ⟨⟨h1, h.perm, .nil⟩, rfl, rfl⟩
  | cons d want =>
    obtain ⟨f1, f2⟩ := first_is h.ok.heap h.perm h.sorted
    rw [if_neg f1, f2] at h2
    obtain ⟨rfl, h3⟩ := h2
    exact ⟨⟨h1, List.Perm.cons_inv (h.perm.trans h3), (List.pairwise_cons.1 h.sorted).2⟩, rfl, rfl⟩
theorem both0 : Both [] [] [] := ⟨⟨fun k h0 h1 => by simp at h1, .nil, .refl _⟩, .refl _, .nil⟩
theorem ins_length (d : Due) (r : List Due) : (ins d r).length = r.length + 1 := (ins_perm d r).length_eq

theorem awake16_prog : CallsR Try.prog nlaw16_awake [] [] fun v => v = .bool true := by
  refine slaw16_awake fun H hh => ?_
  dsimp only [claw16_awake]
  refine walk (k := ?_)
  repeat' first | refine And.intro ?_ ?_ | intro
  all_goals refine leaf ?_
  refine callL (new_prog) ?_
  rintro _ _ H' ⟨q, mid, rfl, rfl⟩ hh
  refine walk (k := ?_)
  repeat' first | refine And.intro ?_ ?_ | intro
  all_goals refine leaf ?_
  refine callL (bput_prog q 0 mid [] [] [] ⟨0, [107], 5⟩ (by decide) both0) ?_
  rintro _ _ H' ⟨s1, ms1, its1, b1, rfl, rfl⟩ hh
  refine walk (k := ?_)
  repeat' first | refine And.intro ?_ ?_ | intro
  all_goals refine leaf ?_
  refine callL (bput_prog q s1 mid ms1 its1 [⟨0, [107], 5⟩] ⟨0, [106], 3⟩ (by decide) b1) ?_
  rintro _ _ H' ⟨s2, ms2, its2, b2, rfl, rfl⟩ hh
  refine walk (k := ?_)
  repeat' first | refine And.intro ?_ ?_ | intro
  all_goals refine leaf ?_
  refine callL (bput_prog q s2 mid ms2 its2 [⟨0, [106], 3⟩, ⟨0, [107], 5⟩] ⟨0, [107], 2⟩ (by decide) b2) ?_
  rintro _ _ H' ⟨s3, ms3, its3, b3, rfl, rfl⟩ hh
  refine walk (k := ?_)
  repeat' first | refine And.intro ?_ ?_ | intro
  all_goals refine leaf ?_
  refine callL (btake_prog q s3 mid ms3 its3 [⟨0, [107], 2⟩, ⟨0, [106], 3⟩] (by decide) b3) ?_
  rintro _ _ H' ⟨ms4, its4, b4, rfl, rfl⟩ hh
  have hlen := b4.len
  refine walk1 (k := ?_)
  repeat' first | refine And.intro ?_ ?_ | intro
  all_goals refine leaf ?_
  refine wps_slot (s := 23) (v := .bool true) (by show V.bool _ = _; simp) ?_
  refine walk1 (k := ?_)
  repeat' first | refine And.intro ?_ ?_ | intro
  all_goals refine leaf ?_
  refine wps_slot (s := 26) (v := .bool true) (by show V.bool _ = _; simp [nm]) ?_
  refine walk1 (k := ?_)
  repeat' first | refine And.intro ?_ ?_ | intro
  all_goals refine leaf ?_
  refine wps_slot (s := 30) (v := .bool true) (by show V.bool _ = _; simp [nm]) ?_
  refine walk1 (k := ?_)
  repeat' first | refine And.intro ?_ ?_ | intro
  all_goals refine leaf ?_
  refine callE (qlen_prog q s3 mid its4.length) ?_
  refine walk1 (k := ?_)
  repeat' first | refine And.intro ?_ ?_ | intro
  all_goals refine leaf ?_
  rw [← hlen]
  refine walk (k := ?_)
  repeat' first | refine And.intro ?_ ?_ | intro
  all_goals refine leaf ?_
  exact doneR rfl

theorem sorts_prog (t : Nat) (b : Bool) (l : List Due) : CallsR Try.prog nlaw16_QueueSorts [.slice t 0 l.length 3] [WL t b l] fun v => v = .bool true := by
  refine slaw16_QueueSorts fun H hh => ?_
  dsimp only [claw16_QueueSorts]
  refine walk (k := ?_)
  repeat' first | refine And.intro ?_ ?_ | intro
  all_goals refine leaf ?_
  refine callE (awake16_prog) ?_
  refine walk (k := ?_)
  repeat' first | refine And.intro ?_ ?_ | intro
  all_goals refine leaf ?_
  · exact doneR rfl
  refine callL (new_prog) ?_
  rintro _ _ H' ⟨q, mid, rfl, rfl⟩ hh
  refine walk (k := ?_)
  repeat' first | refine And.intro ?_ ?_ | intro
  all_goals refine leaf ?_
  refine loopN [3, 4, 19, 20, 21] l.length (fun i vs L => ∃ s w ms its want, Both its ms want ∧ want.length ≤ i ∧ vs = [.ptr q 0, .slice w 0 want.length 3, .slice t 0 l.length 3, .int .i64 l.length, .int .i64 i] ∧ L = QL q s mid ms its ++ [WL w true want, WL t b l]) (Nx.hereW [_, .slice 0 0 0 3, _, _, _] ⟨0, 0, [], [], [], both0, Nat.le_refl _, rfl, rfl⟩) ?_
  clear hh
  rintro i _ _ e H hi ⟨s, w, ms, its, want, hb, hwl, rfl, rfl⟩ hh
  simp only [puts]
  refine walk (k := ?_)
  repeat' first | refine And.intro ?_ ?_ | intro
  all_goals refine leaf ?_
  · skip
    refine callL (bput_prog q s mid ms its want (nth l i) (by omega) hb) ?_
    rintro _ _ H' ⟨s', ms', its', hb', rfl, rfl⟩ hh
    refine walk1 (k := ?_)
    repeat' first | refine And.intro ?_ ?_ | intro
    all_goals refine leaf ?_
    refine callN (rput_prog w true want (nth l i) (by omega)) ?_
    rintro _ _ H2 ⟨o, o', rfl, rfl⟩ hh
    have hl2 := ins_length (nth l i) (others (nm (nth l i)) want)
    have hl3 := others_le (nm (nth l i)) want
    refine walk1 (k := ?_)
    repeat' first | refine And.intro ?_ ?_ | intro
    all_goals refine leaf ?_
    exact Nx.next (by omega) ⟨s', o, ms', its', _, hb', by omega, rfl, rfl⟩
  · refine loopN [3, 35, 36, 37] want.length (fun k vs L => ∃ ms its, Both its ms (want.drop k) ∧ vs = [.ptr q 0, .slice w 0 want.length 3, .int .i64 want.length, .int .i64 k] ∧ L = QL q s mid ms its ++ [WL w true want, WL t b l]) (Nx.here ⟨ms, its, hb, rfl, rfl⟩) ?_
    clear hh hb
    rintro k _ _ e H hk ⟨ms, its, hb, rfl, rfl⟩ hh
    have hdl : (want.drop k).length ≤ want.length := by simp
    simp only [puts]
    refine walk (k := ?_)
    repeat' first | refine And.intro ?_ ?_ | intro
    all_goals refine leaf ?_
    · rename_i hc _ _ _ _ hh
      have hd := drop_getD (l := want) (i := k) (by omega)
      rw [hd] at hb
      refine callL (btake_prog q s mid ms its (nth want k :: want.drop (k + 1)) (by simp; omega) hb) ?_
      rintro _ _ H' ⟨ms', its', hb', rfl, rfl⟩ hh
      refine walk (k := ?_)
      repeat' first | refine And.intro ?_ ?_ | intro
      all_goals refine leaf ?_
      · rename_i hx
        simp at hx
      · exact Nx.next (by omega) ⟨ms', its', hb', rfl, rfl⟩
    · rename_i hc
      rw [List.drop_of_length_le (by omega)] at hb
      refine callL (btake_prog q s mid ms its [] (by decide) hb) ?_
      rintro _ _ H' ⟨ms', its', hb', rfl, rfl⟩ hh
      have hlen := hb'.len
      refine walk (k := ?_)
      repeat' first | refine And.intro ?_ ?_ | intro
      all_goals refine leaf ?_
      refine callE (qlen_prog q s mid its'.length) ?_
      refine walk (k := ?_)
      repeat' first | refine And.intro ?_ ?_ | intro
      all_goals refine leaf ?_
      refine doneR ?_
      show V.bool _ = _
      simp only [List.drop_nil, List.length_nil] at hlen
      rw [← hlen]; rfl
end Go.Proofs.Ytmebampmjfbahaa
